/- The reference's Do. -/
import Derived.Test.YtffcglfepobdjaaI6
set_option linter.unusedVariables false
set_option linter.unusedSimpArgs false
set_option maxRecDepth 10000
set_option maxHeartbeats 1500000
namespace Go.Proofs.Ytffcglfepobdjaa
open Go.RowKit

theorem do_crash {w : World} {F : Nat → Prop} {vl vr : Value} {D : DS} (H : StAt w F vl vr D) (hok : D.ok) (ho : D.ops ≤ 1099511627776) (hr : D.row.length ≤ 1099511627776) (o : OpV) (hoo : o.ok) (Ab Af : Option Addr) (cb cf : Nat) (hAf : Reads w Af (ints o.forms)) (h3 : o.kind = 3) :
    Calls Try.prog 20 #[.agg (stv vl vr D).toArray, .agg (opv o Ab Af cb cf).toArray] w (DoPost w F (D.crash o.forms, 0)) := by
  obtain ⟨Al, cl, rfl⟩ := H.l.valm
  obtain ⟨Ar, cr, rfl⟩ := H.row.valm
  obtain ⟨n, hn⟩ : ∃ n, n = D.l.length := ⟨_, rfl⟩
  obtain ⟨m, hm⟩ : ∃ n, n = D.row.length := ⟨_, rfl⟩
  obtain ⟨op, hop⟩ : ∃ n : Int, n = (D.ops : Int) := ⟨_, rfl⟩
  obtain ⟨fu, hfu⟩ : ∃ n : Int, n = D.fuse := ⟨_, rfl⟩
  obtain ⟨dn, hdn⟩ : ∃ n : Bool, n = D.down := ⟨_, rfl⟩
  obtain ⟨kd, hkd⟩ : ∃ n : Int, n = o.kind := ⟨_, rfl⟩
  obtain ⟨ok, hok1⟩ : ∃ n : Int, n = o.k := ⟨_, rfl⟩
  obtain ⟨nb, hnb⟩ : ∃ n : Nat, n = o.b.length := ⟨_, rfl⟩
  obtain ⟨nf, hnf⟩ : ∃ n : Nat, n = o.forms.length := ⟨_, rfl⟩
  have hst : (stv (.slice Al D.l.length cl) (.slice Ar D.row.length cr) D) = [.slice Al n cl, .slice Ar m cr, .int .i64 op, .int .i64 fu, .bool dn] := by rw [hn, hm, hop, hfu, hdn]; rfl
  have hov : opv o Ab Af cb cf = [.int .i64 kd, .int .i64 ok, .slice Ab nb cb, .slice Af nf cf] := by rw [hkd, hok1, hnb, hnf]; rfl
  have hkk := hoo.kind
  have hk1 := hoo.k
  rw [← hkd] at hkk
  rw [← hok1] at hk1
  have hkk1 := hkk.1
  have hkk2 := hkk.2
  have hk11 := hk1.1
  have hk12 := hk1.2
  have Hst := hid hst
  have HOV := hid hov
  rw [hst, hov]
  have HR := hid H
  have Hn := hid hn
  have Hm := hid hm
  have Hop := hid hop
  have Hfu := hid hfu
  have Hdn := hid hdn
  have Hok := hid hok1
  have Hnb := hid hnb
  have Hnf := hid hnf
  clear hkk hk1 hst hov hn hm hop hfu hdn hok1 hnb hnf H
  rw [← hkd] at h3
  subst h3
  clear hkd
  have HAf := hid hAf
  clear hAf
  have hcr : ∀ W : World, Keep Noth w W → Calls Try.prog 58 #[.agg [.slice Al n cl, .slice Ar m cr, .int .i64 op, .int .i64 fu, .bool dn].toArray, .slice Af nf cf] W (fun e w' => ∃ vl', e = .returned (.agg (stv vl' (.slice none 0 0) (D.crash o.forms)).toArray) ∧ StAt w' (Fresh W w') vl' (.slice none 0 0) (D.crash o.forms) ∧ Keep Noth W w') := fun W K => by
    have h := st_crash (HR.out.keep K (Dj.noth _)) hok hr Af cf o.forms (HAf.out.keep K (fun _ _ => id)) (by have := hoo.forms; omega) hoo.each
    rw [Hst.out, ← Hnf.out] at h
    exact h
  have Hcr := hid hcr
  clear hcr
  go_enter Try.func20, Try.ntmps20
  go_wp2_with (first
    | (guard_target = wpList _ _ _ (Oper.mk _ (Op.box 30 _) _ _ _ _ :: _) _ _; refine wpList_box_v rfl 30 _ rfl [.slice Al n cl, .slice Ar m cr, .int .i64 op, .int .i64 fu, .bool dn] (by rfl) ?_; intro b2 w1 hb2 B1 K1)
    | (guard_target = wpList _ _ _ (Oper.mk _ (Op.box 36 _) _ _ _ _ :: _) _ _; refine wpList_box_v rfl 36 _ rfl [.int .i64 3, .int .i64 ok, .slice Ab nb cb, .slice Af nf cf] (by rfl) ?_; intro b3 w2 hb3 C2 K2; have B2 := B1.keep K2 id)
    | (guard_target = wpList _ _ _ (Oper.mk _ (Op.alloc 30) _ _ _ _ :: _) _ _; refine wpList_alloc_v rfl 30 rfl zst info30 stz zst_cells ?_; intro b4 w3 hb4 D3 K3; have B3 := B2.keep K3 id; have C3 := C2.keep K3 id; have k0 := C3.cell 0; have k1 := C3.cell 1; have k2 := C3.cell 2; have k3 := C3.cell 3; have s0 := B3.cell 0; have s4 := B3.cell 4; have s3 := B3.cell 3; simp only [List.getElem?_cons_zero, List.getElem?_cons_succ] at k0 k1 k2 k3 s0 s3 s4)
    | (guard_target = wpList _ _ _ (Oper.mk _ (Op.load 30 (Operand.tmp 2)) _ _ _ _ :: _) _ _; refine wpList_load_blk rfl 30 _ rfl b2 0 [.slice Al n cl, .slice Ar m cr, .int .i64 op, .int .i64 fu, .bool dn] [.slice Al n cl, .slice Ar m cr, .int .i64 op, .int .i64 fu, .bool dn] 30 _ (by rfl) B3 (part0 _) Try.underlying30 rfl info30 ?_)
    | (go_at_call 58; refine (Hcr.out _ ((K1.trans K2 (fun _ _ h => h)).trans K3 (fun _ _ h => h))).mono ?_; rintro e w5 ⟨vl5, rfl, S5, K5⟩; obtain ⟨sv, hsv⟩ : ∃ sv, sv = stv vl5 (.slice none 0 0) (D.crash o.forms) := ⟨_, rfl⟩; have Hsl : Hid (sv.length = 5) := (show sv.length = 5 by rw [hsv]; rfl); have Hs1 : Hid (∀ u ∈ sv, u.oneCell' = true) := (show ∀ u ∈ sv, u.oneCell' = true by rw [hsv]; exact stv_one _ S5.l.one_val.1 rfl); rw [← hsv]; have Hsv := hid hsv; clear hsv; have D5 := D3.keep K5 id)
    | (guard_target = wpList _ _ _ (Oper.mk _ (Op.store 30 (Operand.tmp 4) _) _ _ _ _ :: _) _ _; refine wpList_store_whole rfl 30 _ _ rfl b4 stz sv 30 (by rfl) (by rfl) D5 (by rw [Hsl.out]; rfl) (by rw [Hsl.out]; exact info30) Hs1.out ?_; intro w9 D9 K9))
  refine ret_cell_tmp rfl b4 sv 30 _ (.int .i64 0) (by rfl) (by rfl) D9 Try.underlying30 rfl (by rw [Hsl.out]; exact info30) rfl ?_
  rw [Hsv.out]
  have h1s := K1.size
  have h2s := K2.size
  have h3s := K3.size
  have h5s := K5.size
  have h9s := K9.size
  refine ⟨vl5, _, rfl, ((S5.stay2 D5 K9).mono (fun q hq => .inr ⟨by have := hq.1; omega, by have := hq.2; omega⟩)), (((K1.trans K2 (fun _ _ h => h)).trans K3 (fun _ _ h => h)).trans K5 (fun _ _ h => h)).own K9 (fun q e => by unfold Only at e; subst e; omega)⟩

/-- Do. -/
theorem do_calls {w : World} {F : Nat → Prop} {vl vr : Value} {D : DS} (H : StAt w F vl vr D) (hok : D.ok) (ho : D.ops ≤ 1099511627776) (hr : D.row.length ≤ 1099511627776) (o : OpV) (hoo : o.ok) (Ab Af : Option Addr) (cb cf : Nat) (hR : OpAt w o Ab Af) :
    Calls Try.prog 20 #[.agg (stv vl vr D).toArray, .agg (opv o Ab Af cb cf).toArray] w (DoPost w F (D.doOp o)) := by
  unfold DS.doOp
  split
  · rename_i h; exact do_write H hok ho hr o hoo Ab Af cb cf hR.b h
  · rename_i h0
    split
    · rename_i h; exact do_flush H hok ho hr o hoo Ab Af cb cf h
    · rename_i h1
      split
      · rename_i h; exact do_arm H hok ho hr o hoo Ab Af cb cf h
      · rename_i h2
        split
        · rename_i h; exact do_crash H hok ho hr o hoo Ab Af cb cf hR.forms h
        · rename_i h3
          exact do_none H hok ho hr o hoo Ab Af cb cf h0 h1 h2 h3
end Go.Proofs.Ytffcglfepobdjaa
