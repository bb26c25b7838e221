/- The reference's Do, but a crash. -/
import Derived.Test.YtffcglfepobdjaaI1
set_option linter.unusedVariables false
set_option linter.unusedSimpArgs false
set_option maxRecDepth 10000
set_option maxHeartbeats 1500000
namespace Go.Proofs.Ytffcglfepobdjaa
open Go.RowKit

/-- What Do leaves. -/
def DoPost (w : World) (F : Nat → Prop) (R : DS × Int) (e : Ending) (w' : World) : Prop :=
  ∃ vl vr, e = .returned (.tuple #[.agg (stv vl vr R.1).toArray, .int .i64 R.2]) ∧ StAt w' (grow F w w') vl vr R.1 ∧ Keep Noth w w'
theorem DoPost.same {w w' : World} {F : Nat → Prop} {vl vr : Value} {D : DS} {E : Int} {SV : List Value} (H : StAt w F vl vr D) (hst : stv vl vr D = SV) (K : Keep Noth w w') : DoPost w F (D, E) (.returned (.tuple #[.agg SV.toArray, .int .i64 E])) w' :=
  ⟨vl, vr, by rw [← hst], (H.keep K (Dj.noth _)).mono (fun q h => .inl h), K⟩
theorem Keep.noth4 {w w1 w2 w3 w9 : World} {b4 : Nat} (K1 : Keep Noth w w1) (K2 : Keep Noth w1 w2) (K3 : Keep Noth w2 w3) (hb4 : w2.heap.size ≤ b4) (K9 : Keep (Only b4) w3 w9) : Keep Noth w w9 := by
  have h1 := K1.size
  have h2 := K2.size
  exact ((K1.trans K2 (fun _ _ h => h)).trans K3 (fun _ _ h => h)).own K9 (fun q e => by unfold Only at e; subst e; omega)
theorem Rows.none_cap {w : World} {F : Nat → Prop} {e : TypeId} {size : Nat} {A : Option Addr} {n c : Nat} {xs : List (List Value)} (h : Rows w F e size (.slice A n c) xs) : A = none → c = 0 := by
  rintro rfl
  rcases h.own.2 with ⟨hv, h0⟩ | ⟨g, cap, cur, hv, _⟩
  · simp only [Value.slice.injEq] at hv; exact hv.2.2
  · simp at hv

theorem do_none {w : World} {F : Nat → Prop} {vl vr : Value} {D : DS} (H : StAt w F vl vr D) (hok : D.ok) (ho : D.ops ≤ 1099511627776) (hr : D.row.length ≤ 1099511627776) (o : OpV) (hoo : o.ok) (Ab Af : Option Addr) (cb cf : Nat) (h0 : o.kind ≠ 0) (h1 : o.kind ≠ 1) (h2 : o.kind ≠ 2) (h3 : o.kind ≠ 3) :
    Calls Try.prog 20 #[.agg (stv vl vr D).toArray, .agg (opv o Ab Af cb cf).toArray] w (DoPost w F (D, 0)) := by
  obtain ⟨Al, cl, rfl⟩ := H.l.valm
  obtain ⟨Ar, cr, rfl⟩ := H.row.valm
  obtain ⟨n, hn⟩ : ∃ n, n = D.l.length := ⟨_, rfl⟩
  obtain ⟨m, hm⟩ : ∃ n, n = D.row.length := ⟨_, rfl⟩
  obtain ⟨op, hop⟩ : ∃ n : Int, n = (D.ops : Int) := ⟨_, rfl⟩
  obtain ⟨fu, hfu⟩ : ∃ n : Int, n = D.fuse := ⟨_, rfl⟩
  obtain ⟨dn, hdn⟩ : ∃ n : Bool, n = D.down := ⟨_, rfl⟩
  obtain ⟨kd, hkd⟩ : ∃ n : Int, n = o.kind := ⟨_, rfl⟩
  obtain ⟨ok, hok1⟩ : ∃ n : Int, n = o.k := ⟨_, rfl⟩
  obtain ⟨nb, hnb⟩ : ∃ n : Nat, n = o.b.length := ⟨_, rfl⟩
  obtain ⟨nf, hnf⟩ : ∃ n : Nat, n = o.forms.length := ⟨_, rfl⟩
  have hst : (stv (.slice Al D.l.length cl) (.slice Ar D.row.length cr) D) = [.slice Al n cl, .slice Ar m cr, .int .i64 op, .int .i64 fu, .bool dn] := by rw [hn, hm, hop, hfu, hdn]; rfl
  have hov : opv o Ab Af cb cf = [.int .i64 kd, .int .i64 ok, .slice Ab nb cb, .slice Af nf cf] := by rw [hkd, hok1, hnb, hnf]; rfl
  have hkk := hoo.kind
  have hk1 := hoo.k
  rw [← hkd] at hkk
  rw [← hok1] at hk1
  have hkk1 := hkk.1
  have hkk2 := hkk.2
  have hk11 := hk1.1
  have hk12 := hk1.2
  have Hst := hid hst
  rw [hst, hov]
  have HR := hid H
  have Hn := hid hn
  have Hm := hid hm
  have Hop := hid hop
  have Hfu := hid hfu
  have Hdn := hid hdn
  have Hok := hid hok1
  have Hnb := hid hnb
  clear hkk hk1 hst hov hn hm hop hfu hdn hok1 hnb hnf H
  rw [← hkd] at h0 h1 h2 h3
  have b0 : (kd == 0) = false := by simpa using h0
  have b1 : (kd == 1) = false := by simpa using h1
  have b2' : (kd == 2) = false := by simpa using h2
  have b3' : (kd == 3) = false := by simpa using h3
  clear h0 h1 h2 h3 hkd
  go_enter Try.func20, Try.ntmps20
  go_wp2_with (first
    | (guard_target = wpList _ _ _ (Oper.mk _ (Op.box 30 _) _ _ _ _ :: _) _ _; refine wpList_box_v rfl 30 _ rfl [.slice Al n cl, .slice Ar m cr, .int .i64 op, .int .i64 fu, .bool dn] (by rfl) ?_; intro b2 w1 hb2 B1 K1)
    | (guard_target = wpList _ _ _ (Oper.mk _ (Op.box 36 _) _ _ _ _ :: _) _ _; refine wpList_box_v rfl 36 _ rfl [.int .i64 kd, .int .i64 ok, .slice Ab nb cb, .slice Af nf cf] (by rfl) ?_; intro b3 w2 hb3 C2 K2; have B2 := B1.keep K2 id)
    | (guard_target = wpList _ _ _ (Oper.mk _ (Op.alloc 30) _ _ _ _ :: _) _ _; refine wpList_alloc_v rfl 30 rfl zst info30 stz zst_cells ?_; intro b4 w3 hb4 D3 K3; have B3 := B2.keep K3 id; have C3 := C2.keep K3 id; have k0 := C3.cell 0; have k1 := C3.cell 1; have k2 := C3.cell 2; have k3 := C3.cell 3; have s0 := B3.cell 0; have s4 := B3.cell 4; have s3 := B3.cell 3; simp only [List.getElem?_cons_zero, List.getElem?_cons_succ] at k0 k1 k2 k3 s0 s3 s4)
    | (guard_target = wpList _ _ _ (Oper.mk _ (Op.load 30 _) _ _ _ _ :: _) _ _; refine wpList_load_blk rfl 30 _ rfl b2 0 [.slice Al n cl, .slice Ar m cr, .int .i64 op, .int .i64 fu, .bool dn] [.slice Al n cl, .slice Ar m cr, .int .i64 op, .int .i64 fu, .bool dn] 30 _ (by rfl) B3 (part0 _) Try.underlying30 rfl info30 ?_)
    | (guard_target = wpList _ _ _ (Oper.mk _ (Op.store 30 _ _) _ _ _ _ :: _) _ _; refine wpList_store_whole rfl 30 _ _ rfl b4 stz [.slice Al n cl, .slice Ar m cr, .int .i64 op, .int .i64 fu, .bool dn] 30 (by rfl) (by rfl) D3 (by rfl) info30 (st5_one rfl rfl _ _ _) ?_; intro w9 D9 K9))
  refine ret_cell_tmp rfl b4 [.slice Al n cl, .slice Ar m cr, .int .i64 op, .int .i64 fu, .bool dn] 30 _ (.int .i64 0) (by rfl) (by rfl) D9 Try.underlying30 rfl info30 rfl ?_
  exact DoPost.same HR.out Hst.out (K1.noth4 K2 K3 hb4 K9)

theorem arm_post {w w1 w2 w3 w4 w9 : World} {F : Nat → Prop} {vl vr : Value} {D : DS} {op fu mx ok k : Int} {dn : Bool} {va vb : Value} {b2 b4 : Nat} (H : StAt w F vl vr D) (hst : stv vl vr D = [va, vb, .int .i64 op, .int .i64 fu, .bool dn]) (hok : ok = k) (hmx : mx = max ok (-1))
    (K1 : Keep Noth w w1) (K2 : Keep Noth w1 w2) (K3 : Keep Noth w2 w3) (K4 : Keep (Only b2) w3 w4) (hb2 : w.heap.size ≤ b2) (hb4 : w2.heap.size ≤ b4) (K9 : Keep (Only b4) w4 w9) :
    DoPost w F (D.arm k, 0) (.returned (.tuple #[.agg [va, vb, .int .i64 op, .int .i64 mx, .bool dn].toArray, .int .i64 0])) w9 := by
  have h1 := K1.size
  have h2 := K2.size
  have K : Keep Noth w w9 := (((K1.trans K2 (fun _ _ h => h)).trans K3 (fun _ _ h => h)).own K4 (fun q e => by unfold Only at e; subst e; exact hb2)).own K9 (fun q e => by unfold Only at e; subst e; omega)
  refine ⟨vl, vr, ?_, (⟨(H.keep K (Dj.noth _)).l, (H.keep K (Dj.noth _)).row⟩ : StAt w9 F vl vr (D.arm k)).mono (fun q h => .inl h), K⟩
  have e : stv vl vr (D.arm k) = [va, vb, .int .i64 op, .int .i64 mx, .bool dn] := by
    simp only [stv, DS.arm, List.cons.injEq, Value.int.injEq, true_and, and_true] at hst ⊢
    exact ⟨hst.1, hst.2.1, hst.2.2.1, by rw [hmx, hok], hst.2.2.2.2⟩
  rw [e]

theorem do_arm {w : World} {F : Nat → Prop} {vl vr : Value} {D : DS} (H : StAt w F vl vr D) (hok : D.ok) (ho : D.ops ≤ 1099511627776) (hr : D.row.length ≤ 1099511627776) (o : OpV) (hoo : o.ok) (Ab Af : Option Addr) (cb cf : Nat) (h2 : o.kind = 2) :
    Calls Try.prog 20 #[.agg (stv vl vr D).toArray, .agg (opv o Ab Af cb cf).toArray] w (DoPost w F (D.arm o.k, 0)) := by
  obtain ⟨Al, cl, rfl⟩ := H.l.valm
  obtain ⟨Ar, cr, rfl⟩ := H.row.valm
  obtain ⟨n, hn⟩ : ∃ n, n = D.l.length := ⟨_, rfl⟩
  obtain ⟨m, hm⟩ : ∃ n, n = D.row.length := ⟨_, rfl⟩
  obtain ⟨op, hop⟩ : ∃ n : Int, n = (D.ops : Int) := ⟨_, rfl⟩
  obtain ⟨fu, hfu⟩ : ∃ n : Int, n = D.fuse := ⟨_, rfl⟩
  obtain ⟨dn, hdn⟩ : ∃ n : Bool, n = D.down := ⟨_, rfl⟩
  obtain ⟨kd, hkd⟩ : ∃ n : Int, n = o.kind := ⟨_, rfl⟩
  obtain ⟨ok, hok1⟩ : ∃ n : Int, n = o.k := ⟨_, rfl⟩
  obtain ⟨nb, hnb⟩ : ∃ n : Nat, n = o.b.length := ⟨_, rfl⟩
  obtain ⟨nf, hnf⟩ : ∃ n : Nat, n = o.forms.length := ⟨_, rfl⟩
  have hst : (stv (.slice Al D.l.length cl) (.slice Ar D.row.length cr) D) = [.slice Al n cl, .slice Ar m cr, .int .i64 op, .int .i64 fu, .bool dn] := by rw [hn, hm, hop, hfu, hdn]; rfl
  have hov : opv o Ab Af cb cf = [.int .i64 kd, .int .i64 ok, .slice Ab nb cb, .slice Af nf cf] := by rw [hkd, hok1, hnb, hnf]; rfl
  have hkk := hoo.kind
  have hk1 := hoo.k
  rw [← hkd] at hkk
  rw [← hok1] at hk1
  have hkk1 := hkk.1
  have hkk2 := hkk.2
  have hk11 := hk1.1
  have hk12 := hk1.2
  have Hst := hid hst
  rw [hst, hov]
  have HR := hid H
  have Hn := hid hn
  have Hm := hid hm
  have Hop := hid hop
  have Hfu := hid hfu
  have Hdn := hid hdn
  have Hok := hid hok1
  have Hnb := hid hnb
  clear hkk hk1 hst hov hn hm hop hfu hdn hok1 hnb hnf H
  rw [← hkd] at h2
  subst h2
  clear hkd
  by_cases hm1 : ok < -1
  · go_enter Try.func20, Try.ntmps20
    go_wp2_with (first
      | (guard_target = wpList _ _ _ (Oper.mk _ (Op.box 30 _) _ _ _ _ :: _) _ _; refine wpList_box_v rfl 30 _ rfl [.slice Al n cl, .slice Ar m cr, .int .i64 op, .int .i64 fu, .bool dn] (by rfl) ?_; intro b2 w1 hb2 B1 K1)
      | (guard_target = wpList _ _ _ (Oper.mk _ (Op.box 36 _) _ _ _ _ :: _) _ _; refine wpList_box_v rfl 36 _ rfl [.int .i64 2, .int .i64 ok, .slice Ab nb cb, .slice Af nf cf] (by rfl) ?_; intro b3 w2 hb3 C2 K2; have B2 := B1.keep K2 id)
      | (guard_target = wpList _ _ _ (Oper.mk _ (Op.alloc 30) _ _ _ _ :: _) _ _; refine wpList_alloc_v rfl 30 rfl zst info30 stz zst_cells ?_; intro b4 w3 hb4 D3 K3; have B3 := B2.keep K3 id; have C3 := C2.keep K3 id; have k0 := C3.cell 0; have k1 := C3.cell 1; have k2 := C3.cell 2; have k3 := C3.cell 3; have s0 := B3.cell 0; have s4 := B3.cell 4; have s3 := B3.cell 3; simp only [List.getElem?_cons_zero, List.getElem?_cons_succ] at k0 k1 k2 k3 s0 s3 s4)
      | (guard_target = wpList _ _ _ (Oper.mk _ (Op.store 3 _ _) _ _ _ _ :: _) _ _; refine wpList_store_blk rfl 3 _ _ rfl b2 3 _ 30 (.int .i64 (-1)) (by rfl) (by rfl) B3 (by simp) rfl rfl info3' ?_; intro w4 B4 K4; simp only [List.set_cons_zero, List.set_cons_succ] at B4; have D4 := D3.keep K4 (by unfold Only; have := B2.lt; omega))
      | (guard_target = wpList _ _ _ (Oper.mk _ (Op.load 30 _) _ _ _ _ :: _) _ _; refine wpList_load_blk rfl 30 _ rfl b2 0 [.slice Al n cl, .slice Ar m cr, .int .i64 op, .int .i64 (-1), .bool dn] [.slice Al n cl, .slice Ar m cr, .int .i64 op, .int .i64 (-1), .bool dn] 30 _ (by rfl) B4 (part0 _) Try.underlying30 rfl info30 ?_)
      | (guard_target = wpList _ _ _ (Oper.mk _ (Op.store 30 _ _) _ _ _ _ :: _) _ _; refine wpList_store_whole rfl 30 _ _ rfl b4 stz [.slice Al n cl, .slice Ar m cr, .int .i64 op, .int .i64 (-1), .bool dn] 30 (by rfl) (by rfl) D4 (by rfl) info30 (st5_one rfl rfl _ _ _) ?_; intro w9 D9 K9))
    refine ret_cell_tmp rfl b4 [.slice Al n cl, .slice Ar m cr, .int .i64 op, .int .i64 (-1), .bool dn] 30 _ (.int .i64 0) (by rfl) (by rfl) D9 Try.underlying30 rfl info30 rfl ?_
    exact arm_post HR.out Hst.out Hok.out (by omega) K1 K2 K3 K4 hb2 hb4 K9
  · go_enter Try.func20, Try.ntmps20
    go_wp2_with (first
      | (guard_target = wpList _ _ _ (Oper.mk _ (Op.box 30 _) _ _ _ _ :: _) _ _; refine wpList_box_v rfl 30 _ rfl [.slice Al n cl, .slice Ar m cr, .int .i64 op, .int .i64 fu, .bool dn] (by rfl) ?_; intro b2 w1 hb2 B1 K1)
      | (guard_target = wpList _ _ _ (Oper.mk _ (Op.box 36 _) _ _ _ _ :: _) _ _; refine wpList_box_v rfl 36 _ rfl [.int .i64 2, .int .i64 ok, .slice Ab nb cb, .slice Af nf cf] (by rfl) ?_; intro b3 w2 hb3 C2 K2; have B2 := B1.keep K2 id)
      | (guard_target = wpList _ _ _ (Oper.mk _ (Op.alloc 30) _ _ _ _ :: _) _ _; refine wpList_alloc_v rfl 30 rfl zst info30 stz zst_cells ?_; intro b4 w3 hb4 D3 K3; have B3 := B2.keep K3 id; have C3 := C2.keep K3 id; have k0 := C3.cell 0; have k1 := C3.cell 1; have k2 := C3.cell 2; have k3 := C3.cell 3; have s0 := B3.cell 0; have s4 := B3.cell 4; have s3 := B3.cell 3; simp only [List.getElem?_cons_zero, List.getElem?_cons_succ] at k0 k1 k2 k3 s0 s3 s4)
      | (guard_target = wpList _ _ _ (Oper.mk _ (Op.store 3 _ _) _ _ _ _ :: _) _ _; refine wpList_store_blk rfl 3 _ _ rfl b2 3 _ 30 (.int .i64 (ok)) (by rfl) (by rfl) B3 (by simp) rfl rfl info3' ?_; intro w4 B4 K4; simp only [List.set_cons_zero, List.set_cons_succ] at B4; have D4 := D3.keep K4 (by unfold Only; have := B2.lt; omega))
      | (guard_target = wpList _ _ _ (Oper.mk _ (Op.load 30 _) _ _ _ _ :: _) _ _; refine wpList_load_blk rfl 30 _ rfl b2 0 [.slice Al n cl, .slice Ar m cr, .int .i64 op, .int .i64 (ok), .bool dn] [.slice Al n cl, .slice Ar m cr, .int .i64 op, .int .i64 (ok), .bool dn] 30 _ (by rfl) B4 (part0 _) Try.underlying30 rfl info30 ?_)
      | (guard_target = wpList _ _ _ (Oper.mk _ (Op.store 30 _ _) _ _ _ _ :: _) _ _; refine wpList_store_whole rfl 30 _ _ rfl b4 stz [.slice Al n cl, .slice Ar m cr, .int .i64 op, .int .i64 (ok), .bool dn] 30 (by rfl) (by rfl) D4 (by rfl) info30 (st5_one rfl rfl _ _ _) ?_; intro w9 D9 K9))
    refine ret_cell_tmp rfl b4 [.slice Al n cl, .slice Ar m cr, .int .i64 op, .int .i64 (ok), .bool dn] 30 _ (.int .i64 0) (by rfl) (by rfl) D9 Try.underlying30 rfl info30 rfl ?_
    exact arm_post HR.out Hst.out Hok.out (by omega) K1 K2 K3 K4 hb2 hb4 K9

end Go.Proofs.Ytffcglfepobdjaa
