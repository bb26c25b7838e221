/- The reference's Do, a flush. -/
import Derived.Test.YtffcglfepobdjaaI2
set_option linter.unusedVariables false
set_option linter.unusedSimpArgs false
set_option maxRecDepth 10000
set_option maxHeartbeats 1500000
namespace Go.Proofs.Ytffcglfepobdjaa
open Go.RowKit

theorem tick_post {w w1 w2 w3 w4 w5 w9 : World} {F : Nat → Prop} {vl vr : Value} {D : DS} {E : Int} {b2 b4 : Nat} {S : List Value} (H : StAt w F vl vr D) (hst : stv vl vr D.tick = S)
    (K1 : Keep Noth w w1) (K2 : Keep Noth w1 w2) (K3 : Keep Noth w2 w3) (K4 : Keep Noth w3 w4) (K5 : Keep (Only b2) w4 w5) (hb2 : w.heap.size ≤ b2) (hb4 : w2.heap.size ≤ b4) (K9 : Keep (Only b4) w5 w9) :
    DoPost w F (D.tick, E) (.returned (.tuple #[.agg S.toArray, .int .i64 E])) w9 := by
  have h1 := K1.size
  have h2 := K2.size
  have K : Keep Noth w w9 := ((((K1.trans K2 (fun _ _ h => h)).trans K3 (fun _ _ h => h)).trans K4 (fun _ _ h => h)).own K5 (fun q e => by unfold Only at e; subst e; exact hb2)).own K9 (fun q e => by unfold Only at e; subst e; omega)
  exact ⟨vl, vr, by rw [← hst], (⟨(H.keep K (Dj.noth _)).l, (H.keep K (Dj.noth _)).row⟩ : StAt w9 F vl vr D.tick).mono (fun q h => .inl h), K⟩
theorem flushed_post {w w5 wr w6 w7 w9 : World} {F : Nat → Prop} {vl vr v5 : Value} {D : DS} {b2 b4 : Nat} {va vb : Value} {q1 q2 : Int} (hst : stv vl vr D.tick = [va, vb, .int .i64 q1, .int .i64 q2, .bool false]) (HA : Acc w5 wr 52 64 v5 (D.all.map bv))
    (K05 : Keep Noth w w5) (K6 : Keep (Only b2) wr w6) (K7 : Keep (Only b2) w6 w7) (hb2 : w.heap.size ≤ b2) (b2lt : b2 < w5.heap.size) (hb4 : w.heap.size ≤ b4) (b4lt : b4 < w5.heap.size) (K9 : Keep (Only b4) w7 w9) :
    DoPost w F (D.flushed, 0) (.returned (.tuple #[.agg [v5, .slice none 0 0, .int .i64 q1, .int .i64 q2, .bool false].toArray, .int .i64 0])) w9 := by
  have h0 := K05.size
  have h6 := K6.size
  have h7 := K7.size
  have h9 := K9.size
  have o2 : ∀ q, Only b2 q → w.heap.size ≤ q := fun q e => by unfold Only at e; subst e; exact hb2
  have o4 : ∀ q, Only b4 q → w.heap.size ≤ q := fun q e => by unfold Only at e; subst e; exact hb4
  have d2 : Dj (Fresh w5 wr) (Only b2) := fun q a e => by unfold Only at e; subst e; have := a.1; omega
  have d4 : Dj (Fresh w5 wr) (Only b4) := fun q a e => by unfold Only at e; subst e; have := a.1; omega
  have e : stv v5 (.slice none 0 0) D.flushed = [v5, .slice none 0 0, .int .i64 q1, .int .i64 q2, .bool false] := by
    have := hst
    simp only [stv, List.cons.injEq, and_true, true_and] at this ⊢
    exact this.2.2
  refine ⟨v5, .slice none 0 0, by rw [e], ⟨?_, Rows.nil _ _ _ _⟩, (((K05.trans HA.kept (fun _ _ h => h)).own K6 o2).own K7 o2).own K9 o4⟩
  exact (((HA.rows.keep K6 d2).keep K7 d2).keep K9 d4).mono (fun q hq => .inr ⟨by have := hq.1; omega, by have := hq.2; omega⟩)

theorem do_flush {w : World} {F : Nat → Prop} {vl vr : Value} {D : DS} (H : StAt w F vl vr D) (hok : D.ok) (ho : D.ops ≤ 1099511627776) (hr : D.row.length ≤ 1099511627776) (o : OpV) (hoo : o.ok) (Ab Af : Option Addr) (cb cf : Nat) (h1 : o.kind = 1) :
    Calls Try.prog 20 #[.agg (stv vl vr D).toArray, .agg (opv o Ab Af cb cf).toArray] w (DoPost w F (D.flush)) := by
  obtain ⟨Al, cl, rfl⟩ := H.l.valm
  obtain ⟨Ar, cr, rfl⟩ := H.row.valm
  obtain ⟨n, hn⟩ : ∃ n, n = D.l.length := ⟨_, rfl⟩
  obtain ⟨m, hm⟩ : ∃ n, n = D.row.length := ⟨_, rfl⟩
  obtain ⟨op, hop⟩ : ∃ n : Int, n = (D.ops : Int) := ⟨_, rfl⟩
  obtain ⟨fu, hfu⟩ : ∃ n : Int, n = D.fuse := ⟨_, rfl⟩
  obtain ⟨dn, hdn⟩ : ∃ n : Bool, n = D.down := ⟨_, rfl⟩
  obtain ⟨kd, hkd⟩ : ∃ n : Int, n = o.kind := ⟨_, rfl⟩
  obtain ⟨ok, hok1⟩ : ∃ n : Int, n = o.k := ⟨_, rfl⟩
  obtain ⟨nb, hnb⟩ : ∃ n : Nat, n = o.b.length := ⟨_, rfl⟩
  obtain ⟨nf, hnf⟩ : ∃ n : Nat, n = o.forms.length := ⟨_, rfl⟩
  have hst : (stv (.slice Al D.l.length cl) (.slice Ar D.row.length cr) D) = [.slice Al n cl, .slice Ar m cr, .int .i64 op, .int .i64 fu, .bool dn] := by rw [hn, hm, hop, hfu, hdn]; rfl
  have hov : opv o Ab Af cb cf = [.int .i64 kd, .int .i64 ok, .slice Ab nb cb, .slice Af nf cf] := by rw [hkd, hok1, hnb, hnf]; rfl
  have hkk := hoo.kind
  have hk1 := hoo.k
  rw [← hkd] at hkk
  rw [← hok1] at hk1
  have hkk1 := hkk.1
  have hkk2 := hkk.2
  have hk11 := hk1.1
  have hk12 := hk1.2
  have Hst := hid hst
  rw [hst, hov]
  have HR := hid H
  have Hn := hid hn
  have Hm := hid hm
  have Hop := hid hop
  have Hfu := hid hfu
  have Hdn := hid hdn
  have Hok := hid hok1
  have Hnb := hid hnb
  clear hkk hk1 hst hov hn hm hop hfu hdn hok1 hnb hnf H
  rw [← hkd] at h1
  subst h1
  clear hkd
  cases hd : dn with
  | true =>
    subst hd
    have hR : D.flush = (D, 100) := by unfold DS.flush; rw [if_pos Hdn.out.symm]
    rw [hR]
    clear hR
    go_enter Try.func20, Try.ntmps20
    go_wp2_with (first
      | (guard_target = wpList _ _ _ (Oper.mk _ (Op.box 30 _) _ _ _ _ :: _) _ _; refine wpList_box_v rfl 30 _ rfl [.slice Al n cl, .slice Ar m cr, .int .i64 op, .int .i64 fu, .bool true] (by rfl) ?_; intro b2 w1 hb2 B1 K1)
      | (guard_target = wpList _ _ _ (Oper.mk _ (Op.box 36 _) _ _ _ _ :: _) _ _; refine wpList_box_v rfl 36 _ rfl [.int .i64 1, .int .i64 ok, .slice Ab nb cb, .slice Af nf cf] (by rfl) ?_; intro b3 w2 hb3 C2 K2; have B2 := B1.keep K2 id)
      | (guard_target = wpList _ _ _ (Oper.mk _ (Op.alloc 30) _ _ _ _ :: _) _ _; refine wpList_alloc_v rfl 30 rfl zst info30 stz zst_cells ?_; intro b4 w3 hb4 D3 K3; have B3 := B2.keep K3 id; have C3 := C2.keep K3 id; have k0 := C3.cell 0; have k1 := C3.cell 1; have k2 := C3.cell 2; have k3 := C3.cell 3; have s0 := B3.cell 0; have s4 := B3.cell 4; have s3 := B3.cell 3; simp only [List.getElem?_cons_zero, List.getElem?_cons_succ] at k0 k1 k2 k3 s0 s3 s4)
      | (guard_target = wpList _ _ _ (Oper.mk _ (Op.load 30 _) _ _ _ _ :: _) _ _; refine wpList_load_blk rfl 30 _ rfl b2 0 [.slice Al n cl, .slice Ar m cr, .int .i64 op, .int .i64 fu, .bool true] [.slice Al n cl, .slice Ar m cr, .int .i64 op, .int .i64 fu, .bool true] 30 _ (by rfl) B3 (part0 _) Try.underlying30 rfl info30 ?_)
      | (guard_target = wpList _ _ _ (Oper.mk _ (Op.store 30 _ _) _ _ _ _ :: _) _ _; refine wpList_store_whole rfl 30 _ _ rfl b4 stz [.slice Al n cl, .slice Ar m cr, .int .i64 op, .int .i64 fu, .bool true] 30 (by rfl) (by rfl) D3 (by rfl) info30 (st5_one rfl rfl _ _ _) ?_; intro w9 D9 K9))
    refine ret_cell_tmp rfl b4 [.slice Al n cl, .slice Ar m cr, .int .i64 op, .int .i64 fu, .bool true] 30 _ (.int .i64 100) (by rfl) (by rfl) D9 Try.underlying30 rfl info30 rfl ?_
    exact DoPost.same HR.out Hst.out (K1.noth4 K2 K3 hb4 K9)
  | false =>
    subst hd
    obtain ⟨q1, hq1⟩ : ∃ q : Int, q = ((D.ops + 1 : Nat) : Int) := ⟨_, rfl⟩
    obtain ⟨q2, hq2⟩ : ∃ q : Int, q = max (D.fuse - 1) (-1) := ⟨_, rfl⟩
    obtain ⟨t, ht⟩ : ∃ t : Bool, t = (D.fuse == 0) := ⟨_, rfl⟩
    have hst3 : stv (.slice Al D.l.length cl) (.slice Ar D.row.length cr) D.tick = [.slice Al n cl, .slice Ar m cr, .int .i64 q1, .int .i64 q2, .bool t] := by
      rw [hq1, hq2, ht, Hn.out, Hm.out]; rfl
    have hcnt : ∀ W : World, Calls Try.prog 57 #[.agg [.slice Al n cl, .slice Ar m cr, .int .i64 op, .int .i64 fu, .bool false].toArray] W (fun e w' => e = .returned (.agg [.slice Al n cl, .slice Ar m cr, .int .i64 q1, .int .i64 q2, .bool t].toArray) ∧ Keep Noth W w') := fun W => by
      have h := st_count (w := W) (D := D) Hdn.out.symm (vl := .slice Al D.l.length cl) (vr := .slice Ar D.row.length cr) rfl rfl (by omega) hok.fuse hok.fuse'
      rw [Hst.out, hst3] at h
      exact h
    have Hst3 := hid hst3
    have Hcnt := hid hcnt
    clear hst3 hcnt hq1 hq2
    cases htt : t with
    | true =>
      subst htt
      have hf0 : D.fuse = 0 := by simpa using ht.symm
      have hR : D.flush = (D.tick, 100) := by unfold DS.flush; rw [if_neg (by rw [← Hdn.out]; decide), if_pos hf0]
      rw [hR]
      clear hR hf0 ht
      go_enter Try.func20, Try.ntmps20
      go_wp2_with (first
        | (guard_target = wpList _ _ _ (Oper.mk _ (Op.box 30 _) _ _ _ _ :: _) _ _; refine wpList_box_v rfl 30 _ rfl [.slice Al n cl, .slice Ar m cr, .int .i64 op, .int .i64 fu, .bool false] (by rfl) ?_; intro b2 w1 hb2 B1 K1)
        | (guard_target = wpList _ _ _ (Oper.mk _ (Op.box 36 _) _ _ _ _ :: _) _ _; refine wpList_box_v rfl 36 _ rfl [.int .i64 1, .int .i64 ok, .slice Ab nb cb, .slice Af nf cf] (by rfl) ?_; intro b3 w2 hb3 C2 K2; have B2 := B1.keep K2 id)
        | (guard_target = wpList _ _ _ (Oper.mk _ (Op.alloc 30) _ _ _ _ :: _) _ _; refine wpList_alloc_v rfl 30 rfl zst info30 stz zst_cells ?_; intro b4 w3 hb4 D3 K3; have B3 := B2.keep K3 id; have C3 := C2.keep K3 id; have k0 := C3.cell 0; have k1 := C3.cell 1; have k2 := C3.cell 2; have k3 := C3.cell 3; have s0 := B3.cell 0; have s4 := B3.cell 4; have s3 := B3.cell 3; simp only [List.getElem?_cons_zero, List.getElem?_cons_succ] at k0 k1 k2 k3 s0 s3 s4)
        | (go_at_call 57; refine (Hcnt.out _).mono ?_; rintro e w4 ⟨rfl, K4⟩; have B4 := B3.keep K4 id; have D4 := D3.keep K4 id)
        | (guard_target = wpList _ _ _ (Oper.mk _ (Op.store 30 (Operand.tmp 2) _) _ _ _ _ :: _) _ _; refine wpList_store_whole rfl 30 _ _ rfl b2 [.slice Al n cl, .slice Ar m cr, .int .i64 op, .int .i64 fu, .bool false] [.slice Al n cl, .slice Ar m cr, .int .i64 q1, .int .i64 q2, .bool true] 30 (by rfl) (by rfl) B4 (by rfl) info30 (st5_one rfl rfl _ _ _) ?_; intro w5 B5 K5; have f4 := B5.cell 4; simp only [List.getElem?_cons_zero, List.getElem?_cons_succ] at f4)
        | (guard_target = wpList _ _ _ (Oper.mk _ (Op.store 30 (Operand.tmp 4) _) _ _ _ _ :: _) _ _; refine wpList_store_whole rfl 30 _ _ rfl b4 stz [.slice Al n cl, .slice Ar m cr, .int .i64 q1, .int .i64 q2, .bool true] 30 (by rfl) (by rfl) (D4.keep K5 (by unfold Only; have := B2.lt; omega)) (by rfl) info30 (st5_one rfl rfl _ _ _) ?_; intro w9 D9 K9)
        | (have := K5; (guard_target = wpList _ _ _ (Oper.mk _ (Op.load 30 (Operand.tmp 2)) _ _ _ _ :: _) _ _; refine wpList_load_blk rfl 30 _ rfl b2 0 [.slice Al n cl, .slice Ar m cr, .int .i64 q1, .int .i64 q2, .bool true] [.slice Al n cl, .slice Ar m cr, .int .i64 q1, .int .i64 q2, .bool true] 30 _ (by rfl) B5 (part0 _) Try.underlying30 rfl info30 ?_))
        | (guard_target = wpList _ _ _ (Oper.mk _ (Op.load 30 (Operand.tmp 2)) _ _ _ _ :: _) _ _; refine wpList_load_blk rfl 30 _ rfl b2 0 [.slice Al n cl, .slice Ar m cr, .int .i64 op, .int .i64 fu, .bool false] [.slice Al n cl, .slice Ar m cr, .int .i64 op, .int .i64 fu, .bool false] 30 _ (by rfl) B3 (part0 _) Try.underlying30 rfl info30 ?_))
      refine ret_cell_tmp rfl b4 [.slice Al n cl, .slice Ar m cr, .int .i64 q1, .int .i64 q2, .bool true] 30 _ (.int .i64 100) (by rfl) (by rfl) D9 Try.underlying30 rfl info30 rfl ?_
      exact tick_post HR.out Hst3.out K1 K2 K3 K4 K5 hb2 hb4 K9
    | false =>
      subst htt
      have hf0 : ¬ D.fuse = 0 := by simpa using ht.symm
      have hR : D.flush = (D.flushed, 0) := by unfold DS.flush; rw [if_neg (by rw [← Hdn.out]; decide), if_neg hf0]
      rw [hR]
      clear hR hf0 ht
      go_enter Try.func20, Try.ntmps20
      go_wp2_with (first
        | (guard_target = wpList _ _ _ (Oper.mk _ (Op.box 30 _) _ _ _ _ :: _) _ _; refine wpList_box_v rfl 30 _ rfl [.slice Al n cl, .slice Ar m cr, .int .i64 op, .int .i64 fu, .bool false] (by rfl) ?_; intro b2 w1 hb2 B1 K1)
        | (guard_target = wpList _ _ _ (Oper.mk _ (Op.box 36 _) _ _ _ _ :: _) _ _; refine wpList_box_v rfl 36 _ rfl [.int .i64 1, .int .i64 ok, .slice Ab nb cb, .slice Af nf cf] (by rfl) ?_; intro b3 w2 hb3 C2 K2; have B2 := B1.keep K2 id)
        | (guard_target = wpList _ _ _ (Oper.mk _ (Op.alloc 30) _ _ _ _ :: _) _ _; refine wpList_alloc_v rfl 30 rfl zst info30 stz zst_cells ?_; intro b4 w3 hb4 D3 K3; have B3 := B2.keep K3 id; have C3 := C2.keep K3 id; have k0 := C3.cell 0; have k1 := C3.cell 1; have k2 := C3.cell 2; have k3 := C3.cell 3; have s0 := B3.cell 0; have s4 := B3.cell 4; have s3 := B3.cell 3; simp only [List.getElem?_cons_zero, List.getElem?_cons_succ] at k0 k1 k2 k3 s0 s3 s4)
        | (go_at_call 57; refine (Hcnt.out _).mono ?_; rintro e w4 ⟨rfl, K4⟩; have B4 := B3.keep K4 id; have D4 := D3.keep K4 id)
        | (guard_target = wpList _ _ _ (Oper.mk _ (Op.store 30 (Operand.tmp 2) _) _ _ _ _ :: _) _ _; refine wpList_store_whole rfl 30 _ _ rfl b2 [.slice Al n cl, .slice Ar m cr, .int .i64 op, .int .i64 fu, .bool false] [.slice Al n cl, .slice Ar m cr, .int .i64 q1, .int .i64 q2, .bool false] 30 (by rfl) (by rfl) B4 (by rfl) info30 (st5_one rfl rfl _ _ _) ?_; intro w5 B5 K5; have f4 := B5.cell 4; have f0 := B5.cell 0; simp only [List.getElem?_cons_zero, List.getElem?_cons_succ] at f4 f0)
        | (guard_target = wpList _ _ _ (Oper.mk _ (Op.load 30 (Operand.tmp 2)) _ _ _ _ :: _) _ _; refine wpList_load_blk rfl 30 _ rfl b2 0 [.slice Al n cl, .slice Ar m cr, .int .i64 op, .int .i64 fu, .bool false] [.slice Al n cl, .slice Ar m cr, .int .i64 op, .int .i64 fu, .bool false] 30 _ (by rfl) B3 (part0 _) Try.underlying30 rfl info30 ?_))
      have D5 := D4.keep K5 (by unfold Only; have := B2.lt; omega)
      have K05 : Keep Noth w w5 := by
        have h1 := K1.size
        exact (((K1.trans K2 (fun _ _ h => h)).trans K3 (fun _ _ h => h)).trans K4 (fun _ _ h => h)).own K5 (fun q e => by unfold Only at e; subst e; exact hb2)
      have HR5 : Hid (StAt w5 F (.slice Al D.l.length cl) (.slice Ar D.row.length cr) D.tick) := hid ⟨(HR.out.keep K05 (Dj.noth _)).l, (HR.out.keep K05 (Dj.noth _)).row⟩
      have hb4' : w.heap.size ≤ b4 := by have := K1.size; have := K2.size; omega
      have hokt := tick_ok hok
      have hn4 : (n : Int) ≤ 4096 := by have := hok.most; have := Hn.out; omega
      have h24 : b2 ≠ b4 := by have := B2.lt; omega
      have b2lt := B5.lt
      have b4lt := D5.lt
      clear f4 f0
      clear B1 B2 B3 B4 C2 C3 D3 D4 K1 K2 K3 K4 K5 k0 k1 k2 k3 s0 s3 s4
      go_loopw [6, 7] (fun v i wr => ∃ k : Nat, i = .int .i64 k ∧ k ≤ n ∧ Acc w5 wr 52 64 v ((D.all.take k).map bv)) (fun _ i _ => n - (intOf i).toNat)
      case atStart => exact ⟨0, rfl, Nat.zero_le _, Acc.nil _ _ _⟩
      case round =>
        obtain ⟨k, rfl, hkl, HA⟩ := hrel
        have Br := B5.keep HA.kept id
        have c0 := Br.cell 0
        simp only [List.getElem?_cons_zero] at c0
        by_cases hlt : k < n
        · have hlt' : (k : Int) < n := by omega
          have hkl' : k < D.l.length := by rw [← Hn.out]; exact hlt
          have h64 : (D.tick.at k).length = 64 := by have := at_length hok k hkl' D.row.length; rw [List.take_length] at this; exact this
          have H64 := hid h64
          have htk : (D.all.take (k + 1)).map bv = (D.all.take k).map bv ++ [bv (D.tick.at k)] := by
            rw [take_snoc' _ _ (by rw [all_length]; exact hkl'), List.map_append, ← at_all k hkl']; rfl
          have Htk := hid htk
          have HAT := st_at (HR5.out.keep HA.kept (Dj.noth _)) hokt hr k hkl'
          rw [Hst3.out] at HAT
          have HAT' := hid HAT
          clear h64 htk HAT
          go_wp2_with (first
            | (guard_target = wpList _ _ _ (Oper.mk _ (Op.load 30 (Operand.tmp 2)) _ _ _ _ :: _) _ _; refine wpList_load_blk rfl 30 _ rfl b2 0 [.slice Al n cl, .slice Ar m cr, .int .i64 q1, .int .i64 q2, .bool false] [.slice Al n cl, .slice Ar m cr, .int .i64 q1, .int .i64 q2, .bool false] 30 _ (by rfl) Br (part0 _) Try.underlying30 rfl info30 ?_)
            | (go_at_call 55; refine HAT'.out.mono ?_; rintro e wA ⟨rfl, KA⟩)
            | (guard_target = wpList _ _ _ (Oper.mk _ (Op.buildSlice _ _ _) _ _ _ _ :: _) _ _; refine wpList_slice1_v rfl 27 52 _ rfl sl27 (bv (D.tick.at k)) zv info52 zv_size (by decide) (by decide) (by rfl) (by rw [bv_length]; exact H64.out) ?_; intro bA wC hbA BA KC)
            | (at_builtin; refine wpList_append_rows rfl _ _ 27 rfl 52 zv 64 64 sl27 info52 zv_size (by decide) (by decide) _ _ _ [bv (D.tick.at k)] (by rfl) ((HA.rows.keep KA (Dj.noth _)).keep KC (Dj.noth _)) (some ⟨bA, 0, none⟩) 1 1 (by rfl) rfl (fun h => by cases h) (by intro x hx; rw [List.mem_singleton.1 hx, bv_length]; exact H64.out) (by rw [List.flatten_singleton]; exact Reads.of_range BA.rangeAll) (by rw [List.flatten_singleton]; exact bv_one _) (by rw [List.length_map, List.length_take]; omega) ?_; intro v3 w3 HR3 K3))
          rw [← Htk.out] at HR3
          have HN := HA.append (KA.trans KC (fun _ _ h => h)) HR3 K3
          clear HR3 K3 KA KC BA Br c0 HA
          go_roundw
          case rel => exact ⟨k + 1, by go_num, hlt, HN⟩
          case measure => simp [intOf]; omega
        · have hge : k = n := by omega
          subst hge
          rw [Hn.out, ← all_length, List.take_length] at HA
          obtain ⟨v5, hv5⟩ : ∃ v5, v5 = u6 := ⟨_, rfl⟩
          have hone := HA.rows.one_val
          have D6 := D5.keep HA.kept id
          rw [← hv5] at HA hone
          rw [← hv5]
          go_wp2_with (first
            | (guard_target = wpList _ _ _ (Oper.mk _ (Op.store 27 _ _) _ _ _ _ :: _) _ _; refine wpList_store_blk rfl 27 _ _ rfl b2 0 _ 30 v5 (by rfl) (by rfl) Br (by simp) hone.1 hone.2 info27 ?_; intro w6 B6 K6; simp only [List.set_cons_zero] at B6)
            | (guard_target = wpList _ _ _ (Oper.mk _ (Op.store 28 _ _) _ _ _ _ :: _) _ _; refine wpList_store_blk rfl 28 _ _ rfl b2 1 _ 30 (.slice none 0 0) (by rfl) (by rfl) B6 (by simp) rfl rfl info28 ?_; intro w7 B7 K7; simp only [List.set_cons_zero, List.set_cons_succ] at B7)
            | (guard_target = wpList _ _ _ (Oper.mk _ (Op.load 30 (Operand.tmp 2)) _ _ _ _ :: _) _ _; refine wpList_load_blk rfl 30 _ rfl b2 0 [v5, .slice none 0 0, .int .i64 q1, .int .i64 q2, .bool false] [v5, .slice none 0 0, .int .i64 q1, .int .i64 q2, .bool false] 30 _ (by rfl) B7 (part0 _) Try.underlying30 rfl info30 ?_)
            | (guard_target = wpList _ _ _ (Oper.mk _ (Op.store 30 (Operand.tmp 4) _) _ _ _ _ :: _) _ _; refine wpList_store_whole rfl 30 _ _ rfl b4 stz [v5, .slice none 0 0, .int .i64 q1, .int .i64 q2, .bool false] 30 (by rfl) (by rfl) ((D6.keep K6 (fun e => h24 e.symm)).keep K7 (fun e => h24 e.symm)) (by rfl) info30 (st5_one hone.1 rfl _ _ _) ?_; intro w9 D9 K9))
          refine ret_cell_tmp rfl b4 [v5, .slice none 0 0, .int .i64 q1, .int .i64 q2, .bool false] 30 _ (.int .i64 0) (by rfl) (by rfl) D9 Try.underlying30 rfl info30 rfl ?_
          exact flushed_post Hst3.out HA K05 K6 K7 hb2 b2lt hb4' b4lt K9
end Go.Proofs.Ytffcglfepobdjaa
