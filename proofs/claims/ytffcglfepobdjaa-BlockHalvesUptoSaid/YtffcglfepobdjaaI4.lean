/- The reference's Do, a write. -/
import Derived.Test.YtffcglfepobdjaaI3
set_option linter.unusedVariables false
set_option linter.unusedSimpArgs false
set_option maxRecDepth 10000
set_option maxHeartbeats 1500000
namespace Go.Proofs.Ytffcglfepobdjaa
open Go.RowKit

theorem exec_build54 {a : Act} {w : World} {o : Oper} (x y : Operand) (ho : o.op = .build 54 #[(0, x), (1, y)]) (k : Int) (cs : List Value) (hl : cs.length = 64) (hx : a.eval x = .int .i64 k) (hy : a.eval y = .agg cs.toArray) :
    (execOp a.eval o).run Try.prog w = .ok (.value (.agg (.int .i64 k :: cs).toArray)) w := by
  unfold execOp
  simp only [ho, List.map_toArray, List.map_cons, List.map_nil, hx, hy, Sem.run_bind, Sem.run_pure, Result.andThen_ok, build54 k cs hl]
theorem put_st {w w3 w6 w7 w8 : World} {F : Nat → Prop} {vl vr v4 v6 : Value} {D : DS} {b2 k : Nat} {b : List UInt8} (H : StAt w F vl vr D) (K08 : Keep Noth w w8)
    (H7 : Rows w7 (fun q => v4.ownBlock = some q ∨ (w6.heap.size ≤ q ∧ q < w7.heap.size)) 54 65 v6 (D.row.map wv ++ [wv (k, fillz b)])) (K8 : Keep (Only b2) w7 w8) (hw3 : w.heap.size ≤ w3.heap.size) (hb2 : b2 < w3.heap.size) (d8 : ∀ q, v4.ownBlock = some q → w3.heap.size ≤ q) (hs : w3.heap.size ≤ w6.heap.size) :
    StAt w8 (grow F w w8) vl v6 (D.put k b) := by
  have hs8 := K8.size
  refine ⟨((H.keep K08 (Dj.noth _)).l).mono (fun q h => .inl h), ?_⟩
  have e : (D.put k b).row.map wv = D.row.map wv ++ [wv (k, fillz b)] := by simp [DS.put]
  rw [e]
  have hlt := fun q hq => (H7.own.lt q hq).2
  refine ⟨(H7.keep K8 (fun q hq e' => ?_)).own, H7.each, fun q hq => .inr ?_⟩
  · unfold Only at e'; subst e'
    rcases hq with hq | hq
    · have := d8 _ hq; omega
    · omega
  · have h1 := H7.foot q hq
    have h2 := hlt q hq
    refine ⟨?_, by omega⟩
    rcases h1 with h1 | h1
    · have := d8 _ h1; omega
    · omega
theorem StAt.stay2 {w w' : World} {G : Nat → Prop} {vl vr : Value} {D : DS} {b : Nat} {cs : List Value} (H : StAt w G vl vr D) (B : BlockIs w b cs 30) (K : Keep (Only b) w w') : StAt w' G vl vr D :=
  ⟨H.l.stay K (fun k hk e => H.l.ne B (by decide) (by unfold Only at e; rw [hk, e])), H.row.stay K (fun k hk e => H.row.ne B (by decide) (by unfold Only at e; rw [hk, e]))⟩
theorem put_post {w w8 wP wQ w9 : World} {F : Nat → Prop} {vl vr : Value} {D : DS} {E : Int} {b2 b4 : Nat} {S c2 c4 : List Value} (H : StAt w8 (grow F w w8) vl vr D) (hst : stv vl vr D.tick = S) (K08 : Keep Noth w w8)
    (KP : Keep Noth w8 wP) (B2 : BlockIs wP b2 c2 30) (KQ : Keep (Only b2) wP wQ) (hb2 : w.heap.size ≤ b2) (B4 : BlockIs wQ b4 c4 30) (hb4 : w.heap.size ≤ b4) (K9 : Keep (Only b4) wQ w9) :
    DoPost w F (D.tick, E) (.returned (.tuple #[.agg S.toArray, .int .i64 E])) w9 := by
  have h9 := ((H.keep KP (Dj.noth _)).stay2 B2 KQ).stay2 B4 K9
  have hs : w8.heap.size ≤ w9.heap.size := by have := KP.size; have := KQ.size; have := K9.size; omega
  refine ⟨vl, vr, by rw [← hst], (⟨h9.l, h9.row⟩ : StAt w9 (grow F w w8) vl vr D.tick).mono (fun q h => ?_), ((K08.trans KP (fun _ _ h => h)).own KQ (fun q e => by unfold Only at e; subst e; exact hb2)).own K9 (fun q e => by unfold Only at e; subst e; exact hb4)⟩
  rcases h with h | h
  · exact .inl h
  · exact .inr ⟨h.1, Nat.lt_of_lt_of_le h.2 hs⟩

theorem do_write_ok {w : World} {F : Nat → Prop} {vl vr : Value} {D : DS} (H : StAt w F vl vr D) (hok : D.ok) (ho : D.ops ≤ 1099511627776) (hr : D.row.length ≤ 1099511627776) (o : OpV) (hoo : o.ok) (Ab Af : Option Addr) (cb cf : Nat) (hAb : Reads w Ab (bv o.b)) (h0 : o.kind = 0) (hd : D.down = false) (hk0 : 0 ≤ o.k) (hkl : o.k < D.l.length) (h64 : o.b.length ≤ 64) :
    Calls Try.prog 20 #[.agg (stv vl vr D).toArray, .agg (opv o Ab Af cb cf).toArray] w (DoPost w F ((D.put o.k.toNat o.b).tick, if D.fuse == 0 then 100 else 0)) := by
  obtain ⟨Al, cl, rfl⟩ := H.l.valm
  obtain ⟨Ar, cr, rfl⟩ := H.row.valm
  obtain ⟨n, hn⟩ : ∃ n, n = D.l.length := ⟨_, rfl⟩
  obtain ⟨m, hm⟩ : ∃ n, n = D.row.length := ⟨_, rfl⟩
  obtain ⟨op, hop⟩ : ∃ n : Int, n = (D.ops : Int) := ⟨_, rfl⟩
  obtain ⟨fu, hfu⟩ : ∃ n : Int, n = D.fuse := ⟨_, rfl⟩
  obtain ⟨dn, hdn⟩ : ∃ n : Bool, n = D.down := ⟨_, rfl⟩
  obtain ⟨kd, hkd⟩ : ∃ n : Int, n = o.kind := ⟨_, rfl⟩
  obtain ⟨ok, hok1⟩ : ∃ n : Int, n = o.k := ⟨_, rfl⟩
  obtain ⟨nb, hnb⟩ : ∃ n : Nat, n = o.b.length := ⟨_, rfl⟩
  obtain ⟨nf, hnf⟩ : ∃ n : Nat, n = o.forms.length := ⟨_, rfl⟩
  have hst : (stv (.slice Al D.l.length cl) (.slice Ar D.row.length cr) D) = [.slice Al n cl, .slice Ar m cr, .int .i64 op, .int .i64 fu, .bool dn] := by rw [hn, hm, hop, hfu, hdn]; rfl
  have hov : opv o Ab Af cb cf = [.int .i64 kd, .int .i64 ok, .slice Ab nb cb, .slice Af nf cf] := by rw [hkd, hok1, hnb, hnf]; rfl
  have hkk := hoo.kind
  have hk1 := hoo.k
  rw [← hkd] at hkk
  rw [← hok1] at hk1
  have hkk1 := hkk.1
  have hkk2 := hkk.2
  have hk11 := hk1.1
  have hk12 := hk1.2
  have Hst := hid hst
  have HOV := hid hov
  rw [hst, hov]
  have HR := hid H
  have Hn := hid hn
  have Hm := hid hm
  have Hop := hid hop
  have Hfu := hid hfu
  have Hdn := hid hdn
  have Hok := hid hok1
  have Hnb := hid hnb
  clear hkk hk1 hst hov hn hm hop hfu hdn hok1 hnb hnf H
  rw [← hkd] at h0
  subst h0
  clear hkd
  obtain rfl : dn = false := by rw [Hdn.out]; exact hd
  have hx : 0 ≤ ok := by rw [Hok.out]; exact hk0
  have hy : ok < n := by rw [Hok.out, Hn.out]; exact hkl
  have hz : (nb : Int) ≤ 64 := by rw [Hnb.out]; omega
  have htk64 : o.b.take 64 = o.b := List.take_of_length_le h64
  obtain ⟨i54, hi54, -⟩ := info_parts info54
  have Hi54 := hid hi54
  clear hi54
  obtain ⟨q1, hq1⟩ : ∃ q : Int, q = ((D.ops + 1 : Nat) : Int) := ⟨_, rfl⟩
  obtain ⟨q2, hq2⟩ : ∃ q : Int, q = max (D.fuse - 1) (-1) := ⟨_, rfl⟩
  obtain ⟨t, ht⟩ : ∃ t : Bool, t = (D.fuse == 0) := ⟨_, rfl⟩
  have Hd := hid hd
  have Hq1 := hid hq1
  have Hq2 := hid hq2
  have Ht := hid ht
  rw [← ht]
  obtain ⟨E0, hE0⟩ : ∃ E0 : Int, E0 = (if t then 100 else 0) := ⟨_, rfl⟩
  rw [← hE0]
  have HE0 := hid hE0
  clear hd hq1 hq2 ht hE0
  go_enter Try.func20, Try.ntmps20
  go_wp2_with (first
    | (guard_target = wpList _ _ _ (Oper.mk _ (Op.box 30 _) _ _ _ _ :: _) _ _; refine wpList_box_v rfl 30 _ rfl [.slice Al n cl, .slice Ar m cr, .int .i64 op, .int .i64 fu, .bool false] (by rfl) ?_; intro b2 w1 hb2 B1 K1)
    | (guard_target = wpList _ _ _ (Oper.mk _ (Op.box 36 _) _ _ _ _ :: _) _ _; refine wpList_box_v rfl 36 _ rfl [.int .i64 0, .int .i64 ok, .slice Ab nb cb, .slice Af nf cf] (by rfl) ?_; intro b3 w2 hb3 C2 K2; have B2 := B1.keep K2 id)
    | (guard_target = wpList _ _ _ (Oper.mk _ (Op.alloc 30) _ _ _ _ :: _) _ _; refine wpList_alloc_v rfl 30 rfl zst info30 stz zst_cells ?_; intro b4 w3 hb4 D3 K3; have B3 := B2.keep K3 id; have C3 := C2.keep K3 id; have k0 := C3.cell 0; have k1 := C3.cell 1; have k2 := C3.cell 2; have k3 := C3.cell 3; have s0 := B3.cell 0; have s4 := B3.cell 4; have s3 := B3.cell 3; simp only [List.getElem?_cons_zero, List.getElem?_cons_succ] at k0 k1 k2 k3 s0 s3 s4))
  refine wp_region_ordL [(1, true), (2, true), (4, true), (5, true), (6, true), (7, true), (0, false), (3, false), (8, false), (9, true), (10, false), (11, false), (12, true), (13, false)] (fun w' => BlockIs w' b2 [.slice Al n cl, .slice Ar m cr, .int .i64 op, .int .i64 fu, .bool false] 30 ∧ BlockIs w' b3 [.int .i64 0, .int .i64 ok, .slice Ab nb cb, .slice Af nf cf] 36) follows_mixed (by kernel_rfl) ⟨B3.drew, C3.drew⟩ ?_
  simp only [List.map_cons, List.map_nil, List.getElem?_cons_succ, List.getElem?_cons_zero, Option.getD_some]
  refine wpO_pure (v := .pointer (some ⟨b2, 1, none⟩)) (by rfl) (fun w' hw' => by go_simp) ?_
  go_frame
  refine wpO_pure (v := .slice Ar m cr) (by rfl) (fun w' hw' => by have hc := hw'.1.cell 1; simp only [List.getElem?_cons_zero, List.getElem?_cons_succ] at hc; go_simp) ?_
  go_frame
  refine wpO_pure (v := .pointer (some ⟨b3, 1, none⟩)) (by rfl) (fun w' hw' => by go_simp) ?_
  go_frame
  refine wpO_pure (v := .int .i64 ok) (by rfl) (fun w' hw' => by have hc := hw'.2.cell 1; simp only [List.getElem?_cons_zero, List.getElem?_cons_succ] at hc; go_simp) ?_
  go_frame
  refine wpO_pure (v := .pointer (some ⟨b3, 2, none⟩)) (by rfl) (fun w' hw' => by go_simp) ?_
  go_frame
  refine wpO_pure (v := .slice Ab nb cb) (by rfl) (fun w' hw' => by have hc := hw'.2.cell 2; simp only [List.getElem?_cons_zero, List.getElem?_cons_succ] at hc; go_simp) ?_
  go_frame
  refine wpO_run (by rfl) (exec_buildSlice0 28 54 rfl sl28 Hi54.out) (.inr ⟨B3.drew.alloc _, C3.drew.alloc _⟩) ?_
  have hE := Rows.empty w3.drew 54 65
  have BA := B3.drew.alloc (.cells #[] 54)
  have CA := C3.drew.alloc (.cells #[] 54)
  have DA := D3.drew.alloc (.cells #[] 54)
  have KA : Keep Noth w3 (w3.drew.alloc (.cells #[] 54)) := ((Keep.refl Noth w3).drew).alloc _
  have hszA : w3.heap.size < (w3.drew.alloc (.cells #[] 54)).heap.size := by simp
  generalize w3.drew.alloc (.cells #[] 54) = wA at *
  go_frame
  have K3A : Keep Noth w wA := ((K1.trans K2 (fun _ _ h => h)).trans K3 (fun _ _ h => h)).trans KA (fun _ _ h => h)
  have HRA := HR.out.keep K3A (Dj.noth _)
  have HR7 : Rows wA F 54 65 (.slice Ar m cr) (D.row.map wv) := by rw [Hm.out]; exact HRA.row
  have hb2A : b2 < w3.heap.size := B3.lt
  have hb3A : b3 < w3.heap.size := C3.lt
  have hb4A : b4 < w3.heap.size := D3.lt
  have hw3 : w.heap.size ≤ w3.heap.size := by have := K1.size; have := K2.size; have := K3.size; omega
  obtain ⟨v4, w4, hr4, H4, K4⟩ := run_append_rows (P := Try.prog) (w := wA) 28 28 54 zw 65 72 sl28 info54 (by rw [zw_cells, List.size_toArray]; exact wv0_length) (by decide) (by decide) _ (.slice (some ⟨w3.heap.size, 0, none⟩) 0 0) [] (D.row.map wv) hE Ar m cr (by rw [List.length_map, Hm.out]) HR7.none_cap HR7.each (rd_of_own HR7) wvs_one (by have := Hm.out; simp only [List.length_nil]; omega)
  have d7 : ∀ q, (Value.slice (some ⟨w3.heap.size, 0, none⟩) 0 0).ownBlock = some q → q = w3.heap.size := fun q hq => by simp only [Value.ownBlock, Option.some.injEq] at hq; exact hq.symm
  have B4 := BA.keep K4 (fun e => by have := d7 _ e; omega)
  have C4 := CA.keep K4 (fun e => by have := d7 _ e; omega)
  have D4 := DA.keep K4 (fun e => by have := d7 _ e; omega)
  refine wpO_run (by rfl) (exec_append _ _ 28 rfl (by simp [Act.eval]) (by simp [Act.eval]) hr4) (.inr ⟨B4, C4⟩) ?_
  have K04 : Keep Noth w w4 := K3A.own K4 (fun q e => by have := d7 _ e; omega)
  have hs4 := K4.size
  have H4' : Rows w4 (fun q => w3.heap.size ≤ q ∧ q < w4.heap.size) 54 65 v4 (D.row.map wv) := Rows.mono (by simpa using H4) (fun q hq => by
    rcases hq with hq | hq
    · have := d7 q hq; omega
    · omega)
  clear H4 hr4 HR7 HRA hE BA CA DA
  go_frame
  have hfill := st_fill w4 Ab cb o.b 0 (hAb.keep K04 (fun _ _ => id)) (by have := hoo.b; omega) (by omega)
  rw [← Hnb.out, List.drop_zero, htk64] at hfill
  refine wpO_call (by rfl) (exec_call' 56 _ _ rfl Try.func56 (by kernel_rfl) (by rfl) #[.slice Ab nb cb, .int .i64 ((0 : Nat) : Int)] (by simp [Act.eval])) ?_
  refine hfill.mono ?_
  clear hfill
  rintro e w5 ⟨rfl, K5⟩
  have B5 := B4.keep K5 id
  have C5 := C4.keep K5 id
  have D5 := D4.keep K5 id
  have H5 := H4'.keep K5 (Dj.noth _)
  refine ⟨_, rfl, .inr ⟨B5, C5⟩, ?_⟩
  go_frame
  have hbf : (bv (fillz o.b)).length = 64 := by rw [bv_length]; exact fillz_length _ h64
  refine wpO_pure (v := .agg (.int .i64 ok :: bv (fillz o.b)).toArray) (by rfl) (fun w' hw' => exec_build54 _ _ rfl ok _ hbf (by simp [Act.eval]) (by simp [Act.eval])) ?_
  go_frame
  have hwl : (Value.int .i64 ok :: bv (fillz o.b)).length = 65 := by rw [List.length_cons, hbf]
  refine wpO_run (by rfl) (exec_buildSlice1 28 54 _ rfl sl28 (.int .i64 ok :: bv (fillz o.b)) zw info54 (by rw [zw_cells, List.size_toArray]; exact wv0_length) (by decide) (by decide) (by simp [Act.eval, Value.cells]) hwl) (.inr ⟨B5.alloc _, C5.alloc _⟩) ?_
  have K6 : Keep Noth w5 (w5.alloc (.cells (Value.int .i64 ok :: bv (fillz o.b)).toArray 54)) := (Keep.refl _ _).alloc _
  have G6 : BlockIs (w5.alloc (.cells (Value.int .i64 ok :: bv (fillz o.b)).toArray 54)) w5.heap.size (Value.int .i64 ok :: bv (fillz o.b)) 54 := BlockIs.new w5 _ _
  generalize w5.alloc (.cells (Value.int .i64 ok :: bv (fillz o.b)).toArray 54) = w6 at *
  have hwv : wv (o.k.toNat, fillz o.b) = Value.int .i64 ok :: bv (fillz o.b) := by
    show Value.int .i64 ((o.k.toNat : Nat) : Int) :: _ = _
    rw [show ((o.k.toNat : Nat) : Int) = ok by rw [← Hok.out]; omega]
  have B6 := B5.keep K6 id
  have C6 := C5.keep K6 id
  have D6 := D5.keep K6 id
  have H6 := H5.keep K6 (Dj.noth _)
  go_frame
  obtain ⟨v6, w7, hr7, H7, K7⟩ := run_append_rows (P := Try.prog) (w := w6) 28 28 54 zw 65 72 sl28 info54 (by rw [zw_cells, List.size_toArray]; exact wv0_length) (by decide) (by decide) _ v4 (D.row.map wv) [Value.int .i64 ok :: bv (fillz o.b)] H6 (some ⟨w5.heap.size, 0, none⟩) 1 1 rfl (fun h => by cases h) (by intro x hx; rw [List.mem_singleton.1 hx]; exact hwl) (by rw [List.flatten_singleton]; exact Reads.of_range G6.rangeAll) (by rw [List.flatten_singleton, ← hwv]; exact wv_one _) (by rw [List.length_map]; omega)
  have d8 : ∀ q, v4.ownBlock = some q → w3.heap.size ≤ q := fun q hq => (H6.foot q hq).1
  have B7 := B6.keep K7 (fun e => by have := d8 _ e; omega)
  have C7 := C6.keep K7 (fun e => by have := d8 _ e; omega)
  have D7 := D6.keep K7 (fun e => by have := d8 _ e; omega)
  refine wpO_run (by rfl) (exec_append _ _ 28 rfl (by simp [Act.eval]) (by simp [Act.eval]) hr7) (.inr ⟨B7, C7⟩) ?_
  go_frame
  refine wpO_pure (v := .pointer (some ⟨b2, 1, none⟩)) (by rfl) (fun w' hw' => by go_simp) ?_
  go_frame
  refine wpO_store (by rfl) (exec_store_cell 28 _ _ rfl b2 1 v6 _ 30 (by simp [Act.eval]) (by simp [Act.eval]) B7 (by simp) H7.one_val.1 H7.one_val.2 info28) (.inl rfl) ?_
  refine wpO_nil ?_
  have B8 := B7.set 1 v6
  have K8 := (Keep.refl (Only b2) w7).cell 1 v6
  generalize w7.setCell ⟨b2, 1, none⟩ v6 = w8 at *
  simp only [List.set_cons_zero, List.set_cons_succ] at B8
  have D8 := D7.keep K8 (by unfold Only; have := B2.lt; omega)
  have K08 : Keep Noth w w8 := (((K04.trans K5 (fun _ _ h => h)).trans K6 (fun _ _ h => h)).own K7 (fun q e => by have := d8 _ e; omega)).own K8 (fun q e => by unfold Only at e; subst e; exact hb2)
  have hs8 := K8.size
  have hs7 := K7.size
  have hs6 := K6.size
  have hs5 := K5.size
  rw [← hwv] at H7
  have HS8 : StAt w8 (grow F w w8) (.slice Al D.l.length cl) v6 (D.put o.k.toNat o.b) := put_st HR.out K08 H7 K8 hw3 hb2A d8 (by omega)
  have hone6 := H7.one_val.1
  have b2lt8 := B8.lt
  have b4lt8 := D8.lt
  have hb4' : w.heap.size ≤ b4 := by have := K1.size; have := K2.size; omega
  have h24 : b2 ≠ b4 := by have := B2.lt; omega
  clear B1 B2 B3 B4 B5 B6 B7 C2 C3 C4 C5 C6 C7 D3 D4 D5 D6 D7 H4' H5 H6 H7 K4 K5 K6 K7 K8 KA K3A K04 K1 K2 K3 G6 hr7 d7 d8 hwv hwl hbf k0 k1 k2 k3 s0 s3 s4 hs4 hs5 hs6 hs7 hs8 hszA
  go_frame

  have hst2 : stv (.slice Al D.l.length cl) v6 (D.put o.k.toNat o.b) = [.slice Al n cl, v6, .int .i64 op, .int .i64 fu, .bool false] := by
    show [Value.slice Al D.l.length cl, v6, .int .i64 (D.ops : Int), .int .i64 D.fuse, .bool D.down] = _
    rw [Hn.out, Hop.out, Hfu.out, Hd.out]
  have hst3 : stv (.slice Al D.l.length cl) v6 (D.put o.k.toNat o.b).tick = [.slice Al n cl, v6, .int .i64 q1, .int .i64 q2, .bool t] := by
    show [Value.slice Al D.l.length cl, v6, .int .i64 ((D.ops + 1 : Nat) : Int), .int .i64 (max (D.fuse - 1) (-1)), .bool (D.fuse == 0)] = _
    rw [Hn.out, Hq1.out, Hq2.out, Ht.out]
  have hcnt : ∀ W : World, Calls Try.prog 57 #[.agg [.slice Al n cl, v6, .int .i64 op, .int .i64 fu, .bool false].toArray] W (fun e w' => e = .returned (.agg [.slice Al n cl, v6, .int .i64 q1, .int .i64 q2, .bool t].toArray) ∧ Keep Noth W w') := fun W => by
    have h := st_count (w := W) (D := D.put o.k.toNat o.b) Hd.out (vl := .slice Al D.l.length cl) (vr := v6) rfl hone6 (by show D.ops ≤ _; omega) hok.fuse hok.fuse'
    rw [hst2, hst3] at h
    exact h
  have Hst3 := hid hst3
  have Hcnt := hid hcnt
  clear hst2 hst3 hcnt
  cases htt : t with
  | true =>
    subst htt
    obtain rfl : E0 = 100 := HE0.out
    go_wp2_with (first
      | (go_at_call 57; refine (Hcnt.out _).mono ?_; rintro e wP ⟨rfl, KP⟩; have BP := B8.keep KP id; have DP := D8.keep KP id)
      | (guard_target = wpList _ _ _ (Oper.mk _ (Op.store 30 (Operand.tmp 2) _) _ _ _ _ :: _) _ _; refine wpList_store_whole rfl 30 _ _ rfl b2 [.slice Al n cl, v6, .int .i64 op, .int .i64 fu, .bool false] [.slice Al n cl, v6, .int .i64 q1, .int .i64 q2, .bool true] 30 (by rfl) (by rfl) BP (by rfl) info30 (st5_one rfl hone6 _ _ _) ?_; intro wQ BQ KQ; have f4 := BQ.cell 4; simp only [List.getElem?_cons_zero, List.getElem?_cons_succ] at f4)
      | (guard_target = wpList _ _ _ (Oper.mk _ (Op.store 30 (Operand.tmp 4) _) _ _ _ _ :: _) _ _; refine wpList_store_whole rfl 30 _ _ rfl b4 stz [.slice Al n cl, v6, .int .i64 q1, .int .i64 q2, .bool true] 30 (by rfl) (by rfl) (DP.keep KQ (fun e => h24 e.symm)) (by rfl) info30 (st5_one rfl hone6 _ _ _) ?_; intro w9 D9 K9)
      | (have := KQ; (guard_target = wpList _ _ _ (Oper.mk _ (Op.load 30 (Operand.tmp 2)) _ _ _ _ :: _) _ _; refine wpList_load_blk rfl 30 _ rfl b2 0 [.slice Al n cl, v6, .int .i64 q1, .int .i64 q2, .bool true] [.slice Al n cl, v6, .int .i64 q1, .int .i64 q2, .bool true] 30 _ (by rfl) BQ (part0 _) Try.underlying30 rfl info30 ?_))
      | (guard_target = wpList _ _ _ (Oper.mk _ (Op.load 30 (Operand.tmp 2)) _ _ _ _ :: _) _ _; refine wpList_load_blk rfl 30 _ rfl b2 0 [.slice Al n cl, v6, .int .i64 op, .int .i64 fu, .bool false] [.slice Al n cl, v6, .int .i64 op, .int .i64 fu, .bool false] 30 _ (by rfl) B8 (part0 _) Try.underlying30 rfl info30 ?_))
    refine ret_cell_tmp rfl b4 [.slice Al n cl, v6, .int .i64 q1, .int .i64 q2, .bool true] 30 _ (.int .i64 100) (by rfl) (by rfl) D9 Try.underlying30 rfl info30 rfl ?_
    exact put_post HS8 Hst3.out K08 KP BP KQ hb2 (DP.keep KQ (fun e => h24 e.symm)) hb4' K9
  | false =>
    subst htt
    obtain rfl : E0 = 0 := HE0.out
    go_wp2_with (first
      | (go_at_call 57; refine (Hcnt.out _).mono ?_; rintro e wP ⟨rfl, KP⟩; have BP := B8.keep KP id; have DP := D8.keep KP id)
      | (guard_target = wpList _ _ _ (Oper.mk _ (Op.store 30 (Operand.tmp 2) _) _ _ _ _ :: _) _ _; refine wpList_store_whole rfl 30 _ _ rfl b2 [.slice Al n cl, v6, .int .i64 op, .int .i64 fu, .bool false] [.slice Al n cl, v6, .int .i64 q1, .int .i64 q2, .bool false] 30 (by rfl) (by rfl) BP (by rfl) info30 (st5_one rfl hone6 _ _ _) ?_; intro wQ BQ KQ; have f4 := BQ.cell 4; simp only [List.getElem?_cons_zero, List.getElem?_cons_succ] at f4)
      | (guard_target = wpList _ _ _ (Oper.mk _ (Op.store 30 (Operand.tmp 4) _) _ _ _ _ :: _) _ _; refine wpList_store_whole rfl 30 _ _ rfl b4 stz [.slice Al n cl, v6, .int .i64 q1, .int .i64 q2, .bool false] 30 (by rfl) (by rfl) (DP.keep KQ (fun e => h24 e.symm)) (by rfl) info30 (st5_one rfl hone6 _ _ _) ?_; intro w9 D9 K9)
      | (have := KQ; (guard_target = wpList _ _ _ (Oper.mk _ (Op.load 30 (Operand.tmp 2)) _ _ _ _ :: _) _ _; refine wpList_load_blk rfl 30 _ rfl b2 0 [.slice Al n cl, v6, .int .i64 q1, .int .i64 q2, .bool false] [.slice Al n cl, v6, .int .i64 q1, .int .i64 q2, .bool false] 30 _ (by rfl) BQ (part0 _) Try.underlying30 rfl info30 ?_))
      | (guard_target = wpList _ _ _ (Oper.mk _ (Op.load 30 (Operand.tmp 2)) _ _ _ _ :: _) _ _; refine wpList_load_blk rfl 30 _ rfl b2 0 [.slice Al n cl, v6, .int .i64 op, .int .i64 fu, .bool false] [.slice Al n cl, v6, .int .i64 op, .int .i64 fu, .bool false] 30 _ (by rfl) B8 (part0 _) Try.underlying30 rfl info30 ?_))
    refine ret_cell_tmp rfl b4 [.slice Al n cl, v6, .int .i64 q1, .int .i64 q2, .bool false] 30 _ (.int .i64 0) (by rfl) (by rfl) D9 Try.underlying30 rfl info30 rfl ?_
    exact put_post HS8 Hst3.out K08 KP BP KQ hb2 (DP.keep KQ (fun e => h24 e.symm)) hb4' K9

theorem do_write {w : World} {F : Nat → Prop} {vl vr : Value} {D : DS} (H : StAt w F vl vr D) (hok : D.ok) (ho : D.ops ≤ 1099511627776) (hr : D.row.length ≤ 1099511627776) (o : OpV) (hoo : o.ok) (Ab Af : Option Addr) (cb cf : Nat) (hAb : Reads w Ab (bv o.b)) (h0 : o.kind = 0) :
    Calls Try.prog 20 #[.agg (stv vl vr D).toArray, .agg (opv o Ab Af cb cf).toArray] w (DoPost w F (D.write o.k o.b)) := by
  obtain ⟨Al, cl, rfl⟩ := H.l.valm
  obtain ⟨Ar, cr, rfl⟩ := H.row.valm
  obtain ⟨n, hn⟩ : ∃ n, n = D.l.length := ⟨_, rfl⟩
  obtain ⟨m, hm⟩ : ∃ n, n = D.row.length := ⟨_, rfl⟩
  obtain ⟨op, hop⟩ : ∃ n : Int, n = (D.ops : Int) := ⟨_, rfl⟩
  obtain ⟨fu, hfu⟩ : ∃ n : Int, n = D.fuse := ⟨_, rfl⟩
  obtain ⟨dn, hdn⟩ : ∃ n : Bool, n = D.down := ⟨_, rfl⟩
  obtain ⟨kd, hkd⟩ : ∃ n : Int, n = o.kind := ⟨_, rfl⟩
  obtain ⟨ok, hok1⟩ : ∃ n : Int, n = o.k := ⟨_, rfl⟩
  obtain ⟨nb, hnb⟩ : ∃ n : Nat, n = o.b.length := ⟨_, rfl⟩
  obtain ⟨nf, hnf⟩ : ∃ n : Nat, n = o.forms.length := ⟨_, rfl⟩
  have hst : (stv (.slice Al D.l.length cl) (.slice Ar D.row.length cr) D) = [.slice Al n cl, .slice Ar m cr, .int .i64 op, .int .i64 fu, .bool dn] := by rw [hn, hm, hop, hfu, hdn]; rfl
  have hov : opv o Ab Af cb cf = [.int .i64 kd, .int .i64 ok, .slice Ab nb cb, .slice Af nf cf] := by rw [hkd, hok1, hnb, hnf]; rfl
  have hkk := hoo.kind
  have hk1 := hoo.k
  rw [← hkd] at hkk
  rw [← hok1] at hk1
  have hkk1 := hkk.1
  have hkk2 := hkk.2
  have hk11 := hk1.1
  have hk12 := hk1.2
  have Hst := hid hst
  have HOV := hid hov
  rw [hst, hov]
  have HR := hid H
  have Hn := hid hn
  have Hm := hid hm
  have Hop := hid hop
  have Hfu := hid hfu
  have Hdn := hid hdn
  have Hok := hid hok1
  have Hnb := hid hnb
  clear hkk hk1 hst hov hn hm hop hfu hdn hok1 hnb hnf H
  have h00 := h0
  rw [← hkd] at h0
  subst h0
  clear hkd
  have hov : opv o Ab Af cb cf = [.int .i64 0, .int .i64 ok, .slice Ab nb cb, .slice Af nf cf] := by rw [HOV.out]
  cases hd : dn with
  | true =>
    subst hd
    have hR : D.write o.k o.b = (D, 100) := by unfold DS.write; rw [if_pos Hdn.out.symm]
    rw [hR]
    clear hR
    go_enter Try.func20, Try.ntmps20
    go_wp2_with (first
      | (guard_target = wpList _ _ _ (Oper.mk _ (Op.box 30 _) _ _ _ _ :: _) _ _; refine wpList_box_v rfl 30 _ rfl [.slice Al n cl, .slice Ar m cr, .int .i64 op, .int .i64 fu, .bool true] (by rfl) ?_; intro b2 w1 hb2 B1 K1)
      | (guard_target = wpList _ _ _ (Oper.mk _ (Op.box 36 _) _ _ _ _ :: _) _ _; refine wpList_box_v rfl 36 _ rfl [.int .i64 0, .int .i64 ok, .slice Ab nb cb, .slice Af nf cf] (by rfl) ?_; intro b3 w2 hb3 C2 K2; have B2 := B1.keep K2 id)
      | (guard_target = wpList _ _ _ (Oper.mk _ (Op.alloc 30) _ _ _ _ :: _) _ _; refine wpList_alloc_v rfl 30 rfl zst info30 stz zst_cells ?_; intro b4 w3 hb4 D3 K3; have B3 := B2.keep K3 id; have C3 := C2.keep K3 id; have k0 := C3.cell 0; have k1 := C3.cell 1; have k2 := C3.cell 2; have k3 := C3.cell 3; have s0 := B3.cell 0; have s4 := B3.cell 4; have s3 := B3.cell 3; simp only [List.getElem?_cons_zero, List.getElem?_cons_succ] at k0 k1 k2 k3 s0 s3 s4)
      | (guard_target = wpList _ _ _ (Oper.mk _ (Op.load 30 _) _ _ _ _ :: _) _ _; refine wpList_load_blk rfl 30 _ rfl b2 0 [.slice Al n cl, .slice Ar m cr, .int .i64 op, .int .i64 fu, .bool true] [.slice Al n cl, .slice Ar m cr, .int .i64 op, .int .i64 fu, .bool true] 30 _ (by rfl) B3 (part0 _) Try.underlying30 rfl info30 ?_)
      | (guard_target = wpList _ _ _ (Oper.mk _ (Op.store 30 _ _) _ _ _ _ :: _) _ _; refine wpList_store_whole rfl 30 _ _ rfl b4 stz [.slice Al n cl, .slice Ar m cr, .int .i64 op, .int .i64 fu, .bool true] 30 (by rfl) (by rfl) D3 (by rfl) info30 (st5_one rfl rfl _ _ _) ?_; intro w9 D9 K9))
    refine ret_cell_tmp rfl b4 [.slice Al n cl, .slice Ar m cr, .int .i64 op, .int .i64 fu, .bool true] 30 _ (.int .i64 100) (by rfl) (by rfl) D9 Try.underlying30 rfl info30 rfl ?_
    exact DoPost.same HR.out Hst.out (K1.noth4 K2 K3 hb4 K9)
  | false =>
    subst hd
    have hnI : (n : Int) = D.l.length := by rw [Hn.out]
    have hbI : (nb : Int) = o.b.length := by rw [Hnb.out]
    by_cases hbad : ok < 0 ∨ (n : Int) ≤ ok ∨ 64 < (nb : Int)
    · have hR : D.write o.k o.b = (D, 101) := by unfold DS.write; rw [if_neg (by rw [← Hdn.out]; decide), if_pos (by rw [← Hok.out, ← Hn.out]; omega)]
      rw [hR]
      clear hR
      have hor : ok < 0 ∨ ((0 ≤ ok) ∧ (n : Int) ≤ ok) ∨ ((0 ≤ ok) ∧ (ok < n) ∧ 64 < (nb : Int)) := by omega
      clear hbad hbI hnI
      rcases hor with hx | ⟨hx, hy⟩ | ⟨hx, hy, hz⟩
      · go_enter Try.func20, Try.ntmps20
        go_wp2_with (first
          | (guard_target = wpList _ _ _ (Oper.mk _ (Op.box 30 _) _ _ _ _ :: _) _ _; refine wpList_box_v rfl 30 _ rfl [.slice Al n cl, .slice Ar m cr, .int .i64 op, .int .i64 fu, .bool false] (by rfl) ?_; intro b2 w1 hb2 B1 K1)
          | (guard_target = wpList _ _ _ (Oper.mk _ (Op.box 36 _) _ _ _ _ :: _) _ _; refine wpList_box_v rfl 36 _ rfl [.int .i64 0, .int .i64 ok, .slice Ab nb cb, .slice Af nf cf] (by rfl) ?_; intro b3 w2 hb3 C2 K2; have B2 := B1.keep K2 id)
          | (guard_target = wpList _ _ _ (Oper.mk _ (Op.alloc 30) _ _ _ _ :: _) _ _; refine wpList_alloc_v rfl 30 rfl zst info30 stz zst_cells ?_; intro b4 w3 hb4 D3 K3; have B3 := B2.keep K3 id; have C3 := C2.keep K3 id; have k0 := C3.cell 0; have k1 := C3.cell 1; have k2 := C3.cell 2; have k3 := C3.cell 3; have s0 := B3.cell 0; have s4 := B3.cell 4; have s3 := B3.cell 3; simp only [List.getElem?_cons_zero, List.getElem?_cons_succ] at k0 k1 k2 k3 s0 s3 s4)
          | (guard_target = wpList _ _ _ (Oper.mk _ (Op.load 30 _) _ _ _ _ :: _) _ _; refine wpList_load_blk rfl 30 _ rfl b2 0 [.slice Al n cl, .slice Ar m cr, .int .i64 op, .int .i64 fu, .bool false] [.slice Al n cl, .slice Ar m cr, .int .i64 op, .int .i64 fu, .bool false] 30 _ (by rfl) B3 (part0 _) Try.underlying30 rfl info30 ?_)
          | (guard_target = wpList _ _ _ (Oper.mk _ (Op.store 30 _ _) _ _ _ _ :: _) _ _; refine wpList_store_whole rfl 30 _ _ rfl b4 stz [.slice Al n cl, .slice Ar m cr, .int .i64 op, .int .i64 fu, .bool false] 30 (by rfl) (by rfl) D3 (by rfl) info30 (st5_one rfl rfl _ _ _) ?_; intro w9 D9 K9))
        refine ret_cell_tmp rfl b4 [.slice Al n cl, .slice Ar m cr, .int .i64 op, .int .i64 fu, .bool false] 30 _ (.int .i64 101) (by rfl) (by rfl) D9 Try.underlying30 rfl info30 rfl ?_
        exact DoPost.same HR.out Hst.out (K1.noth4 K2 K3 hb4 K9)
      · go_enter Try.func20, Try.ntmps20
        go_wp2_with (first
          | (guard_target = wpList _ _ _ (Oper.mk _ (Op.box 30 _) _ _ _ _ :: _) _ _; refine wpList_box_v rfl 30 _ rfl [.slice Al n cl, .slice Ar m cr, .int .i64 op, .int .i64 fu, .bool false] (by rfl) ?_; intro b2 w1 hb2 B1 K1)
          | (guard_target = wpList _ _ _ (Oper.mk _ (Op.box 36 _) _ _ _ _ :: _) _ _; refine wpList_box_v rfl 36 _ rfl [.int .i64 0, .int .i64 ok, .slice Ab nb cb, .slice Af nf cf] (by rfl) ?_; intro b3 w2 hb3 C2 K2; have B2 := B1.keep K2 id)
          | (guard_target = wpList _ _ _ (Oper.mk _ (Op.alloc 30) _ _ _ _ :: _) _ _; refine wpList_alloc_v rfl 30 rfl zst info30 stz zst_cells ?_; intro b4 w3 hb4 D3 K3; have B3 := B2.keep K3 id; have C3 := C2.keep K3 id; have k0 := C3.cell 0; have k1 := C3.cell 1; have k2 := C3.cell 2; have k3 := C3.cell 3; have s0 := B3.cell 0; have s4 := B3.cell 4; have s3 := B3.cell 3; simp only [List.getElem?_cons_zero, List.getElem?_cons_succ] at k0 k1 k2 k3 s0 s3 s4)
          | (guard_target = wpList _ _ _ (Oper.mk _ (Op.load 30 _) _ _ _ _ :: _) _ _; refine wpList_load_blk rfl 30 _ rfl b2 0 [.slice Al n cl, .slice Ar m cr, .int .i64 op, .int .i64 fu, .bool false] [.slice Al n cl, .slice Ar m cr, .int .i64 op, .int .i64 fu, .bool false] 30 _ (by rfl) B3 (part0 _) Try.underlying30 rfl info30 ?_)
          | (guard_target = wpList _ _ _ (Oper.mk _ (Op.store 30 _ _) _ _ _ _ :: _) _ _; refine wpList_store_whole rfl 30 _ _ rfl b4 stz [.slice Al n cl, .slice Ar m cr, .int .i64 op, .int .i64 fu, .bool false] 30 (by rfl) (by rfl) D3 (by rfl) info30 (st5_one rfl rfl _ _ _) ?_; intro w9 D9 K9))
        refine ret_cell_tmp rfl b4 [.slice Al n cl, .slice Ar m cr, .int .i64 op, .int .i64 fu, .bool false] 30 _ (.int .i64 101) (by rfl) (by rfl) D9 Try.underlying30 rfl info30 rfl ?_
        exact DoPost.same HR.out Hst.out (K1.noth4 K2 K3 hb4 K9)
      · go_enter Try.func20, Try.ntmps20
        go_wp2_with (first
          | (guard_target = wpList _ _ _ (Oper.mk _ (Op.box 30 _) _ _ _ _ :: _) _ _; refine wpList_box_v rfl 30 _ rfl [.slice Al n cl, .slice Ar m cr, .int .i64 op, .int .i64 fu, .bool false] (by rfl) ?_; intro b2 w1 hb2 B1 K1)
          | (guard_target = wpList _ _ _ (Oper.mk _ (Op.box 36 _) _ _ _ _ :: _) _ _; refine wpList_box_v rfl 36 _ rfl [.int .i64 0, .int .i64 ok, .slice Ab nb cb, .slice Af nf cf] (by rfl) ?_; intro b3 w2 hb3 C2 K2; have B2 := B1.keep K2 id)
          | (guard_target = wpList _ _ _ (Oper.mk _ (Op.alloc 30) _ _ _ _ :: _) _ _; refine wpList_alloc_v rfl 30 rfl zst info30 stz zst_cells ?_; intro b4 w3 hb4 D3 K3; have B3 := B2.keep K3 id; have C3 := C2.keep K3 id; have k0 := C3.cell 0; have k1 := C3.cell 1; have k2 := C3.cell 2; have k3 := C3.cell 3; have s0 := B3.cell 0; have s4 := B3.cell 4; have s3 := B3.cell 3; simp only [List.getElem?_cons_zero, List.getElem?_cons_succ] at k0 k1 k2 k3 s0 s3 s4)
          | (guard_target = wpList _ _ _ (Oper.mk _ (Op.load 30 _) _ _ _ _ :: _) _ _; refine wpList_load_blk rfl 30 _ rfl b2 0 [.slice Al n cl, .slice Ar m cr, .int .i64 op, .int .i64 fu, .bool false] [.slice Al n cl, .slice Ar m cr, .int .i64 op, .int .i64 fu, .bool false] 30 _ (by rfl) B3 (part0 _) Try.underlying30 rfl info30 ?_)
          | (guard_target = wpList _ _ _ (Oper.mk _ (Op.store 30 _ _) _ _ _ _ :: _) _ _; refine wpList_store_whole rfl 30 _ _ rfl b4 stz [.slice Al n cl, .slice Ar m cr, .int .i64 op, .int .i64 fu, .bool false] 30 (by rfl) (by rfl) D3 (by rfl) info30 (st5_one rfl rfl _ _ _) ?_; intro w9 D9 K9))
        refine ret_cell_tmp rfl b4 [.slice Al n cl, .slice Ar m cr, .int .i64 op, .int .i64 fu, .bool false] 30 _ (.int .i64 101) (by rfl) (by rfl) D9 Try.underlying30 rfl info30 rfl ?_
        exact DoPost.same HR.out Hst.out (K1.noth4 K2 K3 hb4 K9)
    · have hR : D.write o.k o.b = ((D.put o.k.toNat o.b).tick, if D.fuse == 0 then 100 else 0) := by unfold DS.write; rw [if_neg (by rw [← Hdn.out]; decide), if_neg (by rw [← Hok.out, ← Hn.out]; omega)]
      rw [hR]
      have h9 := do_write_ok HR.out hok ho hr o hoo Ab Af cb cf hAb h00 Hdn.out.symm (by rw [← Hok.out]; omega) (by rw [← Hok.out]; omega) (by omega)
      rw [Hst.out, hov] at h9
      exact h9
end Go.Proofs.Ytffcglfepobdjaa
