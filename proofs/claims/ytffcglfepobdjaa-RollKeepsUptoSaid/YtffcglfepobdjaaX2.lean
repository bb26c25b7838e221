/- What the blocks, the rolls and the document's rolls do, step by step and as plain data: texts I4 I5 I6 I7 I8 J1 K2 K3 K4 K5 K6 K7 K8 K9 K10 L1 K11 L2 K12 L3 L4; no conditions beside those that each theorem states. -/
import Derived.Test.YtffcglfepobdjaaX1
import Derived.Lib.SlBytesConst
import Derived.Laws.Bits64
import Derived.Great.BuildSlice
set_option linter.unusedVariables false
set_option linter.unusedSimpArgs false
set_option maxRecDepth 10000
set_option maxHeartbeats 1500000
namespace Go.Proofs.Ytffcglfepobdjaa
open Go.RowKit
theorem exec_build54 {a : Act} {w : World} {o : Oper} (x y : Operand) (ho : o.op = .build 54 #[(0, x), (1, y)]) (k : Int) (cs : List Value) (hl : cs.length = 64) (hx : a.eval x = .int .i64 k) (hy : a.eval y = .agg cs.toArray) :
  (execOp a.eval o).run Try.prog w = .ok (.value (.agg (.int .i64 k :: cs).toArray)) w := by
 unfold execOp
 simp only [ho, List.map_toArray, List.map_cons, List.map_nil, hx, hy, Sem.run_bind, Sem.run_pure, Result.andThen_ok, build54 k cs hl]
theorem put_st {w w3 w6 w7 w8 : World} {F : Nat → Prop} {vl vr v4 v6 : Value} {D : DS} {b2 k : Nat} {b : List UInt8} (H : StAt w F vl vr D) (K08 : Keep Noth w w8)
  (H7 : Rows w7 (fun q => v4.ownBlock = some q ∨ (w6.heap.size ≤ q ∧ q < w7.heap.size)) 54 65 v6 (D.row.map wv ++ [wv (k, fillz b)])) (K8 : Keep (Only b2) w7 w8) (hw3 : w.heap.size ≤ w3.heap.size) (hb2 : b2 < w3.heap.size) (d8 : ∀ q, v4.ownBlock = some q → w3.heap.size ≤ q) (hs : w3.heap.size ≤ w6.heap.size) :
  StAt w8 (grow F w w8) vl v6 (D.put k b) := by
 have hs8 := K8.size
 refine ⟨((H.keep K08 (Dj.noth _)).l).mono (fun q h => .inl h), ?_⟩
 have e : (D.put k b).row.map wv = D.row.map wv ++ [wv (k, fillz b)] := by simp [DS.put]
 rw [e]
 have hlt := fun q hq => (H7.own.lt q hq).2
 refine ⟨(H7.keep K8 (fun q hq e' => ?_)).own, H7.each, fun q hq => .inr ?_⟩
 ·unfold Only at e'; subst e'
  rcases hq with hq | hq
  ·have := d8 _ hq; omega
  ·omega
 ·have h1 := H7.foot q hq
  have h2 := hlt q hq
  refine ⟨?_, by omega⟩
  rcases h1 with h1 | h1
  ·have := d8 _ h1; omega
  ·omega
theorem StAt.stay2 {w w' : World} {G : Nat → Prop} {vl vr : Value} {D : DS} {b : Nat} {cs : List Value} (H : StAt w G vl vr D) (B : BlockIs w b cs 30) (K : Keep (Only b) w w') : StAt w' G vl vr D :=
 ⟨H.l.stay K (fun k hk e => H.l.ne B (by decide) (by unfold Only at e; rw [hk, e])), H.row.stay K (fun k hk e => H.row.ne B (by decide) (by unfold Only at e; rw [hk, e]))⟩
theorem put_post {w w8 wP wQ w9 : World} {F : Nat → Prop} {vl vr : Value} {D : DS} {E : Int} {b2 b4 : Nat} {S c2 c4 : List Value} (H : StAt w8 (grow F w w8) vl vr D) (hst : stv vl vr D.tick = S) (K08 : Keep Noth w w8)
  (KP : Keep Noth w8 wP) (B2 : BlockIs wP b2 c2 30) (KQ : Keep (Only b2) wP wQ) (hb2 : w.heap.size ≤ b2) (B4 : BlockIs wQ b4 c4 30) (hb4 : w.heap.size ≤ b4) (K9 : Keep (Only b4) wQ w9) :
  DoPost w F (D.tick, E) (.returned (.tuple #[.agg S.toArray, .int .i64 E])) w9 := by
 have h9 := ((H.keep KP (Dj.noth _)).stay2 B2 KQ).stay2 B4 K9
 have hs : w8.heap.size ≤ w9.heap.size := by have := KP.size; have := KQ.size; have := K9.size; omega
 refine ⟨vl, vr, by rw [← hst], (⟨h9.l, h9.row⟩ : StAt w9 (grow F w w8) vl vr D.tick).mono (fun q h => ?_), ((K08.trans KP (fun _ _ h => h)).own KQ (fun q e => by unfold Only at e; subst e; exact hb2)).own K9 (fun q e => by unfold Only at e; subst e; exact hb4)⟩
 rcases h with h | h
 ·exact .inl h
 ·exact .inr ⟨h.1, Nat.lt_of_lt_of_le h.2 hs⟩
theorem do_write_ok {w : World} {F : Nat → Prop} {vl vr : Value} {D : DS} (H : StAt w F vl vr D) (hok : D.ok) (ho : D.ops ≤ 1099511627776) (hr : D.row.length ≤ 1099511627776) (o : OpV) (hoo : o.ok) (Ab Af : Option Addr) (cb cf : Nat) (hAb : Reads w Ab (bv o.b)) (h0 : o.kind = 0) (hd : D.down = false) (hk0 : 0 ≤ o.k) (hkl : o.k < D.l.length) (h64 : o.b.length ≤ 64) :
  Calls Try.prog 20 #[.agg (stv vl vr D).toArray, .agg (opv o Ab Af cb cf).toArray] w (DoPost w F ((D.put o.k.toNat o.b).tick, if D.fuse == 0 then 100 else 0)) := by
 obtain ⟨Al, cl, rfl⟩ := H.l.valm
 obtain ⟨Ar, cr, rfl⟩ := H.row.valm
 obtain ⟨n, hn⟩ : ∃ n, n = D.l.length := ⟨_, rfl⟩
 obtain ⟨m, hm⟩ : ∃ n, n = D.row.length := ⟨_, rfl⟩
 obtain ⟨op, hop⟩ : ∃ n : Int, n = (D.ops : Int) := ⟨_, rfl⟩
 obtain ⟨fu, hfu⟩ : ∃ n : Int, n = D.fuse := ⟨_, rfl⟩
 obtain ⟨dn, hdn⟩ : ∃ n : Bool, n = D.down := ⟨_, rfl⟩
 obtain ⟨kd, hkd⟩ : ∃ n : Int, n = o.kind := ⟨_, rfl⟩
 obtain ⟨ok, hok1⟩ : ∃ n : Int, n = o.k := ⟨_, rfl⟩
 obtain ⟨nb, hnb⟩ : ∃ n : Nat, n = o.b.length := ⟨_, rfl⟩
 obtain ⟨nf, hnf⟩ : ∃ n : Nat, n = o.forms.length := ⟨_, rfl⟩
 have hst : (stv (.slice Al D.l.length cl) (.slice Ar D.row.length cr) D) = [.slice Al n cl, .slice Ar m cr, .int .i64 op, .int .i64 fu, .bool dn] := by rw [hn, hm, hop, hfu, hdn]; rfl
 have hov : opv o Ab Af cb cf = [.int .i64 kd, .int .i64 ok, .slice Ab nb cb, .slice Af nf cf] := by rw [hkd, hok1, hnb, hnf]; rfl
 have hkk := hoo.kind
 have hk1 := hoo.k
 rw [← hkd] at hkk
 rw [← hok1] at hk1
 have hkk1 := hkk.1
 have hkk2 := hkk.2
 have hk11 := hk1.1
 have hk12 := hk1.2
 have Hst := hid hst
 have HOV := hid hov
 rw [hst, hov]
 have HR := hid H
 have Hn := hid hn
 have Hm := hid hm
 have Hop := hid hop
 have Hfu := hid hfu
 have Hdn := hid hdn
 have Hok := hid hok1
 have Hnb := hid hnb
 clear hkk hk1 hst hov hn hm hop hfu hdn hok1 hnb hnf H
 rw [← hkd] at h0
 subst h0
 clear hkd
 obtain rfl : dn = false := by rw [Hdn.out]; exact hd
 have hx : 0 ≤ ok := by rw [Hok.out]; exact hk0
 have hy : ok < n := by rw [Hok.out, Hn.out]; exact hkl
 have hz : (nb : Int) ≤ 64 := by rw [Hnb.out]; omega
 have htk64 : o.b.take 64 = o.b := List.take_of_length_le h64
 obtain ⟨i54, hi54, -⟩ := info_parts info54
 have Hi54 := hid hi54
 clear hi54
 obtain ⟨q1, hq1⟩ : ∃ q : Int, q = ((D.ops + 1 : Nat) : Int) := ⟨_, rfl⟩
 obtain ⟨q2, hq2⟩ : ∃ q : Int, q = max (D.fuse - 1) (-1) := ⟨_, rfl⟩
 obtain ⟨t, ht⟩ : ∃ t : Bool, t = (D.fuse == 0) := ⟨_, rfl⟩
 have Hd := hid hd
 have Hq1 := hid hq1
 have Hq2 := hid hq2
 have Ht := hid ht
 rw [← ht]
 obtain ⟨E0, hE0⟩ : ∃ E0 : Int, E0 = (if t then 100 else 0) := ⟨_, rfl⟩
 rw [← hE0]
 have HE0 := hid hE0
 clear hd hq1 hq2 ht hE0
 go_enter Try.func20, Try.ntmps20
 go_wp2_with (first
  | (guard_target = wpList _ _ _ (Oper.mk _ (Op.box 30 _) _ _ _ _ :: _) _ _; refine wpList_box_v rfl 30 _ rfl [.slice Al n cl, .slice Ar m cr, .int .i64 op, .int .i64 fu, .bool false] (by rfl) ?_; intro b2 w1 hb2 B1 K1)
  | (guard_target = wpList _ _ _ (Oper.mk _ (Op.box 36 _) _ _ _ _ :: _) _ _; refine wpList_box_v rfl 36 _ rfl [.int .i64 0, .int .i64 ok, .slice Ab nb cb, .slice Af nf cf] (by rfl) ?_; intro b3 w2 hb3 C2 K2; have B2 := B1.keep K2 id)
  | (guard_target = wpList _ _ _ (Oper.mk _ (Op.alloc 30) _ _ _ _ :: _) _ _; refine wpList_alloc_v rfl 30 rfl zst info30 stz zst_cells ?_; intro b4 w3 hb4 D3 K3; have B3 := B2.keep K3 id; have C3 := C2.keep K3 id; have k0 := C3.cell 0; have k1 := C3.cell 1; have k2 := C3.cell 2; have k3 := C3.cell 3; have s0 := B3.cell 0; have s4 := B3.cell 4; have s3 := B3.cell 3; simp only [List.getElem?_cons_zero, List.getElem?_cons_succ] at k0 k1 k2 k3 s0 s3 s4))
 refine wp_region_ordL [(1, true), (2, true), (4, true), (5, true), (6, true), (7, true), (0, false), (3, false), (8, false), (9, true), (10, false), (11, false), (12, true), (13, false)] (fun w' => BlockIs w' b2 [.slice Al n cl, .slice Ar m cr, .int .i64 op, .int .i64 fu, .bool false] 30 ∧ BlockIs w' b3 [.int .i64 0, .int .i64 ok, .slice Ab nb cb, .slice Af nf cf] 36) follows_mixed (by kernel_rfl) ⟨B3.drew, C3.drew⟩ ?_
 simp only [List.map_cons, List.map_nil, List.getElem?_cons_succ, List.getElem?_cons_zero, Option.getD_some]
 refine wpO_pure (v := .pointer (some ⟨b2, 1, none⟩)) (by rfl) (fun w' hw' => by go_simp) ?_
 go_frame
 refine wpO_pure (v := .slice Ar m cr) (by rfl) (fun w' hw' => by have hc := hw'.1.cell 1; simp only [List.getElem?_cons_zero, List.getElem?_cons_succ] at hc; go_simp) ?_
 go_frame
 refine wpO_pure (v := .pointer (some ⟨b3, 1, none⟩)) (by rfl) (fun w' hw' => by go_simp) ?_
 go_frame
 refine wpO_pure (v := .int .i64 ok) (by rfl) (fun w' hw' => by have hc := hw'.2.cell 1; simp only [List.getElem?_cons_zero, List.getElem?_cons_succ] at hc; go_simp) ?_
 go_frame
 refine wpO_pure (v := .pointer (some ⟨b3, 2, none⟩)) (by rfl) (fun w' hw' => by go_simp) ?_
 go_frame
 refine wpO_pure (v := .slice Ab nb cb) (by rfl) (fun w' hw' => by have hc := hw'.2.cell 2; simp only [List.getElem?_cons_zero, List.getElem?_cons_succ] at hc; go_simp) ?_
 go_frame
 refine wpO_run (by rfl) (exec_buildSlice0 28 54 rfl sl28 Hi54.out) (.inr ⟨B3.drew.alloc _, C3.drew.alloc _⟩) ?_
 have hE := Rows.empty w3.drew 54 65
 have BA := B3.drew.alloc (.cells #[] 54)
 have CA := C3.drew.alloc (.cells #[] 54)
 have DA := D3.drew.alloc (.cells #[] 54)
 have KA : Keep Noth w3 (w3.drew.alloc (.cells #[] 54)) := ((Keep.refl Noth w3).drew).alloc _
 have hszA : w3.heap.size < (w3.drew.alloc (.cells #[] 54)).heap.size := by simp
 generalize w3.drew.alloc (.cells #[] 54) = wA at *
 go_frame
 have K3A : Keep Noth w wA := ((K1.trans K2 (fun _ _ h => h)).trans K3 (fun _ _ h => h)).trans KA (fun _ _ h => h)
 have HRA := HR.out.keep K3A (Dj.noth _)
 have HR7 : Rows wA F 54 65 (.slice Ar m cr) (D.row.map wv) := by rw [Hm.out]; exact HRA.row
 have hb2A : b2 < w3.heap.size := B3.lt
 have hb3A : b3 < w3.heap.size := C3.lt
 have hb4A : b4 < w3.heap.size := D3.lt
 have hw3 : w.heap.size ≤ w3.heap.size := by have := K1.size; have := K2.size; have := K3.size; omega
 obtain ⟨v4, w4, hr4, H4, K4⟩ := run_append_rows (P := Try.prog) (w := wA) 28 28 54 zw 65 72 sl28 info54 (by rw [zw_cells, List.size_toArray]; exact wv0_length) (by decide) (by decide) _ (.slice (some ⟨w3.heap.size, 0, none⟩) 0 0) [] (D.row.map wv) hE Ar m cr (by rw [List.length_map, Hm.out]) HR7.none_cap HR7.each (rd_of_own HR7) wvs_one (by have := Hm.out; simp only [List.length_nil]; omega)
 have d7 : ∀ q, (Value.slice (some ⟨w3.heap.size, 0, none⟩) 0 0).ownBlock = some q → q = w3.heap.size := fun q hq => by simp only [Value.ownBlock, Option.some.injEq] at hq; exact hq.symm
 have B4 := BA.keep K4 (fun e => by have := d7 _ e; omega)
 have C4 := CA.keep K4 (fun e => by have := d7 _ e; omega)
 have D4 := DA.keep K4 (fun e => by have := d7 _ e; omega)
 refine wpO_run (by rfl) (exec_append _ _ 28 rfl (by simp [Act.eval]) (by simp [Act.eval]) hr4) (.inr ⟨B4, C4⟩) ?_
 have K04 : Keep Noth w w4 := K3A.own K4 (fun q e => by have := d7 _ e; omega)
 have hs4 := K4.size
 have H4' : Rows w4 (fun q => w3.heap.size ≤ q ∧ q < w4.heap.size) 54 65 v4 (D.row.map wv) := Rows.mono (by simpa using H4) (fun q hq => by
  rcases hq with hq | hq
  ·have := d7 q hq; omega
  ·omega)
 clear H4 hr4 HR7 HRA hE BA CA DA
 go_frame
 have hfill := st_fill w4 Ab cb o.b 0 (hAb.keep K04 (fun _ _ => id)) (by have := hoo.b; omega) (by omega)
 rw [← Hnb.out, List.drop_zero, htk64] at hfill
 refine wpO_call (by rfl) (exec_call' 56 _ _ rfl Try.func56 (by kernel_rfl) (by rfl) #[.slice Ab nb cb, .int .i64 ((0 : Nat) : Int)] (by simp [Act.eval])) ?_
 refine hfill.mono ?_
 clear hfill
 rintro e w5 ⟨rfl, K5⟩
 have B5 := B4.keep K5 id
 have C5 := C4.keep K5 id
 have D5 := D4.keep K5 id
 have H5 := H4'.keep K5 (Dj.noth _)
 refine ⟨_, rfl, .inr ⟨B5, C5⟩, ?_⟩
 go_frame
 have hbf : (bv (fillz o.b)).length = 64 := by rw [bv_length]; exact fillz_length _ h64
 refine wpO_pure (v := .agg (.int .i64 ok :: bv (fillz o.b)).toArray) (by rfl) (fun w' hw' => exec_build54 _ _ rfl ok _ hbf (by simp [Act.eval]) (by simp [Act.eval])) ?_
 go_frame
 have hwl : (Value.int .i64 ok :: bv (fillz o.b)).length = 65 := by rw [List.length_cons, hbf]
 refine wpO_run (by rfl) (exec_buildSlice1 28 54 _ rfl sl28 (.int .i64 ok :: bv (fillz o.b)) zw info54 (by rw [zw_cells, List.size_toArray]; exact wv0_length) (by decide) (by decide) (by simp [Act.eval, Value.cells]) hwl) (.inr ⟨B5.alloc _, C5.alloc _⟩) ?_
 have K6 : Keep Noth w5 (w5.alloc (.cells (Value.int .i64 ok :: bv (fillz o.b)).toArray 54)) := (Keep.refl _ _).alloc _
 have G6 : BlockIs (w5.alloc (.cells (Value.int .i64 ok :: bv (fillz o.b)).toArray 54)) w5.heap.size (Value.int .i64 ok :: bv (fillz o.b)) 54 := BlockIs.new w5 _ _
 generalize w5.alloc (.cells (Value.int .i64 ok :: bv (fillz o.b)).toArray 54) = w6 at *
 have hwv : wv (o.k.toNat, fillz o.b) = Value.int .i64 ok :: bv (fillz o.b) := by
  show Value.int .i64 ((o.k.toNat : Nat) : Int) :: _ = _
  rw [show ((o.k.toNat : Nat) : Int) = ok by rw [← Hok.out]; omega]
 have B6 := B5.keep K6 id
 have C6 := C5.keep K6 id
 have D6 := D5.keep K6 id
 have H6 := H5.keep K6 (Dj.noth _)
 go_frame
 obtain ⟨v6, w7, hr7, H7, K7⟩ := run_append_rows (P := Try.prog) (w := w6) 28 28 54 zw 65 72 sl28 info54 (by rw [zw_cells, List.size_toArray]; exact wv0_length) (by decide) (by decide) _ v4 (D.row.map wv) [Value.int .i64 ok :: bv (fillz o.b)] H6 (some ⟨w5.heap.size, 0, none⟩) 1 1 rfl (fun h => by cases h) (by intro x hx; rw [List.mem_singleton.1 hx]; exact hwl) (by rw [List.flatten_singleton]; exact Reads.of_range G6.rangeAll) (by rw [List.flatten_singleton, ← hwv]; exact wv_one _) (by rw [List.length_map]; omega)
 have d8 : ∀ q, v4.ownBlock = some q → w3.heap.size ≤ q := fun q hq => (H6.foot q hq).1
 have B7 := B6.keep K7 (fun e => by have := d8 _ e; omega)
 have C7 := C6.keep K7 (fun e => by have := d8 _ e; omega)
 have D7 := D6.keep K7 (fun e => by have := d8 _ e; omega)
 refine wpO_run (by rfl) (exec_append _ _ 28 rfl (by simp [Act.eval]) (by simp [Act.eval]) hr7) (.inr ⟨B7, C7⟩) ?_
 go_frame
 refine wpO_pure (v := .pointer (some ⟨b2, 1, none⟩)) (by rfl) (fun w' hw' => by go_simp) ?_
 go_frame
 refine wpO_store (by rfl) (exec_store_cell 28 _ _ rfl b2 1 v6 _ 30 (by simp [Act.eval]) (by simp [Act.eval]) B7 (by simp) H7.one_val.1 H7.one_val.2 info28) (.inl rfl) ?_
 refine wpO_nil ?_
 have B8 := B7.set 1 v6
 have K8 := (Keep.refl (Only b2) w7).cell 1 v6
 generalize w7.setCell ⟨b2, 1, none⟩ v6 = w8 at *
 simp only [List.set_cons_zero, List.set_cons_succ] at B8
 have D8 := D7.keep K8 (by unfold Only; have := B2.lt; omega)
 have K08 : Keep Noth w w8 := (((K04.trans K5 (fun _ _ h => h)).trans K6 (fun _ _ h => h)).own K7 (fun q e => by have := d8 _ e; omega)).own K8 (fun q e => by unfold Only at e; subst e; exact hb2)
 have hs8 := K8.size
 have hs7 := K7.size
 have hs6 := K6.size
 have hs5 := K5.size
 rw [← hwv] at H7
 have HS8 : StAt w8 (grow F w w8) (.slice Al D.l.length cl) v6 (D.put o.k.toNat o.b) := put_st HR.out K08 H7 K8 hw3 hb2A d8 (by omega)
 have hone6 := H7.one_val.1
 have b2lt8 := B8.lt
 have b4lt8 := D8.lt
 have hb4' : w.heap.size ≤ b4 := by have := K1.size; have := K2.size; omega
 have h24 : b2 ≠ b4 := by have := B2.lt; omega
 clear B1 B2 B3 B4 B5 B6 B7 C2 C3 C4 C5 C6 C7 D3 D4 D5 D6 D7 H4' H5 H6 H7 K4 K5 K6 K7 K8 KA K3A K04 K1 K2 K3 G6 hr7 d7 d8 hwv hwl hbf k0 k1 k2 k3 s0 s3 s4 hs4 hs5 hs6 hs7 hs8 hszA
 go_frame

 have hst2 : stv (.slice Al D.l.length cl) v6 (D.put o.k.toNat o.b) = [.slice Al n cl, v6, .int .i64 op, .int .i64 fu, .bool false] := by
  show [Value.slice Al D.l.length cl, v6, .int .i64 (D.ops : Int), .int .i64 D.fuse, .bool D.down] = _
  rw [Hn.out, Hop.out, Hfu.out, Hd.out]
 have hst3 : stv (.slice Al D.l.length cl) v6 (D.put o.k.toNat o.b).tick = [.slice Al n cl, v6, .int .i64 q1, .int .i64 q2, .bool t] := by
  show [Value.slice Al D.l.length cl, v6, .int .i64 ((D.ops + 1 : Nat) : Int), .int .i64 (max (D.fuse - 1) (-1)), .bool (D.fuse == 0)] = _
  rw [Hn.out, Hq1.out, Hq2.out, Ht.out]
 have hcnt : ∀ W : World, Calls Try.prog 57 #[.agg [.slice Al n cl, v6, .int .i64 op, .int .i64 fu, .bool false].toArray] W (fun e w' => e = .returned (.agg [.slice Al n cl, v6, .int .i64 q1, .int .i64 q2, .bool t].toArray) ∧ Keep Noth W w') := fun W => by
  have h := st_count (w := W) (D := D.put o.k.toNat o.b) Hd.out (vl := .slice Al D.l.length cl) (vr := v6) rfl hone6 (by show D.ops ≤ _; omega) hok.fuse hok.fuse'
  rw [hst2, hst3] at h
  exact h
 have Hst3 := hid hst3
 have Hcnt := hid hcnt
 clear hst2 hst3 hcnt
 cases htt : t with
 | true =>
  subst htt
  obtain rfl : E0 = 100 := HE0.out
  go_wp2_with (first
   | (go_at_call 57; refine (Hcnt.out _).mono ?_; rintro e wP ⟨rfl, KP⟩; have BP := B8.keep KP id; have DP := D8.keep KP id)
   | (guard_target = wpList _ _ _ (Oper.mk _ (Op.store 30 (Operand.tmp 2) _) _ _ _ _ :: _) _ _; refine wpList_store_whole rfl 30 _ _ rfl b2 [.slice Al n cl, v6, .int .i64 op, .int .i64 fu, .bool false] [.slice Al n cl, v6, .int .i64 q1, .int .i64 q2, .bool true] 30 (by rfl) (by rfl) BP (by rfl) info30 (st5_one rfl hone6 _ _ _) ?_; intro wQ BQ KQ; have f4 := BQ.cell 4; simp only [List.getElem?_cons_zero, List.getElem?_cons_succ] at f4)
   | (guard_target = wpList _ _ _ (Oper.mk _ (Op.store 30 (Operand.tmp 4) _) _ _ _ _ :: _) _ _; refine wpList_store_whole rfl 30 _ _ rfl b4 stz [.slice Al n cl, v6, .int .i64 q1, .int .i64 q2, .bool true] 30 (by rfl) (by rfl) (DP.keep KQ (fun e => h24 e.symm)) (by rfl) info30 (st5_one rfl hone6 _ _ _) ?_; intro w9 D9 K9)
   | (have := KQ; (guard_target = wpList _ _ _ (Oper.mk _ (Op.load 30 (Operand.tmp 2)) _ _ _ _ :: _) _ _; refine wpList_load_blk rfl 30 _ rfl b2 0 [.slice Al n cl, v6, .int .i64 q1, .int .i64 q2, .bool true] [.slice Al n cl, v6, .int .i64 q1, .int .i64 q2, .bool true] 30 _ (by rfl) BQ (part0 _) Try.underlying30 rfl info30 ?_))
   | (guard_target = wpList _ _ _ (Oper.mk _ (Op.load 30 (Operand.tmp 2)) _ _ _ _ :: _) _ _; refine wpList_load_blk rfl 30 _ rfl b2 0 [.slice Al n cl, v6, .int .i64 op, .int .i64 fu, .bool false] [.slice Al n cl, v6, .int .i64 op, .int .i64 fu, .bool false] 30 _ (by rfl) B8 (part0 _) Try.underlying30 rfl info30 ?_))
  refine ret_cell_tmp rfl b4 [.slice Al n cl, v6, .int .i64 q1, .int .i64 q2, .bool true] 30 _ (.int .i64 100) (by rfl) (by rfl) D9 Try.underlying30 rfl info30 rfl ?_
  exact put_post HS8 Hst3.out K08 KP BP KQ hb2 (DP.keep KQ (fun e => h24 e.symm)) hb4' K9
 | false =>
  subst htt
  obtain rfl : E0 = 0 := HE0.out
  go_wp2_with (first
   | (go_at_call 57; refine (Hcnt.out _).mono ?_; rintro e wP ⟨rfl, KP⟩; have BP := B8.keep KP id; have DP := D8.keep KP id)
   | (guard_target = wpList _ _ _ (Oper.mk _ (Op.store 30 (Operand.tmp 2) _) _ _ _ _ :: _) _ _; refine wpList_store_whole rfl 30 _ _ rfl b2 [.slice Al n cl, v6, .int .i64 op, .int .i64 fu, .bool false] [.slice Al n cl, v6, .int .i64 q1, .int .i64 q2, .bool false] 30 (by rfl) (by rfl) BP (by rfl) info30 (st5_one rfl hone6 _ _ _) ?_; intro wQ BQ KQ; have f4 := BQ.cell 4; simp only [List.getElem?_cons_zero, List.getElem?_cons_succ] at f4)
   | (guard_target = wpList _ _ _ (Oper.mk _ (Op.store 30 (Operand.tmp 4) _) _ _ _ _ :: _) _ _; refine wpList_store_whole rfl 30 _ _ rfl b4 stz [.slice Al n cl, v6, .int .i64 q1, .int .i64 q2, .bool false] 30 (by rfl) (by rfl) (DP.keep KQ (fun e => h24 e.symm)) (by rfl) info30 (st5_one rfl hone6 _ _ _) ?_; intro w9 D9 K9)
   | (have := KQ; (guard_target = wpList _ _ _ (Oper.mk _ (Op.load 30 (Operand.tmp 2)) _ _ _ _ :: _) _ _; refine wpList_load_blk rfl 30 _ rfl b2 0 [.slice Al n cl, v6, .int .i64 q1, .int .i64 q2, .bool false] [.slice Al n cl, v6, .int .i64 q1, .int .i64 q2, .bool false] 30 _ (by rfl) BQ (part0 _) Try.underlying30 rfl info30 ?_))
   | (guard_target = wpList _ _ _ (Oper.mk _ (Op.load 30 (Operand.tmp 2)) _ _ _ _ :: _) _ _; refine wpList_load_blk rfl 30 _ rfl b2 0 [.slice Al n cl, v6, .int .i64 op, .int .i64 fu, .bool false] [.slice Al n cl, v6, .int .i64 op, .int .i64 fu, .bool false] 30 _ (by rfl) B8 (part0 _) Try.underlying30 rfl info30 ?_))
  refine ret_cell_tmp rfl b4 [.slice Al n cl, v6, .int .i64 q1, .int .i64 q2, .bool false] 30 _ (.int .i64 0) (by rfl) (by rfl) D9 Try.underlying30 rfl info30 rfl ?_
  exact put_post HS8 Hst3.out K08 KP BP KQ hb2 (DP.keep KQ (fun e => h24 e.symm)) hb4' K9
theorem do_write {w : World} {F : Nat → Prop} {vl vr : Value} {D : DS} (H : StAt w F vl vr D) (hok : D.ok) (ho : D.ops ≤ 1099511627776) (hr : D.row.length ≤ 1099511627776) (o : OpV) (hoo : o.ok) (Ab Af : Option Addr) (cb cf : Nat) (hAb : Reads w Ab (bv o.b)) (h0 : o.kind = 0) :
  Calls Try.prog 20 #[.agg (stv vl vr D).toArray, .agg (opv o Ab Af cb cf).toArray] w (DoPost w F (D.write o.k o.b)) := by
 obtain ⟨Al, cl, rfl⟩ := H.l.valm
 obtain ⟨Ar, cr, rfl⟩ := H.row.valm
 obtain ⟨n, hn⟩ : ∃ n, n = D.l.length := ⟨_, rfl⟩
 obtain ⟨m, hm⟩ : ∃ n, n = D.row.length := ⟨_, rfl⟩
 obtain ⟨op, hop⟩ : ∃ n : Int, n = (D.ops : Int) := ⟨_, rfl⟩
 obtain ⟨fu, hfu⟩ : ∃ n : Int, n = D.fuse := ⟨_, rfl⟩
 obtain ⟨dn, hdn⟩ : ∃ n : Bool, n = D.down := ⟨_, rfl⟩
 obtain ⟨kd, hkd⟩ : ∃ n : Int, n = o.kind := ⟨_, rfl⟩
 obtain ⟨ok, hok1⟩ : ∃ n : Int, n = o.k := ⟨_, rfl⟩
 obtain ⟨nb, hnb⟩ : ∃ n : Nat, n = o.b.length := ⟨_, rfl⟩
 obtain ⟨nf, hnf⟩ : ∃ n : Nat, n = o.forms.length := ⟨_, rfl⟩
 have hst : (stv (.slice Al D.l.length cl) (.slice Ar D.row.length cr) D) = [.slice Al n cl, .slice Ar m cr, .int .i64 op, .int .i64 fu, .bool dn] := by rw [hn, hm, hop, hfu, hdn]; rfl
 have hov : opv o Ab Af cb cf = [.int .i64 kd, .int .i64 ok, .slice Ab nb cb, .slice Af nf cf] := by rw [hkd, hok1, hnb, hnf]; rfl
 have hkk := hoo.kind
 have hk1 := hoo.k
 rw [← hkd] at hkk
 rw [← hok1] at hk1
 have hkk1 := hkk.1
 have hkk2 := hkk.2
 have hk11 := hk1.1
 have hk12 := hk1.2
 have Hst := hid hst
 have HOV := hid hov
 rw [hst, hov]
 have HR := hid H
 have Hn := hid hn
 have Hm := hid hm
 have Hop := hid hop
 have Hfu := hid hfu
 have Hdn := hid hdn
 have Hok := hid hok1
 have Hnb := hid hnb
 clear hkk hk1 hst hov hn hm hop hfu hdn hok1 hnb hnf H
 have h00 := h0
 rw [← hkd] at h0
 subst h0
 clear hkd
 have hov : opv o Ab Af cb cf = [.int .i64 0, .int .i64 ok, .slice Ab nb cb, .slice Af nf cf] := by rw [HOV.out]
 cases hd : dn with
 | true =>
  subst hd
  have hR : D.write o.k o.b = (D, 100) := by unfold DS.write; rw [if_pos Hdn.out.symm]
  rw [hR]
  clear hR
  go_enter Try.func20, Try.ntmps20
  go_wp2_with (first
   | (guard_target = wpList _ _ _ (Oper.mk _ (Op.box 30 _) _ _ _ _ :: _) _ _; refine wpList_box_v rfl 30 _ rfl [.slice Al n cl, .slice Ar m cr, .int .i64 op, .int .i64 fu, .bool true] (by rfl) ?_; intro b2 w1 hb2 B1 K1)
   | (guard_target = wpList _ _ _ (Oper.mk _ (Op.box 36 _) _ _ _ _ :: _) _ _; refine wpList_box_v rfl 36 _ rfl [.int .i64 0, .int .i64 ok, .slice Ab nb cb, .slice Af nf cf] (by rfl) ?_; intro b3 w2 hb3 C2 K2; have B2 := B1.keep K2 id)
   | (guard_target = wpList _ _ _ (Oper.mk _ (Op.alloc 30) _ _ _ _ :: _) _ _; refine wpList_alloc_v rfl 30 rfl zst info30 stz zst_cells ?_; intro b4 w3 hb4 D3 K3; have B3 := B2.keep K3 id; have C3 := C2.keep K3 id; have k0 := C3.cell 0; have k1 := C3.cell 1; have k2 := C3.cell 2; have k3 := C3.cell 3; have s0 := B3.cell 0; have s4 := B3.cell 4; have s3 := B3.cell 3; simp only [List.getElem?_cons_zero, List.getElem?_cons_succ] at k0 k1 k2 k3 s0 s3 s4)
   | (guard_target = wpList _ _ _ (Oper.mk _ (Op.load 30 _) _ _ _ _ :: _) _ _; refine wpList_load_blk rfl 30 _ rfl b2 0 [.slice Al n cl, .slice Ar m cr, .int .i64 op, .int .i64 fu, .bool true] [.slice Al n cl, .slice Ar m cr, .int .i64 op, .int .i64 fu, .bool true] 30 _ (by rfl) B3 (part0 _) Try.underlying30 rfl info30 ?_)
   | (guard_target = wpList _ _ _ (Oper.mk _ (Op.store 30 _ _) _ _ _ _ :: _) _ _; refine wpList_store_whole rfl 30 _ _ rfl b4 stz [.slice Al n cl, .slice Ar m cr, .int .i64 op, .int .i64 fu, .bool true] 30 (by rfl) (by rfl) D3 (by rfl) info30 (st5_one rfl rfl _ _ _) ?_; intro w9 D9 K9))
  refine ret_cell_tmp rfl b4 [.slice Al n cl, .slice Ar m cr, .int .i64 op, .int .i64 fu, .bool true] 30 _ (.int .i64 100) (by rfl) (by rfl) D9 Try.underlying30 rfl info30 rfl ?_
  exact DoPost.same HR.out Hst.out (K1.noth4 K2 K3 hb4 K9)
 | false =>
  subst hd
  have hnI : (n : Int) = D.l.length := by rw [Hn.out]
  have hbI : (nb : Int) = o.b.length := by rw [Hnb.out]
  by_cases hbad : ok < 0 ∨ (n : Int) ≤ ok ∨ 64 < (nb : Int)
  ·have hR : D.write o.k o.b = (D, 101) := by unfold DS.write; rw [if_neg (by rw [← Hdn.out]; decide), if_pos (by rw [← Hok.out, ← Hn.out]; omega)]
   rw [hR]
   clear hR
   have hor : ok < 0 ∨ ((0 ≤ ok) ∧ (n : Int) ≤ ok) ∨ ((0 ≤ ok) ∧ (ok < n) ∧ 64 < (nb : Int)) := by omega
   clear hbad hbI hnI
   rcases hor with hx | ⟨hx, hy⟩ | ⟨hx, hy, hz⟩
   ·go_enter Try.func20, Try.ntmps20
    go_wp2_with (first
     | (guard_target = wpList _ _ _ (Oper.mk _ (Op.box 30 _) _ _ _ _ :: _) _ _; refine wpList_box_v rfl 30 _ rfl [.slice Al n cl, .slice Ar m cr, .int .i64 op, .int .i64 fu, .bool false] (by rfl) ?_; intro b2 w1 hb2 B1 K1)
     | (guard_target = wpList _ _ _ (Oper.mk _ (Op.box 36 _) _ _ _ _ :: _) _ _; refine wpList_box_v rfl 36 _ rfl [.int .i64 0, .int .i64 ok, .slice Ab nb cb, .slice Af nf cf] (by rfl) ?_; intro b3 w2 hb3 C2 K2; have B2 := B1.keep K2 id)
     | (guard_target = wpList _ _ _ (Oper.mk _ (Op.alloc 30) _ _ _ _ :: _) _ _; refine wpList_alloc_v rfl 30 rfl zst info30 stz zst_cells ?_; intro b4 w3 hb4 D3 K3; have B3 := B2.keep K3 id; have C3 := C2.keep K3 id; have k0 := C3.cell 0; have k1 := C3.cell 1; have k2 := C3.cell 2; have k3 := C3.cell 3; have s0 := B3.cell 0; have s4 := B3.cell 4; have s3 := B3.cell 3; simp only [List.getElem?_cons_zero, List.getElem?_cons_succ] at k0 k1 k2 k3 s0 s3 s4)
     | (guard_target = wpList _ _ _ (Oper.mk _ (Op.load 30 _) _ _ _ _ :: _) _ _; refine wpList_load_blk rfl 30 _ rfl b2 0 [.slice Al n cl, .slice Ar m cr, .int .i64 op, .int .i64 fu, .bool false] [.slice Al n cl, .slice Ar m cr, .int .i64 op, .int .i64 fu, .bool false] 30 _ (by rfl) B3 (part0 _) Try.underlying30 rfl info30 ?_)
     | (guard_target = wpList _ _ _ (Oper.mk _ (Op.store 30 _ _) _ _ _ _ :: _) _ _; refine wpList_store_whole rfl 30 _ _ rfl b4 stz [.slice Al n cl, .slice Ar m cr, .int .i64 op, .int .i64 fu, .bool false] 30 (by rfl) (by rfl) D3 (by rfl) info30 (st5_one rfl rfl _ _ _) ?_; intro w9 D9 K9))
    refine ret_cell_tmp rfl b4 [.slice Al n cl, .slice Ar m cr, .int .i64 op, .int .i64 fu, .bool false] 30 _ (.int .i64 101) (by rfl) (by rfl) D9 Try.underlying30 rfl info30 rfl ?_
    exact DoPost.same HR.out Hst.out (K1.noth4 K2 K3 hb4 K9)
   ·go_enter Try.func20, Try.ntmps20
    go_wp2_with (first
     | (guard_target = wpList _ _ _ (Oper.mk _ (Op.box 30 _) _ _ _ _ :: _) _ _; refine wpList_box_v rfl 30 _ rfl [.slice Al n cl, .slice Ar m cr, .int .i64 op, .int .i64 fu, .bool false] (by rfl) ?_; intro b2 w1 hb2 B1 K1)
     | (guard_target = wpList _ _ _ (Oper.mk _ (Op.box 36 _) _ _ _ _ :: _) _ _; refine wpList_box_v rfl 36 _ rfl [.int .i64 0, .int .i64 ok, .slice Ab nb cb, .slice Af nf cf] (by rfl) ?_; intro b3 w2 hb3 C2 K2; have B2 := B1.keep K2 id)
     | (guard_target = wpList _ _ _ (Oper.mk _ (Op.alloc 30) _ _ _ _ :: _) _ _; refine wpList_alloc_v rfl 30 rfl zst info30 stz zst_cells ?_; intro b4 w3 hb4 D3 K3; have B3 := B2.keep K3 id; have C3 := C2.keep K3 id; have k0 := C3.cell 0; have k1 := C3.cell 1; have k2 := C3.cell 2; have k3 := C3.cell 3; have s0 := B3.cell 0; have s4 := B3.cell 4; have s3 := B3.cell 3; simp only [List.getElem?_cons_zero, List.getElem?_cons_succ] at k0 k1 k2 k3 s0 s3 s4)
     | (guard_target = wpList _ _ _ (Oper.mk _ (Op.load 30 _) _ _ _ _ :: _) _ _; refine wpList_load_blk rfl 30 _ rfl b2 0 [.slice Al n cl, .slice Ar m cr, .int .i64 op, .int .i64 fu, .bool false] [.slice Al n cl, .slice Ar m cr, .int .i64 op, .int .i64 fu, .bool false] 30 _ (by rfl) B3 (part0 _) Try.underlying30 rfl info30 ?_)
     | (guard_target = wpList _ _ _ (Oper.mk _ (Op.store 30 _ _) _ _ _ _ :: _) _ _; refine wpList_store_whole rfl 30 _ _ rfl b4 stz [.slice Al n cl, .slice Ar m cr, .int .i64 op, .int .i64 fu, .bool false] 30 (by rfl) (by rfl) D3 (by rfl) info30 (st5_one rfl rfl _ _ _) ?_; intro w9 D9 K9))
    refine ret_cell_tmp rfl b4 [.slice Al n cl, .slice Ar m cr, .int .i64 op, .int .i64 fu, .bool false] 30 _ (.int .i64 101) (by rfl) (by rfl) D9 Try.underlying30 rfl info30 rfl ?_
    exact DoPost.same HR.out Hst.out (K1.noth4 K2 K3 hb4 K9)
   ·go_enter Try.func20, Try.ntmps20
    go_wp2_with (first
     | (guard_target = wpList _ _ _ (Oper.mk _ (Op.box 30 _) _ _ _ _ :: _) _ _; refine wpList_box_v rfl 30 _ rfl [.slice Al n cl, .slice Ar m cr, .int .i64 op, .int .i64 fu, .bool false] (by rfl) ?_; intro b2 w1 hb2 B1 K1)
     | (guard_target = wpList _ _ _ (Oper.mk _ (Op.box 36 _) _ _ _ _ :: _) _ _; refine wpList_box_v rfl 36 _ rfl [.int .i64 0, .int .i64 ok, .slice Ab nb cb, .slice Af nf cf] (by rfl) ?_; intro b3 w2 hb3 C2 K2; have B2 := B1.keep K2 id)
     | (guard_target = wpList _ _ _ (Oper.mk _ (Op.alloc 30) _ _ _ _ :: _) _ _; refine wpList_alloc_v rfl 30 rfl zst info30 stz zst_cells ?_; intro b4 w3 hb4 D3 K3; have B3 := B2.keep K3 id; have C3 := C2.keep K3 id; have k0 := C3.cell 0; have k1 := C3.cell 1; have k2 := C3.cell 2; have k3 := C3.cell 3; have s0 := B3.cell 0; have s4 := B3.cell 4; have s3 := B3.cell 3; simp only [List.getElem?_cons_zero, List.getElem?_cons_succ] at k0 k1 k2 k3 s0 s3 s4)
     | (guard_target = wpList _ _ _ (Oper.mk _ (Op.load 30 _) _ _ _ _ :: _) _ _; refine wpList_load_blk rfl 30 _ rfl b2 0 [.slice Al n cl, .slice Ar m cr, .int .i64 op, .int .i64 fu, .bool false] [.slice Al n cl, .slice Ar m cr, .int .i64 op, .int .i64 fu, .bool false] 30 _ (by rfl) B3 (part0 _) Try.underlying30 rfl info30 ?_)
     | (guard_target = wpList _ _ _ (Oper.mk _ (Op.store 30 _ _) _ _ _ _ :: _) _ _; refine wpList_store_whole rfl 30 _ _ rfl b4 stz [.slice Al n cl, .slice Ar m cr, .int .i64 op, .int .i64 fu, .bool false] 30 (by rfl) (by rfl) D3 (by rfl) info30 (st5_one rfl rfl _ _ _) ?_; intro w9 D9 K9))
    refine ret_cell_tmp rfl b4 [.slice Al n cl, .slice Ar m cr, .int .i64 op, .int .i64 fu, .bool false] 30 _ (.int .i64 101) (by rfl) (by rfl) D9 Try.underlying30 rfl info30 rfl ?_
    exact DoPost.same HR.out Hst.out (K1.noth4 K2 K3 hb4 K9)
  ·have hR : D.write o.k o.b = ((D.put o.k.toNat o.b).tick, if D.fuse == 0 then 100 else 0) := by unfold DS.write; rw [if_neg (by rw [← Hdn.out]; decide), if_neg (by rw [← Hok.out, ← Hn.out]; omega)]
   rw [hR]
   have h9 := do_write_ok HR.out hok ho hr o hoo Ab Af cb cf hAb h00 Hdn.out.symm (by rw [← Hok.out]; omega) (by rw [← Hok.out]; omega) (by omega)
   rw [Hst.out, hov] at h9
   exact h9
def takes (f i : Nat) : Prop := f = 1 ∨ (f = 2 ∧ i < 32) ∨ (f = 3 ∧ 32 ≤ i)
instance (f i : Nat) : Decidable (takes f i) := by unfold takes; infer_instance
/-- The first j bytes are dealt with. -/
def mixJ (f j : Nat) (a b : Bk) : Bk := (List.range 64).map fun i => if i < j ∧ takes f i then b.getD i 0 else a.getD i 0
theorem mixJ_length (f j : Nat) (a b : Bk) : (mixJ f j a b).length = 64 := by simp [mixJ]
theorem mixJ_zero (f : Nat) (a b : Bk) (ha : a.length = 64) : mixJ f 0 a b = a := by
 apply List.ext_getElem?
 intro i
 by_cases h : i < 64
 ·simp [mixJ, h, List.getD_eq_getElem?_getD, ha]
 ·rw [List.getElem?_eq_none (by rw [mixJ_length]; omega), List.getElem?_eq_none (by omega)]
theorem mixJ_yes (f j : Nat) (a b : Bk) (hj : j < 64) (h : takes f j) : mixJ f (j + 1) a b = (mixJ f j a b).set j (b.getD j 0) := by
 apply List.ext_getElem?
 intro i
 by_cases hi : i < 64
 ·rw [List.getElem?_set]
  by_cases hij : j = i
  ·subst hij
   simp [mixJ, hi, h]
  ·have e : (i < j + 1) = (i < j) := by simp; omega
   simp [mixJ, hi, hij, e]
 ·rw [List.getElem?_eq_none (by rw [mixJ_length]; omega), List.getElem?_eq_none (by rw [List.length_set, mixJ_length]; omega)]
theorem mixJ_no (f j : Nat) (a b : Bk) (h : ¬ takes f j) : mixJ f (j + 1) a b = mixJ f j a b := by
 unfold mixJ
 refine List.map_congr_left fun i _ => ?_
 by_cases hij : i = j
 ·subst hij; simp [h]
 ·have e : (i < j + 1) = (i < j) := by simp; omega
  simp only [e]
theorem mixJ_all (f : Nat) (a b : Bk) (ha : a.length = 64) (hb : b.length = 64) : mixJ f 64 a b = mix f a b := by
 apply List.ext_getElem?
 intro i
 by_cases hi : i < 64
 ·have e1 : (mixJ f 64 a b)[i]? = some (if takes f i then b.getD i 0 else a.getD i 0) := by simp [mixJ, hi]
  rw [e1]
  unfold mix
  have hd : ∀ x : Bk, x.length = 64 → x[i]? = some (x.getD i 0) := fun x hx => by rw [List.getD_eq_getElem?_getD, List.getElem?_eq_getElem (by omega)]; rfl
  by_cases h32 : i < 32
  ·rw [List.getElem?_append_left (by split <;> rw [List.length_take] <;> omega)]
   by_cases hf : f = 1 ∨ f = 2
   ·rw [if_pos hf, List.getElem?_take, if_pos h32, hd b hb, if_pos (by unfold takes; omega)]
   ·rw [if_neg hf, List.getElem?_take, if_pos h32, hd a ha, if_neg (by unfold takes; omega)]
  ·have hl : (if f = 1 ∨ f = 2 then b.take 32 else a.take 32).length = 32 := by split <;> rw [List.length_take] <;> omega
   rw [List.getElem?_append_right (by omega), hl]
   by_cases hf : f = 1 ∨ f = 3
   ·rw [if_pos hf, List.getElem?_drop, show 32 + (i - 32) = i by omega, hd b hb, if_pos (by unfold takes; omega)]
   ·rw [if_neg hf, List.getElem?_drop, show 32 + (i - 32) = i by omega, hd a ha, if_neg (by unfold takes; omega)]
 ·rw [List.getElem?_eq_none (by rw [mixJ_length]; omega), List.getElem?_eq_none (by rw [mix_length _ _ _ ha hb]; omega)]
theorem exec_store1 {P : Program} {a : Act} {w : World} {o : Oper} (ty : TypeId) (x y : Operand) (ho : o.op = .store ty x y) (b k : Nat) (v : Value) {z : Option Value} {bytes : Nat}
  (hx : a.eval x = .pointer (some ⟨b, k, none⟩)) (hy : a.eval y = v) (ht : w.there b k 1) (h1 : v.oneCell' = true) (hc : v.cells = #[v]) (hi : (P.info? ty).map (fun i => (i.zero, i.size, i.bytes)) = some (z, 1, bytes)) :
  (execOp a.eval o).run P w = .ok .skip (w.setCell ⟨b, k, none⟩ v) := by
 have hst := run_storeCells_cells (P := P) b k [v] 0 w (fun j hj => by simpa using (ht j (by simpa using hj)).1) (fun j hj => by simpa using (ht j (by simpa using hj)).2) (by simpa using h1)
 cases hq : P.info? ty with
 | none => simp [hq] at hi
 | some i =>
  have hs : i.size = 1 := by simp [hq] at hi; exact hi.2.1
  simp only [Nat.add_zero, World.setCells] at hst
  simp [execOp, ho, hx, hy, Instr.storeAt, Instr.sureAddr, storeVar, sizeOf, typeInfo, hq, hs, hc, hst]
theorem splice_one (m : Bk) (j : Nat) (y : UInt8) (hj : j < m.length) : splice (bv m) j [u8 y] = bv (m.set j y) := by
 rw [show [u8 y] = bv [y] from rfl, ← bv_splice]
 congr 1
 apply List.ext_getElem?
 intro i
 unfold splice
 rw [List.getElem?_set]
 by_cases h1 : i < j
 ·rw [List.getElem?_append_left (by rw [List.length_take]; omega), List.getElem?_take, if_pos h1, if_neg (by omega)]
 ·rw [List.getElem?_append_right (by rw [List.length_take]; omega), List.length_take, show min j m.length = j by omega]
  by_cases h2 : j = i
  ·subst h2; simp [hj]
  ·rw [if_neg h2, List.getElem?_append_right (by simp; omega), List.getElem?_drop]
   congr 1
   simp
   omega
/-- One byte of a block of a row. -/
theorem Rows.put1 {w : World} {F : Nat → Prop} {g n c : Nat} {M : List Bk} (H : Rows w F 52 64 (.slice (some ⟨g, 0, none⟩) n c) (M.map bv)) (K j : Nat) (y : UInt8) (hK : K < M.length) (hM : (M.getD K []).length = 64) (hj : j < 64) :
  Rows (w.setCell ⟨g, K * 64 + j, none⟩ (u8 y)) F 52 64 (.slice (some ⟨g, 0, none⟩) n c) ((M.set K ((M.getD K []).set j y)).map bv) ∧ w.there g (K * 64 + j) 1 := by
 have hlen : K < (M.map bv).length := by rw [List.length_map]; exact hK
 have e0 : M.getD K [] = M[K] := by simp [List.getD_eq_getElem?_getD, hK]
 have h := Rows.splice H K j [u8 y] hlen (by simp; omega)
 have e : (M.map bv).set K (Go.splice (M.map bv)[K] j [u8 y]) = (M.set K ((M.getD K []).set j y)).map bv := by
  rw [List.getElem_map, splice_one _ _ _ (by rw [← e0]; omega), ← List.map_set, e0]
 rw [e] at h
 refine ⟨h, fun q hq => ?_⟩
 have := Rows.there H K hlen (j + q) (by omega)
 rw [Nat.add_assoc]
 exact this
theorem exec_build30c {a : Act} {w : World} {o : Oper} (x y : Operand) (ho : o.op = .build 30 #[(0, x), (2, y), (3, .const (.int .i64 (-1)))]) (A : Option Addr) (n c : Nat) (ops : Int) (hx : a.eval x = .slice A n c) (hy : a.eval y = .int .i64 ops) :
  (execOp a.eval o).run Try.prog w = .ok (.value (.agg [.slice A n c, .slice none 0 0, .int .i64 ops, .int .i64 (-1), .bool false].toArray)) w := by
 have hz : a.eval (.const (.int .i64 (-1))) = .int .i64 (-1) := rfl
 unfold execOp
 simp only [ho, List.map_toArray, List.map_cons, List.map_nil, hx, hy, hz, Sem.run_bind, Sem.run_pure, Result.andThen_ok, build30c A n c ops]
end Go.Proofs.Ytffcglfepobdjaa
set_option maxHeartbeats 4000000
namespace Go.Proofs.Ytffcglfepobdjaa
open Go.RowKit
section
variable {P : Program} {w : World} {ops : Array Oper} {rest : List Oper} {o : Oper} {a : Act} {Q : Exit → Act → World → Prop}
theorem wpList_slice0_v (hgd : o.guard = none) (T E : TypeId) (size : Nat) (ho : o.op = .buildSlice T 0 #[]) (hT : P.underlying T = some (.slice E)) {i : TypeInfo} (hi : P.info? E = some i)
  (h : ∀ b w1, w.heap.size ≤ b → Rows w1 (fun q => q = b) E size (.slice (some ⟨b, 0, none⟩) 0 0) [] → Keep Noth w w1 → wpList P ops Q rest (a.put o.dst (.slice (some ⟨b, 0, none⟩) 0 0)) w1) : wpList P ops Q (o :: rest) a w :=
 wpList_run hgd _ _ (exec_buildSlice0 T E ho hT hi) (h _ _ (Nat.le_refl _) (Rows.empty w E size) ((Keep.refl _ _).alloc _))
end
theorem wv_byte (p : Nat × Bk) (j : Nat) (h : j < p.2.length) : ∃ y, p.2.getD j 0 = y ∧ (wv p)[1 + j]? = some (.int .u8 (y.toNat : Int)) := by
 refine ⟨p.2[j], by simp [List.getD_eq_getElem?_getD, h], ?_⟩
 rw [Nat.add_comm, wv, List.getElem?_cons_succ]
 simp [bv, u8, h]
structure CrOut (w wx : World) (g5 n c5 b2 b4 : Nat) (SV : List Value) (L : List Bk) : Prop where
 rows : Rows wx (Fresh w wx) 52 64 (.slice (some ⟨g5, 0, none⟩) n c5) (L.map bv)
 blk2 : BlockIs wx b2 SV 30
 blk4 : BlockIs wx b4 stz 30
 kept : Keep Noth w wx
structure CrIn (w wx : World) (g5 n c5 b2 b4 b8 : Nat) (SV : List Value) (p : Nat × Bk) (L : List Bk) : Prop where
 out : CrOut w wx g5 n c5 b2 b4 SV L
 blk8 : BlockIs wx b8 (wv p) 54
theorem CrOut.keep {w wx wy : World} {g5 n c5 b2 b4 : Nat} {SV : List Value} {L : List Bk} (H : CrOut w wx g5 n c5 b2 b4 SV L) (K : Keep Noth wx wy) : CrOut w wy g5 n c5 b2 b4 SV L :=
 ⟨(H.rows.keep K (Dj.noth _)).mono (fun q hq => ⟨hq.1, Nat.lt_of_lt_of_le hq.2 K.size⟩), H.blk2.keep K id, H.blk4.keep K id, H.kept.trans K (fun _ _ h => h)⟩
theorem CrIn.drew {w wx : World} {g5 n c5 b2 b4 b8 : Nat} {SV : List Value} {p : Nat × Bk} {L : List Bk} (H : CrIn w wx g5 n c5 b2 b4 b8 SV p L) : CrIn w wx.drew g5 n c5 b2 b4 b8 SV p L :=
 ⟨H.out.keep ((Keep.refl _ _).drew), H.blk8.drew⟩
theorem CrOut.start {w wx w8 : World} {g5 n c5 b2 b4 b8 : Nat} {SV : List Value} {p : Nat × Bk} {L : List Bk} (H : CrOut w wx g5 n c5 b2 b4 SV L) (f : Nat) (hb8 : wx.heap.size ≤ b8) (B8 : BlockIs w8 b8 (wv p) 54) (K8 : Keep Noth wx w8) (hp : p.1 < L.length) (h64 : (L.getD p.1 []).length = 64) :
  CrIn w w8 g5 n c5 b2 b4 b8 SV p (L.set p.1 (mixJ f 0 (L.getD p.1 []) p.2)) := by
 refine ⟨?_, B8⟩
 have e : L.set p.1 (mixJ f 0 (L.getD p.1 []) p.2) = L := by
  rw [mixJ_zero _ _ _ h64]
  have : L.getD p.1 [] = L[p.1] := by simp [List.getD_eq_getElem?_getD, hp]
  rw [this]; simp
 rw [e]
 exact H.keep K8
theorem CrIn.put {w wx : World} {g5 n c5 b2 b4 b8 : Nat} {SV : List Value} {p : Nat × Bk} {M : List Bk} (H : CrIn w wx g5 n c5 b2 b4 b8 SV p M) (j : Nat) (y : UInt8) (hj : j < 64) (hK : p.1 < M.length) (hM : (M.getD p.1 []).length = 64) :
  CrIn w (wx.setCell ⟨g5, p.1 * 64 + j, none⟩ (.int .u8 (y.toNat : Int))) g5 n c5 b2 b4 b8 SV p (M.set p.1 ((M.getD p.1 []).set j y)) ∧ wx.there g5 (p.1 * 64 + j) 1 := by
 obtain ⟨h1, h2⟩ := H.out.rows.put1 p.1 j y hK hM hj
 have K := (Keep.refl (Only g5) wx).cell (p.1 * 64 + j) (.int .u8 (y.toNat : Int))
 have hn2 : ¬ Only g5 b2 := fun e => H.out.rows.ne H.out.blk2 (by decide) (by unfold Only at e; rw [e]; rfl)
 have hn4 : ¬ Only g5 b4 := fun e => H.out.rows.ne H.out.blk4 (by decide) (by unfold Only at e; rw [e]; rfl)
 have hn8 : ¬ Only g5 b8 := fun e => H.out.rows.ne H.blk8 (by decide) (by unfold Only at e; rw [e]; rfl)
 refine ⟨⟨⟨h1.mono (fun q hq => ⟨hq.1, Nat.lt_of_lt_of_le hq.2 K.size⟩), H.out.blk2.keep K hn2, H.out.blk4.keep K hn4, H.out.kept.own K (fun q e => by unfold Only at e; subst e; exact (H.out.rows.foot q rfl).1)⟩, H.blk8.keep K hn8⟩, h2⟩
theorem CrIn.finish {w wx : World} {g5 n c5 b2 b4 b8 : Nat} {SV : List Value} {p : Nat × Bk} {L0 L : List Bk} {row : List (Nat × Bk)} (fs : List Int) (k : Nat) (hn : crashK fs L0 row (k + 1) = L.set p.1 (mix (formOf fs k) (L.getD p.1 []) p.2)) (f : Nat) (hf : formOf fs k = f) (h64 : (L.getD p.1 []).length = 64) (hp : p.2.length = 64)
  (H : CrIn w wx g5 n c5 b2 b4 b8 SV p (L.set p.1 (mixJ f 64 (L.getD p.1 []) p.2))) : CrOut w wx g5 n c5 b2 b4 SV (crashK fs L0 row (k + 1)) := by
 rw [hn, hf, ← mixJ_all _ _ _ h64 hp]
 exact H.out
theorem crash_post {w wr w9 : World} {g5 n c5 b2 b4 : Nat} {SV : List Value} {D : DS} {fs : List Int} {op : Int} (hop : op = (D.ops : Int)) (HO : CrOut w wr g5 n c5 b2 b4 SV (crashK fs D.l D.row D.row.length)) (K9 : Keep (Only b4) wr w9) (hb : w.heap.size ≤ b4) :
  ∃ vl', Ending.returned (.agg [.slice (some ⟨g5, 0, none⟩) n c5, .slice none 0 0, .int .i64 op, .int .i64 (-1), .bool false].toArray) = .returned (.agg (stv vl' (.slice none 0 0) (D.crash fs)).toArray) ∧ StAt w9 (Fresh w w9) vl' (.slice none 0 0) (D.crash fs) ∧ Keep Noth w w9 := by
 refine ⟨_, by rw [hop]; rfl, ⟨?_, Rows.nil _ _ _ _⟩, HO.kept.own K9 (fun q e => by unfold Only at e; subst e; exact hb)⟩
 exact (HO.rows.stay K9 (fun q hq e => HO.rows.ne HO.blk4 (by decide) (by unfold Only at e; rw [hq, e]))).mono (fun q hq => ⟨hq.1, Nat.lt_of_lt_of_le hq.2 K9.size⟩)
theorem st_crash {w : World} {F : Nat → Prop} {vl vr : Value} {D : DS} (H : StAt w F vl vr D) (hok : D.ok) (hr : D.row.length ≤ 1099511627776) (A : Option Addr) (c : Nat) (fs : List Int) (hA : Reads w A (ints fs)) (hfl : fs.length ≤ 140737488351232) (hfw : ∀ x ∈ fs, -9223372036854775808 ≤ x ∧ x ≤ 9223372036854775807) :
  Calls Try.prog 58 #[.agg (stv vl vr D).toArray, .slice A fs.length c] w (fun e w' => ∃ vl', e = .returned (.agg (stv vl' (.slice none 0 0) (D.crash fs)).toArray) ∧ StAt w' (Fresh w w') vl' (.slice none 0 0) (D.crash fs) ∧ Keep Noth w w') := by
 obtain ⟨Al, cl, rfl⟩ := H.l.valm
 obtain ⟨Ar, cr, rfl⟩ := H.row.valm
 obtain ⟨gl, rfl⟩ := H.l.some_at (by rw [List.length_map]; have := hok.one; omega)
 obtain ⟨n, hn⟩ : ∃ n, n = D.l.length := ⟨_, rfl⟩
 obtain ⟨m, hm⟩ : ∃ n, n = D.row.length := ⟨_, rfl⟩
 obtain ⟨op, hop⟩ : ∃ n : Int, n = (D.ops : Int) := ⟨_, rfl⟩
 obtain ⟨fu, hfu⟩ : ∃ n : Int, n = D.fuse := ⟨_, rfl⟩
 obtain ⟨dn, hdn⟩ : ∃ n : Bool, n = D.down := ⟨_, rfl⟩
 have hst : (stv (.slice (some ⟨gl, 0, none⟩) D.l.length cl) (.slice Ar D.row.length cr) D) = [.slice (some ⟨gl, 0, none⟩) n cl, .slice Ar m cr, .int .i64 op, .int .i64 fu, .bool dn] := by rw [hn, hm, hop, hfu, hdn]; rfl
 rw [hst]
 have HR := hid H
 have HA := hid hA
 have Hn := hid hn
 have Hm := hid hm
 have Hop := hid hop
 have hflI : (fs.length : Int) ≤ 140737488351232 := by omega
 have Hfw := hid hfw
 have hm1 : (m : Int) ≤ 1099511627776 := by omega
 have hmost := hok.most
 obtain ⟨i52, hi52, -⟩ := info_parts info52
 have Hi52 := hid hi52
 clear hst hn hm hop hfu hdn H hA hfw hi52
 go_enter Try.func58, Try.ntmps58
 go_wp2_with (first
  | (guard_target = wpList _ _ _ (Oper.mk _ (Op.box 30 _) _ _ _ _ :: _) _ _; refine wpList_box_v rfl 30 _ rfl [.slice (some ⟨gl, 0, none⟩) n cl, .slice Ar m cr, .int .i64 op, .int .i64 fu, .bool dn] (by rfl) ?_; intro b2 w1 hb2 B1 K1)
  | (guard_target = wpList _ _ _ (Oper.mk _ (Op.alloc 30) _ _ _ _ :: _) _ _; refine wpList_alloc_v rfl 30 rfl zst info30 stz zst_cells ?_; intro b4 w2 hb4 D2 K2; have B2 := B1.keep K2 id)
  | (guard_target = wpList _ _ _ (Oper.mk _ (Op.buildSlice _ _ _) _ _ _ _ :: _) _ _; refine wpList_slice0_v rfl 27 52 64 rfl sl27 Hi52.out ?_; intro b3 w3 hb3 R3 K3; have B3 := B2.keep K3 id; have D3 := D2.keep K3 id; have s0 := B3.cell 0; simp only [List.getElem?_cons_zero] at s0; have K03 := (K1.trans K2 (fun _ _ h => h)).trans K3 (fun _ _ h => h); have HL3 := (HR.out.keep K03 (Dj.noth _)).l; rw [← Hn.out] at HL3)
  | (at_builtin; refine wpList_append_rows rfl _ _ 27 rfl 52 zv 64 64 sl27 info52 zv_size (by decide) (by decide) _ _ [] (D.l.map bv) (by rfl) R3 (some ⟨gl, 0, none⟩) n cl (by rfl) (by rw [List.length_map, Hn.out]) (fun h => by cases h) HL3.each (rd_of_own HL3) bvs_one (by have := Hn.out; simp only [List.length_nil]; omega) ?_; intro v5 w5 R5 K5))
 rw [List.nil_append] at R5
 obtain ⟨A5, c5, hv5⟩ := R5.valm
 subst hv5
 obtain ⟨g5, rfl⟩ := R5.some_at (by rw [List.length_map]; have := hok.one; omega)
 have h1s := K1.size
 have h2s := K2.size
 have h3s := K3.size
 have h5s := K5.size
 have d5 : ∀ q, (Value.slice (some ⟨b3, 0, none⟩) 0 0).ownBlock = some q → q = b3 := fun q hq => by simp only [Value.ownBlock, Option.some.injEq] at hq; exact hq.symm
 have HO0 : CrOut w w5 g5 n c5 b2 b4 [.slice (some ⟨gl, 0, none⟩) n cl, .slice Ar m cr, .int .i64 op, .int .i64 fu, .bool dn] (crashK fs D.l D.row 0) := by
  rw [← Hn.out] at R5
  refine ⟨R5.mono (fun q hq => ?_), B3.keep K5 (fun e => by have := d5 _ e; have := B2.lt; omega), D3.keep K5 (fun e => by have := d5 _ e; have := D2.lt; omega), K03.own K5 (fun q e => by have := d5 _ e; omega)⟩
  rcases hq with hq | hq
  ·have := d5 q hq; have := R3.own.lt b3 rfl; exact ⟨by omega, by omega⟩
  ·exact ⟨by omega, hq.2⟩
 have hb4w : w.heap.size ≤ b4 := by omega
 rw [← Hn.out]
 clear R5 R3 B1 B2 B3 D2 D3 K1 K2 K3 K5 s0 HL3 K03 d5 h1s h2s h3s h5s
 go_loopw [6] (fun i wr => ∃ k : Nat, i = .int .i64 k ∧ k ≤ m ∧ CrOut w wr g5 n c5 b2 b4 [.slice (some ⟨gl, 0, none⟩) n cl, .slice Ar m cr, .int .i64 op, .int .i64 fu, .bool dn] (crashK fs D.l D.row k)) (fun i _ => m - (intOf i).toNat)
 case atStart => exact ⟨0, rfl, Nat.zero_le _, HO0⟩
 case round =>
  obtain ⟨k, rfl, hkm, HO⟩ := hrel
  clear HO0
  have c0 := HO.blk2.cell 0
  have c1 := HO.blk2.cell 1
  simp only [List.getElem?_cons_zero, List.getElem?_cons_succ] at c0 c1
  by_cases hlt' : k < m
  case neg =>
   have hge : k = m := by omega
   subst hge
   have c2 := HO.blk2.cell 2
   simp only [List.getElem?_cons_zero, List.getElem?_cons_succ] at c2
   go_wp2_with (first
    | (guard_target = wpList _ _ _ (Oper.mk _ (Op.build _ _) _ _ _ _ :: _) _ _; refine wpList_run rfl _ _ (exec_build30c _ _ rfl (some ⟨g5, 0, none⟩) n c5 op (by rfl) (by rfl)) ?_)
    | (guard_target = wpList _ _ _ (Oper.mk _ (Op.store 30 _ _) _ _ _ _ :: _) _ _; refine wpList_store_whole rfl 30 _ _ rfl b4 stz [.slice (some ⟨g5, 0, none⟩) n c5, .slice none 0 0, .int .i64 op, .int .i64 (-1), .bool false] 30 (by rfl) (by rfl) HO.blk4 (by rfl) info30 (st5_one rfl rfl _ _ _) ?_; intro w9 D9 K9))
   refine ret_cell rfl b4 _ 30 _ (by rfl) D9 Try.underlying30 rfl info30 rfl ?_
   exact crash_post Hop.out (Hm.out ▸ HO) K9 hb4w
  have hlt : k < D.row.length := by rw [← Hm.out]; exact hlt'
  have hltI : (k : Int) < m := by omega
  obtain ⟨gr, rfl⟩ := HR.out.row.some_at (by rw [List.length_map]; omega)
  obtain ⟨p, hpk⟩ : ∃ p, p = D.row[k] := ⟨_, rfl⟩
  have hp := hok.row64 D.row[k] (List.getElem_mem hlt)
  rw [← hpk] at hp
  obtain ⟨L, hL⟩ : ∃ L, L = crashK fs D.l D.row k := ⟨_, rfl⟩
  have hnx : crashK fs D.l D.row (k + 1) = L.set p.1 (mix (formOf fs k) (L.getD p.1 []) p.2) := by
   rw [hL, hpk]; simp [crashK, crash1, List.getD_eq_getElem?_getD, hlt]
  have hLl : L.length = n := by rw [hL, crashK_length, Hn.out]
  have hpn : p.1 < n := by rw [Hn.out]; exact hp.1
  have hpnI : (p.1 : Int) < n := by omega
  have hL64 : (L.getD p.1 []).length = 64 := by
   have h2 : p.1 < L.length := by omega
   rw [List.getD_eq_getElem?_getD, List.getElem?_eq_getElem h2]
   exact crashK_64 fs hok.l64 hok.row64 k (by omega) _ (hL ▸ List.getElem_mem h2)
  have HpL : Hid (p.1 < L.length) := by show _ < _; omega
  have H64L := hid hL64
  have Hp64 : Hid (p.2.length = 64) := hid hp.2
  have Hw65 : Hid ((wv p).length = 65) := by show _ = _; simp [wv, hp.2]
  have Hpk : Hid ((D.row.map wv)[k]'(by rw [List.length_map]; exact hlt) = wv p) := by show _ = _; rw [List.getElem_map, hpk]
  have Hnext := hid hnx
  have Hrows : Hid (Rows wr F 54 65 (.slice (some ⟨gr, 0, none⟩) m cr) (D.row.map wv)) := by
   have := (HR.out.keep HO.kept (Dj.noth _)).row
   rw [← Hm.out] at this
   exact this
  rw [← hL] at HO
  clear hpk hp hnx hL hLl hL64 hpn
  by_cases hf0 : fs.length = 0
  ·have HFm : Hid (formOf fs k = 0) := by show _ = _; unfold formOf; rw [if_pos hf0]
   have hfz : ¬ (0 : Int) < fs.length := by omega
   clear hf0
   go_wp2_with (first
    | (guard_target = wpList _ _ _ (Oper.mk _ (Op.load 54 _) _ _ _ _ :: _) _ _; refine wpList_load_row' rfl 54 _ rfl F 54 65 gr m cr (D.row.map wv) k _ (wv p) _ Hrows.out (by rw [List.length_map]; exact hlt) Hpk.out rfl (by rfl) Try.underlying54 rfl info54 ?_)
    | (guard_target = wpList _ _ _ (Oper.mk _ (Op.alloc 54) _ _ _ _ :: _) _ _; refine wpList_alloc_store rfl 54 rfl 8 _ rfl (by rfl) rfl rfl (by decide) zw (wv p) (by rw [Hw65.out]; exact info54) (wv (0, zb)) zw_cells (Hw65.out.trans wv0_length.symm) (by rfl) (wv_one _) ?_; intro b8 w8 hb8 B8 K8))
   have HI0 : CrIn w w8 g5 n c5 b2 b4 b8 [.slice (some ⟨gl, 0, none⟩) n cl, .slice (some ⟨gr, 0, none⟩) m cr, .int .i64 op, .int .i64 fu, .bool dn] p (L.set p.1 (mixJ 0 0 (L.getD p.1 []) p.2)) := HO.start 0 hb8 B8 K8 HpL.out H64L.out
   clear HO B8 K8 c0 c1 hfz
   go_loopw [9] (fun i wx => ∃ j : Nat, i = .int .i64 j ∧ j ≤ 64 ∧ CrIn w wx g5 n c5 b2 b4 b8 [.slice (some ⟨gl, 0, none⟩) n cl, .slice (some ⟨gr, 0, none⟩) m cr, .int .i64 op, .int .i64 fu, .bool dn] p (L.set p.1 (mixJ 0 j (L.getD p.1 []) p.2))) (fun i _ => 64 - (intOf i).toNat)
   case atStart => exact ⟨0, rfl, Nat.zero_le _, HI0⟩
   case round =>
    obtain ⟨j, rfl, hj, HI⟩ := hrel
    clear HI0
    by_cases h64j : j < 64
    ·have hj64 : (j : Int) < 64 := by omega
     obtain ⟨y, hyd, hy⟩ := wv_byte p j (by rw [Hp64.out]; exact h64j)
     have Hy := hid hy
     have Hyd := hid hyd
     clear hy hyd
     have Hskip : Hid (L.set p.1 (mixJ 0 (j + 1) (L.getD p.1 []) p.2) = L.set p.1 (mixJ 0 j (L.getD p.1 []) p.2)) := by
      show _ = _
      rw [mixJ_no _ _ _ _ (by unfold takes; omega)]
     have HI' := HI
     rw [← Hskip.out] at HI'
     clear HI
     go_wp2_with fail
     go_roundw
     case rel => exact ⟨j + 1, by go_num, h64j, HI'⟩
     case measure => simp [intOf]; omega
    ·have hge : j = 64 := by omega
     subst hge
     have HN := HI.finish fs k Hnext.out 0 HFm.out H64L.out Hp64.out
     clear HI
     go_wp2_with fail
     go_roundw
     case rel => exact ⟨k + 1, by go_num, hlt', HN⟩
     case measure => simp [intOf]; omega
  ·have hf0' : (0 : Int) < fs.length := by omega
   have hmod : k % fs.length < fs.length := Nat.mod_lt _ (by omega)
   obtain ⟨ad, rfl, -⟩ := HA.out 0 (.int .i64 fs[0]) (by simp [ints, show 0 < fs.length by omega])
   obtain ⟨x, hx⟩ : ∃ x, x = fs[k % fs.length] := ⟨_, rfl⟩
   have hxb := Hfw.out x (by rw [hx]; exact List.getElem_mem _)
   have hxl := hxb.1
   have hxu := hxb.2
   have hfm : formOf fs k = ((max x 0) % 4).toNat := by unfold formOf; rw [if_neg hf0, hx]; simp [List.getD_eq_getElem?_getD, hmod]
   have hcA : wr.cell? (ad.add (k % fs.length)) = some (.int .i64 x) := by
    obtain ⟨ad', e, hc⟩ := (HA.out.keep HO.kept (fun _ _ => id)) (k % fs.length) (.int .i64 x) (by simp [ints, hmod, hx])
    injection e with e
    subst e
    exact hc
   have Hf := hid hfm
   have hmod0 : (0 : Int) ≤ (k : Int) % (fs.length : Int) := Int.emod_nonneg _ (by omega)
   have hmod1 : (k : Int) % (fs.length : Int) < (fs.length : Int) := Int.emod_lt_of_pos _ (by omega)
   clear hx hxb hfm hf0
   by_cases hneg : x ≤ 0
   ·have HFm : Hid (formOf fs k = 0) := by show _ = _; rw [Hf.out]; omega
    have hnp : ¬ 0 < x := by omega
    clear hneg
    go_wp2_with (first
     | (guard_target = wpList _ _ _ (Oper.mk _ (Op.load 54 _) _ _ _ _ :: _) _ _; refine wpList_load_row' rfl 54 _ rfl F 54 65 gr m cr (D.row.map wv) k _ (wv p) _ Hrows.out (by rw [List.length_map]; exact hlt) Hpk.out rfl (by rfl) Try.underlying54 rfl info54 ?_)
     | (guard_target = wpList _ _ _ (Oper.mk _ (Op.alloc 54) _ _ _ _ :: _) _ _; refine wpList_alloc_store rfl 54 rfl 8 _ rfl (by rfl) rfl rfl (by decide) zw (wv p) (by rw [Hw65.out]; exact info54) (wv (0, zb)) zw_cells (Hw65.out.trans wv0_length.symm) (by rfl) (wv_one _) ?_; intro b8 w8 hb8 B8 K8))
    have HI0 : CrIn w w8 g5 n c5 b2 b4 b8 [.slice (some ⟨gl, 0, none⟩) n cl, .slice (some ⟨gr, 0, none⟩) m cr, .int .i64 op, .int .i64 fu, .bool dn] p (L.set p.1 (mixJ 0 0 (L.getD p.1 []) p.2)) := HO.start 0 hb8 B8 K8 HpL.out H64L.out
    clear HO B8 K8 c0 c1 hnp hcA
    go_loopw [9] (fun i wx => ∃ j : Nat, i = .int .i64 j ∧ j ≤ 64 ∧ CrIn w wx g5 n c5 b2 b4 b8 [.slice (some ⟨gl, 0, none⟩) n cl, .slice (some ⟨gr, 0, none⟩) m cr, .int .i64 op, .int .i64 fu, .bool dn] p (L.set p.1 (mixJ 0 j (L.getD p.1 []) p.2))) (fun i _ => 64 - (intOf i).toNat)
    case atStart => exact ⟨0, rfl, Nat.zero_le _, HI0⟩
    case round =>
     obtain ⟨j, rfl, hj, HI⟩ := hrel
     clear HI0
     by_cases h64j : j < 64
     ·have hj64 : (j : Int) < 64 := by omega
      obtain ⟨y, hyd, hy⟩ := wv_byte p j (by rw [Hp64.out]; exact h64j)
      have Hy := hid hy
      have Hyd := hid hyd
      clear hy hyd
      have Hskip : Hid (L.set p.1 (mixJ 0 (j + 1) (L.getD p.1 []) p.2) = L.set p.1 (mixJ 0 j (L.getD p.1 []) p.2)) := by
       show _ = _
       rw [mixJ_no _ _ _ _ (by unfold takes; omega)]
      have HI' := HI
      rw [← Hskip.out] at HI'
      clear HI
      go_wp2_with fail
      go_roundw
      case rel => exact ⟨j + 1, by go_num, h64j, HI'⟩
      case measure => simp [intOf]; omega
     ·have hge : j = 64 := by omega
      subst hge
      have HN := HI.finish fs k Hnext.out 0 HFm.out H64L.out Hp64.out
      clear HI
      go_wp2_with fail
      go_roundw
      case rel => exact ⟨k + 1, by go_num, hlt', HN⟩
      case measure => simp [intOf]; omega
   ·have hpos : 0 < x := by omega
    have hpos0 : 0 ≤ x := by omega
    have h4 : x % 4 = 0 ∨ x % 4 = 1 ∨ x % 4 = 2 ∨ x % 4 = 3 := by omega
    clear hneg
    rcases h4 with h4 | h4 | h4 | h4
    ·have HFm : Hid (formOf fs k = 0) := by show _ = _; rw [Hf.out]; omega
     have hb1 : (x % 4 == 1) = false := by rw [h4]; rfl
     have hb2 : (x % 4 == 2) = false := by rw [h4]; rfl
     have hb3 : (x % 4 == 3) = false := by rw [h4]; rfl
     clear h4
     go_wp2_with (first
      | (guard_target = wpList _ _ _ (Oper.mk _ (Op.load 54 _) _ _ _ _ :: _) _ _; refine wpList_load_row' rfl 54 _ rfl F 54 65 gr m cr (D.row.map wv) k _ (wv p) _ Hrows.out (by rw [List.length_map]; exact hlt) Hpk.out rfl (by rfl) Try.underlying54 rfl info54 ?_)
      | (guard_target = wpList _ _ _ (Oper.mk _ (Op.alloc 54) _ _ _ _ :: _) _ _; refine wpList_alloc_store rfl 54 rfl 8 _ rfl (by rfl) rfl rfl (by decide) zw (wv p) (by rw [Hw65.out]; exact info54) (wv (0, zb)) zw_cells (Hw65.out.trans wv0_length.symm) (by rfl) (wv_one _) ?_; intro b8 w8 hb8 B8 K8))
     have HI0 : CrIn w w8 g5 n c5 b2 b4 b8 [.slice (some ⟨gl, 0, none⟩) n cl, .slice (some ⟨gr, 0, none⟩) m cr, .int .i64 op, .int .i64 fu, .bool dn] p (L.set p.1 (mixJ 0 0 (L.getD p.1 []) p.2)) := HO.start 0 hb8 B8 K8 HpL.out H64L.out
     clear HO B8 K8 c0 c1 hcA
     go_loopw [9] (fun i wx => ∃ j : Nat, i = .int .i64 j ∧ j ≤ 64 ∧ CrIn w wx g5 n c5 b2 b4 b8 [.slice (some ⟨gl, 0, none⟩) n cl, .slice (some ⟨gr, 0, none⟩) m cr, .int .i64 op, .int .i64 fu, .bool dn] p (L.set p.1 (mixJ 0 j (L.getD p.1 []) p.2))) (fun i _ => 64 - (intOf i).toNat)
     case atStart => exact ⟨0, rfl, Nat.zero_le _, HI0⟩
     case round =>
      obtain ⟨j, rfl, hj, HI⟩ := hrel
      clear HI0
      by_cases h64j : j < 64
      ·have hj64 : (j : Int) < 64 := by omega
       obtain ⟨y, hyd, hy⟩ := wv_byte p j (by rw [Hp64.out]; exact h64j)
       have Hy := hid hy
       have Hyd := hid hyd
       clear hy hyd
       have Hskip : Hid (L.set p.1 (mixJ 0 (j + 1) (L.getD p.1 []) p.2) = L.set p.1 (mixJ 0 j (L.getD p.1 []) p.2)) := by
        show _ = _
        rw [mixJ_no _ _ _ _ (by unfold takes; omega)]
       have HI' := HI
       rw [← Hskip.out] at HI'
       clear HI
       go_wp2_with fail
       go_roundw
       case rel => exact ⟨j + 1, by go_num, h64j, HI'⟩
       case measure => simp [intOf]; omega
      ·have hge : j = 64 := by omega
       subst hge
       have HN := HI.finish fs k Hnext.out 0 HFm.out H64L.out Hp64.out
       clear HI
       go_wp2_with fail
       go_roundw
       case rel => exact ⟨k + 1, by go_num, hlt', HN⟩
       case measure => simp [intOf]; omega
    ·have HFm : Hid (formOf fs k = 1) := by show _ = _; rw [Hf.out]; omega
     have hb1 : (x % 4 == 1) = true := by rw [h4]; rfl
     have hb2 : (x % 4 == 2) = false := by rw [h4]; rfl
     have hb3 : (x % 4 == 3) = false := by rw [h4]; rfl
     clear h4
     go_wp2_with (first
      | (guard_target = wpList _ _ _ (Oper.mk _ (Op.load 54 _) _ _ _ _ :: _) _ _; refine wpList_load_row' rfl 54 _ rfl F 54 65 gr m cr (D.row.map wv) k _ (wv p) _ Hrows.out (by rw [List.length_map]; exact hlt) Hpk.out rfl (by rfl) Try.underlying54 rfl info54 ?_)
      | (guard_target = wpList _ _ _ (Oper.mk _ (Op.alloc 54) _ _ _ _ :: _) _ _; refine wpList_alloc_store rfl 54 rfl 8 _ rfl (by rfl) rfl rfl (by decide) zw (wv p) (by rw [Hw65.out]; exact info54) (wv (0, zb)) zw_cells (Hw65.out.trans wv0_length.symm) (by rfl) (wv_one _) ?_; intro b8 w8 hb8 B8 K8))
     have HI0 : CrIn w w8 g5 n c5 b2 b4 b8 [.slice (some ⟨gl, 0, none⟩) n cl, .slice (some ⟨gr, 0, none⟩) m cr, .int .i64 op, .int .i64 fu, .bool dn] p (L.set p.1 (mixJ 1 0 (L.getD p.1 []) p.2)) := HO.start 1 hb8 B8 K8 HpL.out H64L.out
     clear HO B8 K8 c0 c1 hcA
     go_loopw [9] (fun i wx => ∃ j : Nat, i = .int .i64 j ∧ j ≤ 64 ∧ CrIn w wx g5 n c5 b2 b4 b8 [.slice (some ⟨gl, 0, none⟩) n cl, .slice (some ⟨gr, 0, none⟩) m cr, .int .i64 op, .int .i64 fu, .bool dn] p (L.set p.1 (mixJ 1 j (L.getD p.1 []) p.2))) (fun i _ => 64 - (intOf i).toNat)
     case atStart => exact ⟨0, rfl, Nat.zero_le _, HI0⟩
     case round =>
      obtain ⟨j, rfl, hj, HI⟩ := hrel
      clear HI0
      by_cases h64j : j < 64
      ·have hj64 : (j : Int) < 64 := by omega
       obtain ⟨y, hyd, hy⟩ := wv_byte p j (by rw [Hp64.out]; exact h64j)
       have Hy := hid hy
       have Hyd := hid hyd
       clear hy hyd
       have ht : takes 1 j := .inl rfl
       have Hset : Hid (((L.set p.1 (mixJ 1 j (L.getD p.1 []) p.2)).set p.1 (((L.set p.1 (mixJ 1 j (L.getD p.1 []) p.2)).getD p.1 []).set j y)) = L.set p.1 (mixJ 1 (j + 1) (L.getD p.1 []) p.2)) := by
        show _ = _
        rw [List.set_set, getD_set_same HpL.out, mixJ_yes _ _ _ _ h64j ht, Hyd.out]
       have HM : Hid (((L.set p.1 (mixJ 1 j (L.getD p.1 []) p.2)).getD p.1 []).length = 64) := by
        show _ = _
        rw [getD_set_same HpL.out, mixJ_length]
       have Hpn : Hid (p.1 < (L.set p.1 (mixJ 1 j (L.getD p.1 []) p.2)).length) := by
        show _ < _
        rw [List.length_set]; exact HpL.out
       clear ht
       go_wp2_with fail
       refine wp_region_ordL [(0, true), (1, true), (2, true), (3, true), (4, true), (5, true), (6, true), (7, true), (8, true), (9, true), (10, false)] (fun w' => BlockIs w' b8 (wv p) 54) follows_mixed (by kernel_rfl) HI.blk8.drew ?_
       simp only [List.map_cons, List.map_nil, List.getElem?_cons_succ, List.getElem?_cons_zero, Option.getD_some]
       refine wpO_pure (v := .slice (some ⟨g5, 0, none⟩) n c5) (by rfl) (fun w' hw' => by rfl) ?_
       go_frame
       refine wpO_pure (v := .pointer (some ⟨b8, 0, none⟩)) (by rfl) (fun w' hw' => by go_simp) ?_
       go_frame
       refine wpO_pure (v := .int .i64 (p.1 : Int)) (by rfl) (fun w' hw' => by have hc := hw'.cell 0; simp only [wv, List.getElem?_cons_zero] at hc; go_simp) ?_
       go_frame
       refine wpO_pure (v := .int .i64 (j : Int)) (by rfl) (fun w' hw' => by rfl) ?_
       go_frame
       refine wpO_pure (v := .int .i64 (j : Int)) (by rfl) (fun w' hw' => by rfl) ?_
       go_frame
       refine wpO_pure (v := .pointer (some ⟨b8, 1, none⟩)) (by rfl) (fun w' hw' => by go_simp) ?_
       go_frame
       refine wpO_pure (v := .pointer (some ⟨b8, 1 + j, none⟩)) (by rfl) (fun w' hw' => by go_simp) ?_
       go_frame
       refine wpO_pure (v := .int .u8 (y.toNat : Int)) (by rfl) (fun w' hw' => by have hc : w'.cell? ⟨b8, 1 + j, none⟩ = some (.int .u8 (y.toNat : Int)) := (hw'.cell (1 + j)).trans Hy.out; go_simp) ?_
       go_frame
       refine wpO_pure (v := .pointer (some ⟨g5, p.1 * 64, none⟩)) (by rfl) (fun w' hw' => by go_simp) ?_
       go_frame
       refine wpO_pure (v := .pointer (some ⟨g5, p.1 * 64 + j, none⟩)) (by rfl) (fun w' hw' => by go_simp) ?_
       go_frame
       have HP := HI.drew.put j y h64j Hpn.out HM.out
       refine wpO_store (by rfl) (exec_store1 5 _ _ rfl g5 (p.1 * 64 + j) (.int .u8 (y.toNat : Int)) (by simp [Act.eval]) (by simp [Act.eval]) HP.2 rfl rfl info5') (.inl rfl) ?_
       refine wpO_nil ?_
       have HP1 := HP.1
       rw [Hset.out] at HP1
       clear HP HI
       go_frame
       go_wp2_with fail
       go_roundw
       case rel => exact ⟨j + 1, by go_num, h64j, HP1⟩
       case measure => simp [intOf]; omega
      ·have hge : j = 64 := by omega
       subst hge
       have HN := HI.finish fs k Hnext.out 1 HFm.out H64L.out Hp64.out
       clear HI
       go_wp2_with fail
       go_roundw
       case rel => exact ⟨k + 1, by go_num, hlt', HN⟩
       case measure => simp [intOf]; omega
    ·have HFm : Hid (formOf fs k = 2) := by show _ = _; rw [Hf.out]; omega
     have hb1 : (x % 4 == 1) = false := by rw [h4]; rfl
     have hb2 : (x % 4 == 2) = true := by rw [h4]; rfl
     have hb3 : (x % 4 == 3) = false := by rw [h4]; rfl
     clear h4
     go_wp2_with (first
      | (guard_target = wpList _ _ _ (Oper.mk _ (Op.load 54 _) _ _ _ _ :: _) _ _; refine wpList_load_row' rfl 54 _ rfl F 54 65 gr m cr (D.row.map wv) k _ (wv p) _ Hrows.out (by rw [List.length_map]; exact hlt) Hpk.out rfl (by rfl) Try.underlying54 rfl info54 ?_)
      | (guard_target = wpList _ _ _ (Oper.mk _ (Op.alloc 54) _ _ _ _ :: _) _ _; refine wpList_alloc_store rfl 54 rfl 8 _ rfl (by rfl) rfl rfl (by decide) zw (wv p) (by rw [Hw65.out]; exact info54) (wv (0, zb)) zw_cells (Hw65.out.trans wv0_length.symm) (by rfl) (wv_one _) ?_; intro b8 w8 hb8 B8 K8))
     have HI0 : CrIn w w8 g5 n c5 b2 b4 b8 [.slice (some ⟨gl, 0, none⟩) n cl, .slice (some ⟨gr, 0, none⟩) m cr, .int .i64 op, .int .i64 fu, .bool dn] p (L.set p.1 (mixJ 2 0 (L.getD p.1 []) p.2)) := HO.start 2 hb8 B8 K8 HpL.out H64L.out
     clear HO B8 K8 c0 c1 hcA
     go_loopw [9] (fun i wx => ∃ j : Nat, i = .int .i64 j ∧ j ≤ 64 ∧ CrIn w wx g5 n c5 b2 b4 b8 [.slice (some ⟨gl, 0, none⟩) n cl, .slice (some ⟨gr, 0, none⟩) m cr, .int .i64 op, .int .i64 fu, .bool dn] p (L.set p.1 (mixJ 2 j (L.getD p.1 []) p.2))) (fun i _ => 64 - (intOf i).toNat)
     case atStart => exact ⟨0, rfl, Nat.zero_le _, HI0⟩
     case round =>
      obtain ⟨j, rfl, hj, HI⟩ := hrel
      clear HI0
      by_cases h64j : j < 64
      ·have hj64 : (j : Int) < 64 := by omega
       obtain ⟨y, hyd, hy⟩ := wv_byte p j (by rw [Hp64.out]; exact h64j)
       have Hy := hid hy
       have Hyd := hid hyd
       clear hy hyd
       by_cases h32 : (j : Int) < 32
       ·have h32n : j < 32 := by omega
        have ht : takes 2 j := by unfold takes; omega
        have Hset : Hid (((L.set p.1 (mixJ 2 j (L.getD p.1 []) p.2)).set p.1 (((L.set p.1 (mixJ 2 j (L.getD p.1 []) p.2)).getD p.1 []).set j y)) = L.set p.1 (mixJ 2 (j + 1) (L.getD p.1 []) p.2)) := by
         show _ = _
         rw [List.set_set, getD_set_same HpL.out, mixJ_yes _ _ _ _ h64j ht, Hyd.out]
        have HM : Hid (((L.set p.1 (mixJ 2 j (L.getD p.1 []) p.2)).getD p.1 []).length = 64) := by
         show _ = _
         rw [getD_set_same HpL.out, mixJ_length]
        have Hpn : Hid (p.1 < (L.set p.1 (mixJ 2 j (L.getD p.1 []) p.2)).length) := by
         show _ < _
         rw [List.length_set]; exact HpL.out
        clear ht
        go_wp2_with fail
        refine wp_region_ordL [(0, true), (1, true), (2, true), (3, true), (4, true), (5, true), (6, true), (7, true), (8, true), (9, true), (10, false)] (fun w' => BlockIs w' b8 (wv p) 54) follows_mixed (by kernel_rfl) HI.blk8.drew ?_
        simp only [List.map_cons, List.map_nil, List.getElem?_cons_succ, List.getElem?_cons_zero, Option.getD_some]
        refine wpO_pure (v := .slice (some ⟨g5, 0, none⟩) n c5) (by rfl) (fun w' hw' => by rfl) ?_
        go_frame
        refine wpO_pure (v := .pointer (some ⟨b8, 0, none⟩)) (by rfl) (fun w' hw' => by go_simp) ?_
        go_frame
        refine wpO_pure (v := .int .i64 (p.1 : Int)) (by rfl) (fun w' hw' => by have hc := hw'.cell 0; simp only [wv, List.getElem?_cons_zero] at hc; go_simp) ?_
        go_frame
        refine wpO_pure (v := .int .i64 (j : Int)) (by rfl) (fun w' hw' => by rfl) ?_
        go_frame
        refine wpO_pure (v := .int .i64 (j : Int)) (by rfl) (fun w' hw' => by rfl) ?_
        go_frame
        refine wpO_pure (v := .pointer (some ⟨b8, 1, none⟩)) (by rfl) (fun w' hw' => by go_simp) ?_
        go_frame
        refine wpO_pure (v := .pointer (some ⟨b8, 1 + j, none⟩)) (by rfl) (fun w' hw' => by go_simp) ?_
        go_frame
        refine wpO_pure (v := .int .u8 (y.toNat : Int)) (by rfl) (fun w' hw' => by have hc : w'.cell? ⟨b8, 1 + j, none⟩ = some (.int .u8 (y.toNat : Int)) := (hw'.cell (1 + j)).trans Hy.out; go_simp) ?_
        go_frame
        refine wpO_pure (v := .pointer (some ⟨g5, p.1 * 64, none⟩)) (by rfl) (fun w' hw' => by go_simp) ?_
        go_frame
        refine wpO_pure (v := .pointer (some ⟨g5, p.1 * 64 + j, none⟩)) (by rfl) (fun w' hw' => by go_simp) ?_
        go_frame
        have HP := HI.drew.put j y h64j Hpn.out HM.out
        refine wpO_store (by rfl) (exec_store1 5 _ _ rfl g5 (p.1 * 64 + j) (.int .u8 (y.toNat : Int)) (by simp [Act.eval]) (by simp [Act.eval]) HP.2 rfl rfl info5') (.inl rfl) ?_
        refine wpO_nil ?_
        have HP1 := HP.1
        rw [Hset.out] at HP1
        clear HP HI
        go_frame
        go_wp2_with fail
        go_roundw
        case rel => exact ⟨j + 1, by go_num, h64j, HP1⟩
        case measure => simp [intOf]; omega
       ·have h32n : ¬ j < 32 := by omega
        have Hskip : Hid (L.set p.1 (mixJ 2 (j + 1) (L.getD p.1 []) p.2) = L.set p.1 (mixJ 2 j (L.getD p.1 []) p.2)) := by
         show _ = _
         rw [mixJ_no _ _ _ _ (by unfold takes; omega)]
        have HI' := HI
        rw [← Hskip.out] at HI'
        clear HI
        go_wp2_with fail
        go_roundw
        case rel => exact ⟨j + 1, by go_num, h64j, HI'⟩
        case measure => simp [intOf]; omega
      ·have hge : j = 64 := by omega
       subst hge
       have HN := HI.finish fs k Hnext.out 2 HFm.out H64L.out Hp64.out
       clear HI
       go_wp2_with fail
       go_roundw
       case rel => exact ⟨k + 1, by go_num, hlt', HN⟩
       case measure => simp [intOf]; omega
    ·have HFm : Hid (formOf fs k = 3) := by show _ = _; rw [Hf.out]; omega
     have hb1 : (x % 4 == 1) = false := by rw [h4]; rfl
     have hb2 : (x % 4 == 2) = false := by rw [h4]; rfl
     have hb3 : (x % 4 == 3) = true := by rw [h4]; rfl
     clear h4
     go_wp2_with (first
      | (guard_target = wpList _ _ _ (Oper.mk _ (Op.load 54 _) _ _ _ _ :: _) _ _; refine wpList_load_row' rfl 54 _ rfl F 54 65 gr m cr (D.row.map wv) k _ (wv p) _ Hrows.out (by rw [List.length_map]; exact hlt) Hpk.out rfl (by rfl) Try.underlying54 rfl info54 ?_)
      | (guard_target = wpList _ _ _ (Oper.mk _ (Op.alloc 54) _ _ _ _ :: _) _ _; refine wpList_alloc_store rfl 54 rfl 8 _ rfl (by rfl) rfl rfl (by decide) zw (wv p) (by rw [Hw65.out]; exact info54) (wv (0, zb)) zw_cells (Hw65.out.trans wv0_length.symm) (by rfl) (wv_one _) ?_; intro b8 w8 hb8 B8 K8))
     have HI0 : CrIn w w8 g5 n c5 b2 b4 b8 [.slice (some ⟨gl, 0, none⟩) n cl, .slice (some ⟨gr, 0, none⟩) m cr, .int .i64 op, .int .i64 fu, .bool dn] p (L.set p.1 (mixJ 3 0 (L.getD p.1 []) p.2)) := HO.start 3 hb8 B8 K8 HpL.out H64L.out
     clear HO B8 K8 c0 c1 hcA
     go_loopw [9] (fun i wx => ∃ j : Nat, i = .int .i64 j ∧ j ≤ 64 ∧ CrIn w wx g5 n c5 b2 b4 b8 [.slice (some ⟨gl, 0, none⟩) n cl, .slice (some ⟨gr, 0, none⟩) m cr, .int .i64 op, .int .i64 fu, .bool dn] p (L.set p.1 (mixJ 3 j (L.getD p.1 []) p.2))) (fun i _ => 64 - (intOf i).toNat)
     case atStart => exact ⟨0, rfl, Nat.zero_le _, HI0⟩
     case round =>
      obtain ⟨j, rfl, hj, HI⟩ := hrel
      clear HI0
      by_cases h64j : j < 64
      ·have hj64 : (j : Int) < 64 := by omega
       obtain ⟨y, hyd, hy⟩ := wv_byte p j (by rw [Hp64.out]; exact h64j)
       have Hy := hid hy
       have Hyd := hid hyd
       clear hy hyd
       by_cases h32 : (j : Int) < 32
       ·have h32n : j < 32 := by omega
        have Hskip : Hid (L.set p.1 (mixJ 3 (j + 1) (L.getD p.1 []) p.2) = L.set p.1 (mixJ 3 j (L.getD p.1 []) p.2)) := by
         show _ = _
         rw [mixJ_no _ _ _ _ (by unfold takes; omega)]
        have HI' := HI
        rw [← Hskip.out] at HI'
        clear HI
        go_wp2_with fail
        go_roundw
        case rel => exact ⟨j + 1, by go_num, h64j, HI'⟩
        case measure => simp [intOf]; omega
       ·have h32n : ¬ j < 32 := by omega
        have ht : takes 3 j := by unfold takes; omega
        have Hset : Hid (((L.set p.1 (mixJ 3 j (L.getD p.1 []) p.2)).set p.1 (((L.set p.1 (mixJ 3 j (L.getD p.1 []) p.2)).getD p.1 []).set j y)) = L.set p.1 (mixJ 3 (j + 1) (L.getD p.1 []) p.2)) := by
         show _ = _
         rw [List.set_set, getD_set_same HpL.out, mixJ_yes _ _ _ _ h64j ht, Hyd.out]
        have HM : Hid (((L.set p.1 (mixJ 3 j (L.getD p.1 []) p.2)).getD p.1 []).length = 64) := by
         show _ = _
         rw [getD_set_same HpL.out, mixJ_length]
        have Hpn : Hid (p.1 < (L.set p.1 (mixJ 3 j (L.getD p.1 []) p.2)).length) := by
         show _ < _
         rw [List.length_set]; exact HpL.out
        clear ht
        go_wp2_with fail
        refine wp_region_ordL [(0, true), (1, true), (2, true), (3, true), (4, true), (5, true), (6, true), (7, true), (8, true), (9, true), (10, false)] (fun w' => BlockIs w' b8 (wv p) 54) follows_mixed (by kernel_rfl) HI.blk8.drew ?_
        simp only [List.map_cons, List.map_nil, List.getElem?_cons_succ, List.getElem?_cons_zero, Option.getD_some]
        refine wpO_pure (v := .slice (some ⟨g5, 0, none⟩) n c5) (by rfl) (fun w' hw' => by rfl) ?_
        go_frame
        refine wpO_pure (v := .pointer (some ⟨b8, 0, none⟩)) (by rfl) (fun w' hw' => by go_simp) ?_
        go_frame
        refine wpO_pure (v := .int .i64 (p.1 : Int)) (by rfl) (fun w' hw' => by have hc := hw'.cell 0; simp only [wv, List.getElem?_cons_zero] at hc; go_simp) ?_
        go_frame
        refine wpO_pure (v := .int .i64 (j : Int)) (by rfl) (fun w' hw' => by rfl) ?_
        go_frame
        refine wpO_pure (v := .int .i64 (j : Int)) (by rfl) (fun w' hw' => by rfl) ?_
        go_frame
        refine wpO_pure (v := .pointer (some ⟨b8, 1, none⟩)) (by rfl) (fun w' hw' => by go_simp) ?_
        go_frame
        refine wpO_pure (v := .pointer (some ⟨b8, 1 + j, none⟩)) (by rfl) (fun w' hw' => by go_simp) ?_
        go_frame
        refine wpO_pure (v := .int .u8 (y.toNat : Int)) (by rfl) (fun w' hw' => by have hc : w'.cell? ⟨b8, 1 + j, none⟩ = some (.int .u8 (y.toNat : Int)) := (hw'.cell (1 + j)).trans Hy.out; go_simp) ?_
        go_frame
        refine wpO_pure (v := .pointer (some ⟨g5, p.1 * 64, none⟩)) (by rfl) (fun w' hw' => by go_simp) ?_
        go_frame
        refine wpO_pure (v := .pointer (some ⟨g5, p.1 * 64 + j, none⟩)) (by rfl) (fun w' hw' => by go_simp) ?_
        go_frame
        have HP := HI.drew.put j y h64j Hpn.out HM.out
        refine wpO_store (by rfl) (exec_store1 5 _ _ rfl g5 (p.1 * 64 + j) (.int .u8 (y.toNat : Int)) (by simp [Act.eval]) (by simp [Act.eval]) HP.2 rfl rfl info5') (.inl rfl) ?_
        refine wpO_nil ?_
        have HP1 := HP.1
        rw [Hset.out] at HP1
        clear HP HI
        go_frame
        go_wp2_with fail
        go_roundw
        case rel => exact ⟨j + 1, by go_num, h64j, HP1⟩
        case measure => simp [intOf]; omega
      ·have hge : j = 64 := by omega
       subst hge
       have HN := HI.finish fs k Hnext.out 3 HFm.out H64L.out Hp64.out
       clear HI
       go_wp2_with fail
       go_roundw
       case rel => exact ⟨k + 1, by go_num, hlt', HN⟩
       case measure => simp [intOf]; omega
end Go.Proofs.Ytffcglfepobdjaa
set_option maxHeartbeats 1500000
namespace Go.Proofs.Ytffcglfepobdjaa
open Go.RowKit
theorem do_crash {w : World} {F : Nat → Prop} {vl vr : Value} {D : DS} (H : StAt w F vl vr D) (hok : D.ok) (ho : D.ops ≤ 1099511627776) (hr : D.row.length ≤ 1099511627776) (o : OpV) (hoo : o.ok) (Ab Af : Option Addr) (cb cf : Nat) (hAf : Reads w Af (ints o.forms)) (h3 : o.kind = 3) :
  Calls Try.prog 20 #[.agg (stv vl vr D).toArray, .agg (opv o Ab Af cb cf).toArray] w (DoPost w F (D.crash o.forms, 0)) := by
 obtain ⟨Al, cl, rfl⟩ := H.l.valm
 obtain ⟨Ar, cr, rfl⟩ := H.row.valm
 obtain ⟨n, hn⟩ : ∃ n, n = D.l.length := ⟨_, rfl⟩
 obtain ⟨m, hm⟩ : ∃ n, n = D.row.length := ⟨_, rfl⟩
 obtain ⟨op, hop⟩ : ∃ n : Int, n = (D.ops : Int) := ⟨_, rfl⟩
 obtain ⟨fu, hfu⟩ : ∃ n : Int, n = D.fuse := ⟨_, rfl⟩
 obtain ⟨dn, hdn⟩ : ∃ n : Bool, n = D.down := ⟨_, rfl⟩
 obtain ⟨kd, hkd⟩ : ∃ n : Int, n = o.kind := ⟨_, rfl⟩
 obtain ⟨ok, hok1⟩ : ∃ n : Int, n = o.k := ⟨_, rfl⟩
 obtain ⟨nb, hnb⟩ : ∃ n : Nat, n = o.b.length := ⟨_, rfl⟩
 obtain ⟨nf, hnf⟩ : ∃ n : Nat, n = o.forms.length := ⟨_, rfl⟩
 have hst : (stv (.slice Al D.l.length cl) (.slice Ar D.row.length cr) D) = [.slice Al n cl, .slice Ar m cr, .int .i64 op, .int .i64 fu, .bool dn] := by rw [hn, hm, hop, hfu, hdn]; rfl
 have hov : opv o Ab Af cb cf = [.int .i64 kd, .int .i64 ok, .slice Ab nb cb, .slice Af nf cf] := by rw [hkd, hok1, hnb, hnf]; rfl
 have hkk := hoo.kind
 have hk1 := hoo.k
 rw [← hkd] at hkk
 rw [← hok1] at hk1
 have hkk1 := hkk.1
 have hkk2 := hkk.2
 have hk11 := hk1.1
 have hk12 := hk1.2
 have Hst := hid hst
 have HOV := hid hov
 rw [hst, hov]
 have HR := hid H
 have Hn := hid hn
 have Hm := hid hm
 have Hop := hid hop
 have Hfu := hid hfu
 have Hdn := hid hdn
 have Hok := hid hok1
 have Hnb := hid hnb
 have Hnf := hid hnf
 clear hkk hk1 hst hov hn hm hop hfu hdn hok1 hnb hnf H
 rw [← hkd] at h3
 subst h3
 clear hkd
 have HAf := hid hAf
 clear hAf
 have hcr : ∀ W : World, Keep Noth w W → Calls Try.prog 58 #[.agg [.slice Al n cl, .slice Ar m cr, .int .i64 op, .int .i64 fu, .bool dn].toArray, .slice Af nf cf] W (fun e w' => ∃ vl', e = .returned (.agg (stv vl' (.slice none 0 0) (D.crash o.forms)).toArray) ∧ StAt w' (Fresh W w') vl' (.slice none 0 0) (D.crash o.forms) ∧ Keep Noth W w') := fun W K => by
  have h := st_crash (HR.out.keep K (Dj.noth _)) hok hr Af cf o.forms (HAf.out.keep K (fun _ _ => id)) (by have := hoo.forms; omega) hoo.each
  rw [Hst.out, ← Hnf.out] at h
  exact h
 have Hcr := hid hcr
 clear hcr
 go_enter Try.func20, Try.ntmps20
 go_wp2_with (first
  | (guard_target = wpList _ _ _ (Oper.mk _ (Op.box 30 _) _ _ _ _ :: _) _ _; refine wpList_box_v rfl 30 _ rfl [.slice Al n cl, .slice Ar m cr, .int .i64 op, .int .i64 fu, .bool dn] (by rfl) ?_; intro b2 w1 hb2 B1 K1)
  | (guard_target = wpList _ _ _ (Oper.mk _ (Op.box 36 _) _ _ _ _ :: _) _ _; refine wpList_box_v rfl 36 _ rfl [.int .i64 3, .int .i64 ok, .slice Ab nb cb, .slice Af nf cf] (by rfl) ?_; intro b3 w2 hb3 C2 K2; have B2 := B1.keep K2 id)
  | (guard_target = wpList _ _ _ (Oper.mk _ (Op.alloc 30) _ _ _ _ :: _) _ _; refine wpList_alloc_v rfl 30 rfl zst info30 stz zst_cells ?_; intro b4 w3 hb4 D3 K3; have B3 := B2.keep K3 id; have C3 := C2.keep K3 id; have k0 := C3.cell 0; have k1 := C3.cell 1; have k2 := C3.cell 2; have k3 := C3.cell 3; have s0 := B3.cell 0; have s4 := B3.cell 4; have s3 := B3.cell 3; simp only [List.getElem?_cons_zero, List.getElem?_cons_succ] at k0 k1 k2 k3 s0 s3 s4)
  | (guard_target = wpList _ _ _ (Oper.mk _ (Op.load 30 (Operand.tmp 2)) _ _ _ _ :: _) _ _; refine wpList_load_blk rfl 30 _ rfl b2 0 [.slice Al n cl, .slice Ar m cr, .int .i64 op, .int .i64 fu, .bool dn] [.slice Al n cl, .slice Ar m cr, .int .i64 op, .int .i64 fu, .bool dn] 30 _ (by rfl) B3 (part0 _) Try.underlying30 rfl info30 ?_)
  | (go_at_call 58; refine (Hcr.out _ ((K1.trans K2 (fun _ _ h => h)).trans K3 (fun _ _ h => h))).mono ?_; rintro e w5 ⟨vl5, rfl, S5, K5⟩; obtain ⟨sv, hsv⟩ : ∃ sv, sv = stv vl5 (.slice none 0 0) (D.crash o.forms) := ⟨_, rfl⟩; have Hsl : Hid (sv.length = 5) := (show sv.length = 5 by rw [hsv]; rfl); have Hs1 : Hid (∀ u ∈ sv, u.oneCell' = true) := (show ∀ u ∈ sv, u.oneCell' = true by rw [hsv]; exact stv_one _ S5.l.one_val.1 rfl); rw [← hsv]; have Hsv := hid hsv; clear hsv; have D5 := D3.keep K5 id)
  | (guard_target = wpList _ _ _ (Oper.mk _ (Op.store 30 (Operand.tmp 4) _) _ _ _ _ :: _) _ _; refine wpList_store_whole rfl 30 _ _ rfl b4 stz sv 30 (by rfl) (by rfl) D5 (by rw [Hsl.out]; rfl) (by rw [Hsl.out]; exact info30) Hs1.out ?_; intro w9 D9 K9))
 refine ret_cell_tmp rfl b4 sv 30 _ (.int .i64 0) (by rfl) (by rfl) D9 Try.underlying30 rfl (by rw [Hsl.out]; exact info30) rfl ?_
 rw [Hsv.out]
 have h1s := K1.size
 have h2s := K2.size
 have h3s := K3.size
 have h5s := K5.size
 have h9s := K9.size
 refine ⟨vl5, _, rfl, ((S5.stay2 D5 K9).mono (fun q hq => .inr ⟨by have := hq.1; omega, by have := hq.2; omega⟩)), (((K1.trans K2 (fun _ _ h => h)).trans K3 (fun _ _ h => h)).trans K5 (fun _ _ h => h)).own K9 (fun q e => by unfold Only at e; subst e; omega)⟩
/-- Do. -/
theorem do_calls {w : World} {F : Nat → Prop} {vl vr : Value} {D : DS} (H : StAt w F vl vr D) (hok : D.ok) (ho : D.ops ≤ 1099511627776) (hr : D.row.length ≤ 1099511627776) (o : OpV) (hoo : o.ok) (Ab Af : Option Addr) (cb cf : Nat) (hR : OpAt w o Ab Af) :
  Calls Try.prog 20 #[.agg (stv vl vr D).toArray, .agg (opv o Ab Af cb cf).toArray] w (DoPost w F (D.doOp o)) := by
 unfold DS.doOp
 split
 ·rename_i h; exact do_write H hok ho hr o hoo Ab Af cb cf hR.b h
 ·rename_i h0
  split
  ·rename_i h; exact do_flush H hok ho hr o hoo Ab Af cb cf h
  ·rename_i h1
   split
   ·rename_i h; exact do_arm H hok ho hr o hoo Ab Af cb cf h
   ·rename_i h2
    split
    ·rename_i h; exact do_crash H hok ho hr o hoo Ab Af cb cf hR.forms h
    ·rename_i h3
     exact do_none H hok ho hr o hoo Ab Af cb cf h0 h1 h2 h3
theorem write_grow (D : DS) (k : Int) (b : List UInt8) : (D.write k b).1.ops ≤ D.ops + 1 ∧ (D.write k b).1.row.length ≤ D.row.length + 1 ∧ (D.write k b).1.l.length = D.l.length := by
 unfold DS.write
 (repeat' split) <;> simp [DS.tick, DS.put]
/-- How many blocks a half has. -/
def DS.half (D : DS) : Nat := (D.l.length - 2) / 2
def blocksN (b : List UInt8) : Nat := (b.length + 65) / 64
theorem area_calls {w : World} {F : Nat → Prop} {g : Nat} {vl vr : Value} {D : DS} (h : DevAt w F g vl vr D) (hok : D.ok) :
  Calls Try.prog 64 #[.pointer (some ⟨g, 0, none⟩)] w (fun e w' => e = .returned (.int .i64 (D.half : Int)) ∧ w = w') := by
 have h1 := hok.one
 have h2 := hok.most
 have hd : ((D.l.length : Int) - 2).tdiv 2 = (D.half : Int) := by
  unfold DS.half
  rcases (show D.l.length = 1 ∨ 2 ≤ D.l.length by omega) with h | h
  ·rw [h]; rfl
  ·rw [Int.tdiv_eq_ediv_of_nonneg (by omega)]; omega
 have hc := count_calls h
 have Hd := hid hd
 clear hd
 go_enter Try.func64, Try.ntmps64
 go_wp2_with fail
 refine hc.mono ?_
 rintro e w' ⟨rfl, rfl⟩
 go_wp2_with fail
 go_ret
 exact ⟨ret_int Hd.out, rfl⟩
theorem first_calls {w : World} {F : Nat → Prop} {g : Nat} {vl vr : Value} {D : DS} (h : DevAt w F g vl vr D) (hok : D.ok) (a : Nat) (ha : a ≤ 1) :
  Calls Try.prog 72 #[.pointer (some ⟨g, 0, none⟩), .int .i64 (a : Int)] w (fun e w' => e = .returned (.int .i64 ((2 + a * D.half : Nat) : Int)) ∧ w = w') := by
 have hc := area_calls h hok
 have hh : (D.half : Int) ≤ 4096 := by have := hok.most; unfold DS.half; omega
 have hm : (2 : Int) + (a : Int) * (D.half : Int) = ((2 + a * D.half : Nat) : Int) := by push_cast; rfl
 have ha' : (a : Int) = 0 ∨ (a : Int) = 1 := by omega
 have Hm := hid hm
 generalize D.half = q at *
 have hb : 0 ≤ (a : Int) * (q : Int) ∧ (a : Int) * (q : Int) ≤ 4096 := by rcases ha' with h | h <;> rw [h] <;> omega
 have hb1 := hb.1
 have hb2 := hb.2
 clear hm hb ha'
 go_enter Try.func72, Try.ntmps72
 go_wp2_with fail
 refine hc.mono ?_
 rintro e w' ⟨rfl, rfl⟩
 go_wp2_with fail
 go_ret
 exact ⟨ret_int Hm.out, rfl⟩
theorem blocks_calls (w : World) (A : Option Addr) (c : Nat) (b : List UInt8) (hb : b.length ≤ 140737488351232) :
  Calls Try.prog 68 #[.slice A b.length c] w (fun e w' => e = .returned (.int .i64 (blocksN b : Int)) ∧ w = w') := by
 have hd : ((b.length : Int) + 2 + 64 - 1) / 64 = (blocksN b : Int) := by unfold blocksN; omega
 have hb' : (b.length : Int) ≤ 140737488351232 := by omega
 have Hd := hid hd
 clear hd
 go_enter Try.func68, Try.ntmps68
 go_wp2_with fail
 go_ret
 exact ⟨ret_int Hd.out, rfl⟩
def getN : List UInt8 → Nat
 | [] => 0
 | x :: l => x.toNat + 256 * getN l
theorem getN_lt : ∀ l : List UInt8, getN l < 256 ^ l.length
 | [] => by simp [getN]
 | x :: l => by
  have h := getN_lt l
  have hx : x.toNat < 256 := x.toNat_lt
  rw [List.length_cons, Nat.pow_succ, getN]
  omega
theorem getN_snoc : ∀ (l : List UInt8) (x : UInt8), getN (l ++ [x]) = getN l + 256 ^ l.length * x.toNat
 | [], x => by simp [getN]
 | y :: l, x => by
  rw [List.cons_append, getN, getN_snoc l x, getN, List.length_cons, Nat.pow_succ, Nat.mul_add, ← Nat.add_assoc]
  congr 1
  rw [← Nat.mul_assoc, Nat.mul_comm 256 (256 ^ l.length)]
theorem bits_or_u64_nat (a b : Nat) (ha : a < 18446744073709551616) (hb : b < 18446744073709551616) :
  bits .or .u64 (a : Int) (b : Int) = ((a ||| b : Nat) : Int) := by
 have hx : a ||| b < 2 ^ 64 := Nat.or_lt_two_pow (by omega) (by omega)
 have h1 : (BitVec.ofInt 64 (a : Int)).toNat = a := by
  rw [BitVec.ofInt_natCast, BitVec.toNat_ofNat]; exact Nat.mod_eq_of_lt (by omega)
 have h2 : (BitVec.ofInt 64 (b : Int)).toNat = b := by
  rw [BitVec.ofInt_natCast, BitVec.toNat_ofNat]; exact Nat.mod_eq_of_lt (by omega)
 show IntKind.u64.wrap ((BitVec.ofInt 64 (a : Int) ||| BitVec.ofInt 64 (b : Int)).toNat : Int) = _
 rw [BitVec.toNat_or, h1, h2, IntKind.wrap_u64]
 omega
theorem get_step (l : List UInt8) (y : UInt8) (hl : l.length < 8) : bits .or .u64 (getN l : Int) (IntKind.u64.wrap (IntKind.u64.wrap (y.toNat : Int) * 2 ^ (8 * l.length))) = (getN (l ++ [y]) : Int) := by
 have hy : y.toNat < 256 := y.toNat_lt
 have hg := getN_lt l
 have h256 : 256 ^ l.length = 2 ^ (8 * l.length) := by rw [show (256 : Nat) = 2 ^ 8 from rfl, ← Nat.pow_mul]
 have hp : 2 ^ (8 * l.length) ≤ 2 ^ 56 := Nat.pow_le_pow_right (by decide) (by omega)
 have hpos : 0 < 2 ^ (8 * l.length) := Nat.pow_pos (by decide)
 have hmul : 2 ^ (8 * l.length) * y.toNat < 18446744073709551616 := by
  have : 2 ^ (8 * l.length) * y.toNat ≤ 2 ^ 56 * 255 := Nat.mul_le_mul hp (by omega)
  omega
 have e1 : IntKind.u64.wrap (y.toNat : Int) = (y.toNat : Int) := by rw [IntKind.wrap_u64]; omega
 have e2 : IntKind.u64.wrap ((y.toNat : Int) * 2 ^ (8 * l.length)) = ((2 ^ (8 * l.length) * y.toNat : Nat) : Int) := by
  rw [IntKind.wrap_u64, show (y.toNat : Int) * 2 ^ (8 * l.length) = ((2 ^ (8 * l.length) * y.toNat : Nat) : Int) by push_cast; exact Int.mul_comm _ _]
  omega
 rw [e1, e2, bits_or_u64_nat _ _ (by rw [h256] at hg; omega) hmul, getN_snoc, h256]
 congr 1
 rw [Nat.or_comm, ← Nat.two_pow_add_eq_or_of_lt (by rw [← h256]; exact hg), Nat.add_comm]
theorem get_calls (w : World) (A : Option Addr) (c : Nat) (b : List UInt8) (hA : Reads w A (bv b)) (hb : b.length ≤ 8) :
  Calls Try.prog 90 #[.slice A b.length c] w (fun e w' => e = .returned (.int .u64 (getN b : Int)) ∧ w = w') := by
 have hb' : (b.length : Int) ≤ 8 := by omega
 have HA := hid hA
 clear hA
 go_enter Try.func90, Try.ntmps90
 go_wp2_with fail
 go_loopw [3, 8] (fun v i wr => ∃ k : Nat, i = .int .i64 k ∧ k ≤ b.length ∧ v = .int .u64 (getN (b.take k) : Int) ∧ wr = w) (fun _ i _ => b.length - (intOf i).toNat)
 case atStart => exact ⟨0, rfl, Nat.zero_le _, rfl, rfl⟩
 case round =>
  obtain ⟨k, rfl, hk, rfl, rfl⟩ := hrel
  by_cases hlt : k < b.length
  ·have hlt' : (k : Int) < b.length := by omega
   obtain ⟨g, o, rfl, hr, hg⟩ := HA.out.where (by rw [bv_length]; omega)
   obtain ⟨y, hy⟩ : ∃ y, b[k]? = some y := ⟨_, List.getElem?_eq_getElem hlt⟩
   have hcell : wr.cell? ⟨g, o + k, none⟩ = some (.int .u8 (y.toNat : Int)) := hr k (Go.Proofs.Ytffcglfepobdjaa.u8 y) (by simp [bv, hy])
   have htk : b.take (k + 1) = b.take k ++ [y] := by rw [List.take_add_one, hy]; rfl
   have hst := get_step (b.take k) y (by rw [List.length_take]; omega)
   rw [List.length_take, Nat.min_eq_left (by omega), ← htk] at hst
   have Hst := hid hst
   clear hst htk hy hr
   go_wp2_with fail
   go_roundw
   case rel => exact ⟨k + 1, by go_num, hlt, by rw [Hst.out], trivial⟩
   case measure => simp [intOf]; omega
  ·have hge : k = b.length := by omega
   subst hge
   go_wp2_with fail
   go_ret
   rw [List.take_length]
   exact ⟨rfl, rfl⟩
/-- A number's bytes. -/
def putB (many n : Nat) : List UInt8 := (List.range many).map fun k => UInt8.ofNat (n / 2 ^ (8 * k))
theorem putB_length (many n : Nat) : (putB many n).length = many := by simp [putB]
theorem putB_succ (k n : Nat) : putB (k + 1) n = putB k n ++ [UInt8.ofNat (n / 2 ^ (8 * k))] := by simp [putB, List.range_succ]
theorem splice_get {α : Type} (L : List α) (off : Nat) (p : List α) (h : off + p.length ≤ L.length) (i : Nat) : (splice L off p)[i]? = if i < off then L[i]? else if i < off + p.length then p[i - off]? else L[i]? := by
 unfold splice
 split
 ·rename_i h1
  rw [List.getElem?_append_left (by rw [List.length_take]; omega), List.getElem?_take, if_pos h1]
 ·rename_i h1
  rw [List.getElem?_append_right (by rw [List.length_take]; omega), List.length_take, show min off L.length = off by omega]
  split
  ·rename_i h2
   rw [List.getElem?_append_left (by omega)]
  ·rename_i h2
   rw [List.getElem?_append_right (by omega), List.getElem?_drop]
   congr 1
   omega
theorem u1_splice_set (L : List UInt8) (off : Nat) (p : List UInt8) (y : UInt8) (h : off + p.length < L.length) : (splice L off p).set (off + p.length) y = splice L off (p ++ [y]) := by
 apply List.ext_getElem?
 intro i
 have hl : (splice L off p).length = L.length := length_splice _ _ _ (by omega)
 have hp : (p ++ [y]).length = p.length + 1 := by simp
 rw [List.getElem?_set, hl, splice_get _ _ _ (by omega), splice_get _ _ _ (by omega), hp]
 by_cases h1 : off + p.length = i
 ·subst h1
  rw [if_pos rfl, if_pos h, if_neg (by omega), if_pos (by omega), show off + p.length - off = p.length by omega]
  simp
 ·rw [if_neg h1]
  by_cases h2 : i < off
  ·rw [if_pos h2, if_pos h2]
  ·rw [if_neg h2, if_neg h2]
   by_cases h3 : i < off + p.length
   ·rw [if_pos h3, if_pos (by omega), List.getElem?_append_left (by omega)]
   ·rw [if_neg h3, if_neg (by omega)]
theorem Rows.byte {w : World} {F : Nat → Prop} {g n c : Nat} {L : List UInt8} (H : Rows w F 5 1 (.slice (some ⟨g, 0, none⟩) n c) (u1 L)) (i : Nat) (y : UInt8) (hi : i < L.length) :
  Rows (w.setCell ⟨g, i, none⟩ (u8 y)) F 5 1 (.slice (some ⟨g, 0, none⟩) n c) (u1 (L.set i y)) ∧ w.there g i 1 := by
 have h := Rows.splice H i 0 [u8 y] (by rw [u1_length]; exact hi) (by simp)
 have e0 : (u1 L)[i]'(by rw [u1_length]; exact hi) = [u8 (L[i])] := by simp [u1]
 have e : (u1 L).set i (Go.splice ((u1 L)[i]'(by rw [u1_length]; exact hi)) 0 [u8 y]) = u1 (L.set i y) := by
  rw [e0]; simp [Go.splice, u1, List.map_set]
 rw [e] at h
 have ht := Rows.there H i (by rw [u1_length]; exact hi)
 simp only [Nat.mul_one, Nat.add_zero] at h ht
 exact ⟨h, ht⟩
section
variable {P : Program} {ops : Array Oper} {rest : List Oper} {o : Oper} {a : Act} {w : World} {Q : Exit → Act → World → Prop}
/-- One cell is stored into, wherever it lies. -/
theorem wpList_store_one (hgd : o.guard = none) (ty : TypeId) (x y : Operand) (ho : o.op = .store ty x y) (b k : Nat) (v : Value) {z : Option Value} {bytes : Nat}
  (hx : a.eval x = .pointer (some ⟨b, k, none⟩)) (hy : a.eval y = v) (ht : w.there b k 1) (h1 : v.oneCell' = true) (hc : v.cells = #[v]) (hi : (P.info? ty).map (fun i => (i.zero, i.size, i.bytes)) = some (z, 1, bytes))
  (h : ∀ w1, (∀ R : World → Prop, R (w.setCell ⟨b, k, none⟩ v) → R w1) → wpList P ops Q rest (a.put o.dst undef) w1) : wpList P ops Q (o :: rest) a w := by
 refine wpList_plain hgd fun K' hK' => ?_
 have hr := exec_store1 (P := P) ty x y ho b k v hx hy ht h1 hc hi
 unfold Oper.wp
 rw [hr]
 exact hK' _ _ (h _ (fun _ h => h))
end
theorem put_calls {w : World} {F : Nat → Prop} {g n c : Nat} {L : List UInt8} (H : Rows w F 5 1 (.slice (some ⟨g, 0, none⟩) n c) (u1 L)) (off many c' : Nat) (hm : many ≤ 8) (hl : off + many ≤ L.length) (N : Nat) (hN : N < 18446744073709551616) :
  Calls Try.prog 91 #[.slice (some ⟨g, off, none⟩) many c', .int .u64 (N : Int)] w (fun e w' => e = .returned (.tuple #[]) ∧ Rows w' F 5 1 (.slice (some ⟨g, 0, none⟩) n c) (u1 (splice L off (putB many N))) ∧ Keep (Only g) w w') := by
 have hm' : (many : Int) ≤ 8 := by omega
 have HN := hid hN
 clear hN
 have HH := hid H
 clear H
 go_enter Try.func91, Try.ntmps91
 go_wp2_with fail
 go_loopw [7] (fun i wr => ∃ k : Nat, i = .int .i64 k ∧ k ≤ many ∧ Rows wr F 5 1 (.slice (some ⟨g, 0, none⟩) n c) (u1 (splice L off (putB k N))) ∧ Keep (Only g) w wr) (fun i _ => many - (intOf i).toNat)
 case atStart => exact ⟨0, rfl, Nat.zero_le _, by rw [show putB 0 N = [] from rfl, splice_nil]; exact HH.out, Keep.refl _ _⟩
 case round =>
  obtain ⟨k, rfl, hk, HR, HK⟩ := hrel
  by_cases hlt : k < many
  ·have hlt' : (k : Int) < many := by omega
   obtain ⟨y, hy⟩ : ∃ y, y = UInt8.ofNat (N / 2 ^ (8 * k)) := ⟨_, rfl⟩
   have hlen : off + (putB k N).length < L.length := by rw [putB_length]; omega
   have hset := u1_splice_set L off (putB k N) y hlen
   rw [putB_length, hy, ← putB_succ, ← hy] at hset
   have hb := HR.byte (off + k) y (by rw [length_splice _ _ _ (by omega)]; rw [putB_length] at hlen; exact hlen)
   rw [hset] at hb
   have Hb := hid hb
   have hv : (N : Int) / 2 ^ (8 * k) % 256 = (y.toNat : Int) := by
    rw [hy, UInt8.toNat_ofNat']
    push_cast
    rfl
   have Hv := hid hv
   clear hb hset hlen hy HR hv
   go_wp2_with (guard_target = wpList _ _ _ (Oper.mk _ (Op.store _ _ _) _ _ _ _ :: _) _ _; refine wpList_store_one rfl 5 _ _ rfl g (off + k) (.int .u8 ((N : Int) / 2 ^ (8 * k) % 256)) (by rfl) (by rfl) Hb.out.2 rfl rfl info5' ?_; intro w1 hw1)
   rw [Hv.out] at hw1
   have hR1 := hw1 (fun W => Rows W F 5 1 (.slice (some ⟨g, 0, none⟩) n c) (u1 (splice L off (putB (k + 1) N)))) Hb.out.1
   have K1 := hw1 (fun W => Keep (Only g) wr W) ((Keep.refl (Only g) wr).cell (off + k) (Go.Proofs.Ytffcglfepobdjaa.u8 y))
   clear hw1 Hb
   go_roundw
   case rel => exact ⟨k + 1, by go_num, hlt, hR1, HK.trans K1 (fun _ _ h => h)⟩
   case measure => simp [intOf]; omega
  ·have hge : k = many := by omega
   subst hge
   go_wp2_with fail
   go_end0
   exact ⟨rfl, HR, HK⟩
theorem clone75_calls (w : World) (A : Option Addr) (c : Nat) (b : List UInt8) (hA : Reads w A (bv b)) (hAc : A = none → c = 0) (hb : b.length ≤ 1099511627776) :
  Calls Try.prog 75 #[.slice A b.length c] w (fun e w' => ∃ v', e = .returned v' ∧ Bytes w' (Fresh w w') v' b ∧ Keep Noth w w') := by
 rcases A with _ | ad
 ·obtain rfl : b = [] := by
   cases b with
   | nil => rfl
   | cons x b => obtain ⟨ad, h, _⟩ := hA 0 (u8 x) (by simp [bv]); cases h
  obtain rfl := hAc rfl
  have hq := fun (W : World) => Lib.run_eql_slice_nil (P := Try.prog) W 33 5 none 0 0 0 0 sl33
  go_enter Try.func75, Try.ntmps75
  go_wp2_with fail
  go_ret
  exact ⟨_, rfl, Rows.nil _ _ _ _, Keep.refl _ _⟩
 ·have hq := fun (W : World) (n : Nat) => Lib.run_eql_slice_nil (P := Try.prog) W 33 5 (some ad) n c 0 0 sl33
  have HR : Reads (w.alloc (.cells #[] 5)) (some ad) (u1 b).flatten := by rw [u1_flatten]; exact hA.keep ((Keep.refl Noth w).alloc _) (fun _ _ => id)
  have hE := Rows.empty w 5 1
  go_enter Try.func75, Try.ntmps75
  go_wp2_with (at_builtin; refine wpList_append_rows rfl _ _ 33 rfl 5 (.int .u8 0) 1 1 sl33 info5 rfl (by decide) (by decide) _ _ [] (u1 b) rfl hE (some ad) b.length c rfl (u1_length b) (fun h => by cases h) (u1_each b) HR (u1_one b) (by simp only [List.length_nil]; omega) ?_; intro v' w' H' K')
  have hfin : Bytes w' (Fresh w w') v' b ∧ Keep Noth w w' := by
   refine ⟨Rows.mono (by simpa using H') (fun k hk => ?_), ((Keep.refl Noth w).alloc _).trans K' (fun i hi h => ?_)⟩
   ·have hs := K'.size
    simp only [World.size_alloc] at hs hk
    rcases hk with hk | hk
    ·injection hk with hk
     have hk : w.heap.size = k := hk
     exact ⟨by omega, by omega⟩
    ·exact ⟨by omega, hk.2⟩
   ·injection h with h
    have h : w.heap.size = i := h
    omega
  clear H' K' HR hE hA
  go_wp2_with fail
  go_ret
  exact ⟨v', rfl, hfin.1, hfin.2⟩
/-- Bytes written over a part of a row of bytes. -/
theorem Rows.over {F : Nat → Prop} {g n c : Nat} : ∀ (cs : List UInt8) (L : List UInt8) (o : Nat) (w : World), Rows w F 5 1 (.slice (some ⟨g, 0, none⟩) n c) (u1 L) → o + cs.length ≤ L.length → Rows (w.setCells g o (bv cs)) F 5 1 (.slice (some ⟨g, 0, none⟩) n c) (u1 (Go.splice L o cs))
 | [], L, o, w, H, _ => by rw [splice_nil]; exact H
 | x :: cs, L, o, w, H, h => by
  simp only [List.length_cons] at h
  have h1 := (H.byte o x (by omega)).1
  have h2 := Rows.over cs (L.set o x) (o + 1) _ h1 (by rw [List.length_set]; omega)
  rw [splice_cons _ _ _ _ (by omega)] at h2
  exact h2
end Go.Proofs.Ytffcglfepobdjaa
set_option maxRecDepth 100000
set_option maxHeartbeats 2000000
namespace Go.Proofs.Ytffcglfepobdjaa
open Go.RowKit Go.Shelf
attribute [local go_sem] Oper.semAt_some
/-- Writes of blocks, from one on, as long as no error is told. -/
def DS.writes (D : DS) (k : Int) : List Bk → DS × Int
 | [] => (D, 0)
 | x :: l => if (D.write k x).2 = 0 then (D.write k x).1.writes (k + 1) l else D.write k x
/-- A record's bytes as they stand on a device. -/
def packB (b : List UInt8) : List UInt8 := putB 2 b.length ++ b ++ List.replicate (64 * blocksN b - 2 - b.length) 0
def packs (b : List UInt8) : List Bk := (List.range (blocksN b)).map fun j => ((packB b).drop (64 * j)).take 64
theorem blocksN_bound (b : List UInt8) : b.length + 2 ≤ 64 * blocksN b ∧ 64 * blocksN b ≤ b.length + 65 := by unfold blocksN; omega
theorem packB_length (b : List UInt8) : (packB b).length = 64 * blocksN b := by
 have := blocksN_bound b
 unfold packB; simp [putB_length]; omega
theorem splice_pack (b : List UInt8) (N : Nat) (hN : N = 64 * blocksN b) : splice (splice (List.replicate N (0 : UInt8)) 0 (putB 2 b.length)) 2 b = packB b := by
 have hb := blocksN_bound b
 have hl : (splice (List.replicate N (0 : UInt8)) 0 (putB 2 b.length)).length = N := by rw [length_splice _ _ _ (by rw [putB_length, List.length_replicate]; omega), List.length_replicate]
 apply List.ext_getElem?
 intro i
 rw [splice_get _ _ _ (by rw [hl]; omega), splice_get _ _ _ (by rw [putB_length, List.length_replicate]; omega), putB_length]
 unfold packB
 by_cases h1 : i < 2
 ·rw [if_pos h1, if_neg (by omega), if_pos (by omega), List.append_assoc, List.getElem?_append_left (by rw [putB_length]; exact h1), Nat.sub_zero]
 ·rw [if_neg h1]
  by_cases h2 : i < 2 + b.length
  ·rw [if_pos h2, List.append_assoc, List.getElem?_append_right (by rw [putB_length]; omega), putB_length, List.getElem?_append_left (by omega)]
  ·rw [if_neg h2, if_neg (by omega), if_neg (by omega), List.getElem?_append_right (by rw [List.length_append, putB_length]; omega), List.length_append, putB_length, List.getElem?_replicate, List.getElem?_replicate]
   by_cases h3 : i < N
   ·rw [if_pos h3, if_pos (by omega)]
   ·rw [if_neg h3, if_neg (by omega)]
/-- What a device lies in, and no more. -/
def Least (g : Nat) (vl vr : Value) : Nat → Prop := fun q => q = g ∨ vl.ownBlock = some q ∨ vr.ownBlock = some q
theorem Rows.cellsAt {w : World} {F : Nat → Prop} {e : TypeId} {size : Nat} {v : Value} {xs : List (List Value)} (h : Rows w F e size v xs) (q : Nat) (hq : v.ownBlock = some q) : ∃ o : Obj, w.heap[q]? = some o ∧ o.isCells = true := by
 rcases h.own.2 with ⟨rfl, _⟩ | ⟨g', cap, cur, rfl, _, hh, _⟩
 ·simp [Value.ownBlock] at hq
 ·have : g' = q := by simpa [Value.ownBlock] using hq
  subst this
  exact ⟨_, hh, rfl⟩
theorem DevAt.least {w : World} {F : Nat → Prop} {g : Nat} {vl vr : Value} {D : DS} (h : DevAt w F g vl vr D) : DevAt w (Least g vl vr) g vl vr D ∧ (∀ q, Least g vl vr q → F q) ∧ (∀ q, Least g vl vr q → ∃ o : Obj, w.heap[q]? = some o ∧ o.isCells = true) := by
 have hF : ∀ q, Least g vl vr q → F q := fun q hq => by
  rcases hq with rfl | hq | hq
  ·exact h.here
  ·exact h.l.foot q hq
  ·exact h.row.foot q hq
 refine ⟨⟨fun q hq => h.lt q (hF q hq), .inl rfl, h.blk, ⟨h.l.own, h.l.each, fun q hq => .inr (.inl hq)⟩, ⟨h.row.own, h.row.each, fun q hq => .inr (.inr hq)⟩⟩, hF, fun q hq => ?_⟩
 rcases hq with rfl | hq | hq
 ·exact ⟨_, h.blk, rfl⟩
 ·exact h.l.cellsAt q hq
 ·exact h.row.cellsAt q hq
/-- Behind a step that turns what is no cells. -/
theorem BlockIs.turned {w w' : World} {row : Option Nat} {b : Nat} {cs : List Value} {t : TypeId} (h : BlockIs w b cs t) (hg : w.grownBy w' row) (hr : ∀ r, row = some r → ∃ o : Obj, w.heap[r]? = some o ∧ o.isCells = false) : BlockIs w' b cs t := by
 refine (hg.block b h.lt (fun e => ?_)).trans h
 obtain ⟨o, ho, hc⟩ := hr b e.symm
 unfold BlockIs at h
 rw [h] at ho
 injection ho with ho
 subst ho
 cases hc
theorem DevAt.turned {w w' : World} {row : Option Nat} {F : Nat → Prop} {g : Nat} {vl vr : Value} {D : DS} (h : DevAt w F g vl vr D) (hg : w.grownBy w' row) (hr : ∀ r, row = some r → ∃ o : Obj, w.heap[r]? = some o ∧ o.isCells = false) : DevAt w' F g vl vr D := by
 obtain ⟨h1, h2, h3⟩ := h.least
 have hk : Keep (fun q => row = some q) w w' := ⟨hg.os, hg.tape, hg.output, hg.size, fun q hq hn => hg.block q hq (fun e => hn e.symm)⟩
 have hd : Dj (Least g vl vr) (fun q => row = some q) := fun q a e => by
  obtain ⟨o, ho, hc⟩ := hr q e
  obtain ⟨o', ho', hc'⟩ := h3 q a
  rw [ho] at ho'
  injection ho' with ho'
  subst ho'
  rw [hc] at hc'
  cases hc'
 have := h1.keep hk hd
 exact ⟨fun q hq => Nat.lt_of_lt_of_le (h.lt q hq) hg.size, h.here, this.blk, ⟨this.l.own, h.l.each, h.l.foot⟩, ⟨this.row.own, h.row.each, h.row.foot⟩⟩
theorem Rows.turned {w w' : World} {row : Option Nat} {F : Nat → Prop} {e : TypeId} {size : Nat} {v : Value} {xs : List (List Value)} (h : Rows w F e size v xs) (hg : w.grownBy w' row) (hr : ∀ r, row = some r → ∃ o : Obj, w.heap[r]? = some o ∧ o.isCells = false) : Rows w' F e size v xs := by
 have hk : Keep (fun q => row = some q) w w' := ⟨hg.os, hg.tape, hg.output, hg.size, fun q hq hn => hg.block q hq (fun e => hn e.symm)⟩
 exact h.stay hk (fun q hq e => by
  obtain ⟨o, ho, hc⟩ := hr q e
  obtain ⟨o', ho', hc'⟩ := h.cellsAt q hq
  rw [ho] at ho'
  injection ho' with ho'
  subst ho'
  rw [hc] at hc'
  cases hc')
theorem writes_cons_ok {D : DS} {k : Int} {y : Bk} {l : List Bk} (h : (D.write k y).2 = 0) : D.writes k (y :: l) = (D.write k y).1.writes (k + 1) l := by simp only [DS.writes]; rw [if_pos h]
theorem writes_cons_no {D : DS} {k : Int} {y : Bk} {l : List Bk} (h : (D.write k y).2 ≠ 0) : D.writes k (y :: l) = D.write k y := by simp only [DS.writes]; rw [if_neg h]
theorem writes_snoc : ∀ (l : List Bk) (D : DS) (k : Int) (x : Bk), (D.writes k l).2 = 0 → D.writes k (l ++ [x]) = (D.writes k l).1.write (k + l.length) x
 | [], D, k, x, _ => by
  have e : k + ((([] : List Bk).length : Nat) : Int) = k := by simp
  rw [List.nil_append, e]
  by_cases h : (D.write k x).2 = 0
  ·rw [writes_cons_ok h]; exact Prod.ext rfl h.symm
  ·rw [writes_cons_no h]; rfl
 | y :: l, D, k, x, h0 => by
  by_cases h : (D.write k y).2 = 0
  ·rw [writes_cons_ok h] at h0
   rw [List.cons_append, writes_cons_ok h, writes_cons_ok h, writes_snoc l _ _ x h0, List.length_cons]
   congr 1
   omega
  ·rw [writes_cons_no h] at h0; exact absurd h0 h
theorem writes_stop : ∀ (l l' : List Bk) (D : DS) (k : Int), (D.writes k l).2 ≠ 0 → D.writes k (l ++ l') = D.writes k l
 | [], _, D, k, h => absurd rfl h
 | y :: l, l', D, k, h => by
  by_cases hy : (D.write k y).2 = 0
  ·rw [writes_cons_ok hy] at h
   rw [List.cons_append, writes_cons_ok hy, writes_cons_ok hy]; exact writes_stop l l' _ _ h
  ·rw [List.cons_append, writes_cons_no hy, writes_cons_no hy]
theorem info37 : (Try.prog.info? 37).map (fun i => (i.zero, i.size, i.bytes)) = some (some (.int .i64 0), 1, 8) := by kernel_rfl
theorem info66 : (Try.prog.info? 66).map (fun i => (i.zero, i.size, i.bytes)) = some (some (.pointer none), 1, 8) := by kernel_rfl
theorem Rows.thereN {w : World} {F : Nat → Prop} {g n c : Nat} {L : List UInt8} (H : Rows w F 5 1 (.slice (some ⟨g, 0, none⟩) n c) (u1 L)) (o k : Nat) (h : o + k ≤ L.length) : w.there g o k := fun j hj => by
 have := (H.byte (o + j) 0 (by omega)).2 0 (by omega)
 simpa using this
section
variable {P : Program} {ops : Array Oper} {rest : List Oper} {o : Oper} {a : Act} {w : World} {Q : Exit → Act → World → Prop}
/-- Bytes copied into a row of bytes. -/
theorem wpList_copy_bytes (hgd : o.guard = none) (d s : Operand) (dT sT : TypeId) (ho : o.op = .call { callee := .builtin .copy, args := #[d, s], argTypes := #[dT, sT] }) (hu : P.underlying dT = some (.slice 5)) (hsz : (P.info? 5).map (·.size) = some 1)
  (F : Nat → Prop) (g n c : Nat) (L : List UInt8) (H : Rows w F 5 1 (.slice (some ⟨g, 0, none⟩) n c) (u1 L)) (off dLen dCap : Nat) (sp : Option Addr) (sLen sCap : Nat) (hd : a.eval d = .slice (some ⟨g, off, none⟩) dLen dCap) (hs : a.eval s = .slice sp sLen sCap)
  (b : List UInt8) (hn : b.length = Nat.min sLen dLen) (hsrc : Reads w sp (bv b)) (hfit : off + b.length ≤ L.length)
  (h : ∀ w1, Rows w1 F 5 1 (.slice (some ⟨g, 0, none⟩) n c) (u1 (splice L off b)) → Keep (Only g) w w1 → wpList P ops Q rest (a.put o.dst (goInt b.length)) w1) : wpList P ops Q (o :: rest) a w := by
 refine wpList_copy_any hgd d s dT sT ho 5 hu hsz (some ⟨g, off, none⟩) sp dLen dCap sLen sCap hd hs (bv b) g off (by rw [bv_length]; exact hn) (fun _ => rfl) hsrc (by rw [bv_length]; exact H.thereN off _ hfit) (bv_one b) ?_
 rw [bv_length]
 exact h _ (Rows.over b L off w H hfit) (Keep.setCells _ _ (Keep.refl _ _) (fun _ => rfl))
end
theorem u1_zeros (n : Nat) : List.replicate n [Value.int .u8 0] = u1 (List.replicate n 0) := by simp [u1, u8]
/-- Where the loop over a record's blocks stands. -/
structure WrAt (w W4 : World) (F : Nat → Prop) (g r b3 b5 b6 gb N : Nat) (rest : List Value) (bs : List UInt8) (k5 x6 : Int) (cnt : Nat) (D : DS) (W : World) : Prop where
 dev : ∃ vl vr, DevAt W (Least g vl vr) g vl vr D ∧ ∀ q, Least g vl vr q → F q ∨ W4.heap.size ≤ q
 ok : D.ok
 ops : D.ops ≤ 1000000 + cnt
 row : D.row.length ≤ 1000000 + cnt
 c3 : BlockIs W b3 [.pointer (some ⟨r, 0, none⟩)] 66
 c5 : BlockIs W b5 [.int .i64 k5] 3
 c6 : BlockIs W b6 [.int .i64 x6] 37
 cr : BlockIs W r (.pointer (some ⟨g, 0, none⟩) :: rest) 114
 bytes : Rows W (fun q => q = gb) 5 1 (.slice (some ⟨gb, 0, none⟩) N N) (u1 bs)
 kept : Keep F w W
 size : W4.heap.size ≤ W.heap.size
theorem WrAt.turned {w W4 W W' : World} {F : Nat → Prop} {g r b3 b5 b6 gb N : Nat} {rest : List Value} {bs : List UInt8} {k5 x6 : Int} {cnt : Nat} {D : DS} {row : Option Nat} (h : WrAt w W4 F g r b3 b5 b6 gb N rest bs k5 x6 cnt D W) (h0 : w.heap.size ≤ W4.heap.size)
  (hg : W.grownBy W' row) (hr : ∀ r, row = some r → W4.heap.size ≤ r ∧ ∃ o : Obj, W.heap[r]? = some o ∧ o.isCells = false) : WrAt w W4 F g r b3 b5 b6 gb N rest bs k5 x6 cnt D W' := by
 have hr' := fun r e => (hr r e).2
 obtain ⟨vl, vr, h1, h2⟩ := h.dev
 exact ⟨⟨vl, vr, h1.turned hg hr', h2⟩, h.ok, h.ops, h.row, h.c3.turned hg hr', h.c5.turned hg hr', h.c6.turned hg hr', h.cr.turned hg hr', h.bytes.turned hg hr', h.kept.grown hg (fun q e hq => by have := (hr q e).1; omega), Nat.le_trans h.size hg.size⟩
theorem boxKept_turned {Bs Bn l : Nat} {W : World} {o : Obj} (o' : Obj) (h1 : Bs < l) (h2 : Bn < l) (hl : W.heap[l]? = some o) : BoxKept Bs Bn W (W.putObj l o') := by
 have hlt : l < W.heap.size := (Array.getElem?_eq_some_iff.1 hl).1
 have hg := grownBy_putObj' W l o'
 exact ⟨World.cell?_of_block (hg.block Bs (by omega) (by intro e; cases e; omega)), World.cell?_of_block (hg.block Bn (by omega) (by intro e; cases e; omega))⟩
theorem BlockIs.tyne {w : World} {a b : Nat} {cs ds : List Value} {t u : TypeId} (h : BlockIs w a cs t) (k : BlockIs w b ds u) (hne : t ≠ u) : a ≠ b := by
 rintro rfl
 unfold BlockIs at h k
 rw [h] at k
 injection k with k
 injection k with _ k
 exact hne k
theorem DevAt.apart {w : World} {g b : Nat} {vl vr : Value} {D : DS} {cs : List Value} {t : TypeId} (h : DevAt w (Least g vl vr) g vl vr D) (B : BlockIs w b cs t) (h1 : (96 : TypeId) ≠ t) (h2 : (103 : TypeId) ≠ t) (h3 : (105 : TypeId) ≠ t) : Dj (Least g vl vr) (Only b) := fun q a e => by
 unfold Only at e; subst e
 rcases a with rfl | a | a
 ·exact h.blk.tyne B h1 rfl
 ·exact h.l.ne B h2 a
 ·exact h.row.ne B h3 a
/-- A cell of the loop's own is stored into. -/
theorem WrAt.store {w W4 W W' : World} {F : Nat → Prop} {g r b3 b5 b6 gb N : Nat} {rest : List Value} {bs : List UInt8} {k5 x6 : Int} {cnt : Nat} {D : DS} (h : WrAt w W4 F g r b3 b5 b6 gb N rest bs k5 x6 cnt D W) {b : Nat} {cs : List Value} {t : TypeId} (B : BlockIs W b cs t) (ht : t = 3 ∨ t = 37)
  (K : Keep (Only b) W W') (hb : w.heap.size ≤ b) (k5' x6' : Int) (B5 : BlockIs W' b5 [.int .i64 k5'] 3) (B6 : BlockIs W' b6 [.int .i64 x6'] 37) : WrAt w W4 F g r b3 b5 b6 gb N rest bs k5' x6' cnt D W' := by
 obtain ⟨vl, vr, h1, h2⟩ := h.dev
 have n1 : (96 : TypeId) ≠ t := by rcases ht with rfl | rfl <;> decide
 have n2 : (103 : TypeId) ≠ t := by rcases ht with rfl | rfl <;> decide
 have n3 : (105 : TypeId) ≠ t := by rcases ht with rfl | rfl <;> decide
 have n4 : (66 : TypeId) ≠ t := by rcases ht with rfl | rfl <;> decide
 have n5 : (114 : TypeId) ≠ t := by rcases ht with rfl | rfl <;> decide
 have n6 : (5 : TypeId) ≠ t := by rcases ht with rfl | rfl <;> decide
 exact ⟨⟨vl, vr, h1.keep K (h1.apart B n1 n2 n3), h2⟩, h.ok, h.ops, h.row, h.c3.keep K (fun e => h.c3.tyne B n4 e), B5, B6, h.cr.keep K (fun e => h.cr.tyne B n5 e), h.bytes.stay K (fun q hq e => h.bytes.ne B n6 (by unfold Only at e; rw [hq, e])), h.kept.trans K (fun i hi e => by unfold Only at e; subst e; omega), Nat.le_trans h.size K.size⟩
/-- Behind a write of the device. -/
theorem WrAt.wrote {w W4 W W5 : World} {F : Nat → Prop} {g r b3 b5 b6 gb N : Nat} {rest : List Value} {bs : List UInt8} {k5 x6 : Int} {cnt : Nat} {D D2 : DS} {vl vr : Value} (h : WrAt w W4 F g r b3 b5 b6 gb N rest bs k5 x6 cnt D W) (hF : Lt F w) (h0 : w.heap.size ≤ W4.heap.size)
  (h1 : DevAt W (Least g vl vr) g vl vr D) (h2 : ∀ q, Least g vl vr q → F q ∨ W4.heap.size ≤ q) (H5 : DevIs W5 (grow (Least g vl vr) W W5) g D2) (K5 : Keep (Least g vl vr) W W5) (hok : D2.ok) (ho : D2.ops ≤ D.ops + 1) (hr : D2.row.length ≤ D.row.length + 1)
  (hb : gb < W4.heap.size ∧ w.heap.size ≤ gb) : WrAt w W4 F g r b3 b5 b6 gb N rest bs k5 x6 (cnt + 1) D2 W5 := by
 obtain ⟨vl5, vr5, A5⟩ := H5
 obtain ⟨l1, l2, l3⟩ := A5.least
 have hs := h.size
 have hs5 := K5.size
 have a3 : ¬ Least g vl vr b3 := fun e => h1.apart h.c3 (by decide) (by decide) (by decide) _ e rfl
 have a5 : ¬ Least g vl vr b5 := fun e => h1.apart h.c5 (by decide) (by decide) (by decide) _ e rfl
 have a6 : ¬ Least g vl vr b6 := fun e => h1.apart h.c6 (by decide) (by decide) (by decide) _ e rfl
 have ar : ¬ Least g vl vr r := fun e => h1.apart h.cr (by decide) (by decide) (by decide) _ e rfl
 have ab : ¬ Least g vl vr gb := fun e => (h2 gb e).elim (fun e => by have := hF gb e; omega) (fun e => by omega)
 have o := h.ops
 have rr := h.row
 refine ⟨⟨vl5, vr5, l1, fun q hq => ?_⟩, hok, by omega, by omega, h.c3.keep K5 a3, h.c5.keep K5 a5, h.c6.keep K5 a6, h.cr.keep K5 ar, h.bytes.stay K5 (fun q hq e => ?_), h.kept.trans K5 (fun i hi e => (h2 i e).resolve_right (by omega)), by omega⟩
 ·rcases l2 q hq with e | e
  ·exact h2 q e
  ·exact .inr (by have := e.1; omega)
 ·simp only [Value.ownBlock, Option.some.injEq] at hq
  have hq : gb = q := hq
  subst hq; exact ab e
theorem keepsFrom_wrote {B : Nat} {W W5 : World} {g : Nat} {vl vr : Value} {D : DS} (h1 : DevAt W (Least g vl vr) g vl vr D) (K5 : Keep (Least g vl vr) W W5) : KeepsFrom B W W5 :=
 ⟨K5.size, fun q o _ ho hc => (K5.block q (Array.getElem?_eq_some_iff.1 ho).1 (fun e => by
  obtain ⟨-, -, l3⟩ := h1.least
  obtain ⟨o', ho', hc'⟩ := l3 q e
  rw [ho] at ho'
  injection ho' with ho'
  subst ho'
  rw [hc] at hc'
  cases hc')).trans ho⟩
/-- A single result that lies in a variable of one cell. -/
theorem results_cell1 {P : Program} {w : World} {fn : Func} {p : Tmp} {ty : TypeId} (h : fn.results = #[.cell p ty]) (tmps : Array Value) (b : Nat) (v : Value) (d : TypeDesc) (hx : tmps.getD p undef = .pointer (some ⟨b, 0, none⟩)) (hc : w.cell? ⟨b, 0, none⟩ = some v) (hu : P.underlying ty = some d) (hd : d.isRow = false) :
  (results fn tmps).run P w = .ok v w := by
 have hagg : (isAgg ty).run P w = .ok false w := by
  unfold isAgg
  rw [Sem.run_bind, run_underlying hu w]
  cases d <;> simp_all
 have hl : (loadVar ty ⟨b, 0, none⟩).run P w = .ok v w := by simp [loadVar, Sem.run_bind, hagg, hc]
 have hx' : tmps[p]?.getD undef = .pointer (some ⟨b, 0, none⟩) := by simpa using hx
 simp [results, h, hx', asAddr, Sem.run_bind, hl]
theorem WrAt.leave {w W4 W W' : World} {F : Nat → Prop} {g r b3 b5 b6 gb N : Nat} {rest : List Value} {bs : List UInt8} {k5 x6 : Int} {cnt : Nat} {D : DS} (h : WrAt w W4 F g r b3 b5 b6 gb N rest bs k5 x6 cnt D W) (hF : Lt F w) (h0 : w.heap.size ≤ W4.heap.size) {Dd : Nat} {o o' : Obj} (hD : W4.heap.size ≤ Dd) (ho : W.heap[Dd]? = some o) (hc : o.isCells = false) (hW : W' = W.putObj Dd o') :
  W'.cell? ⟨b6, 0, none⟩ = some (.int .i64 x6) ∧ DevIs W' (grow F w W') g D ∧ Keep F w W' := by
 subst hW
 have H := h.turned h0 (grownBy_putObj' W Dd o') (fun r e => by cases e; exact ⟨hD, o, ho, hc⟩)
 obtain ⟨vl, vr, h1, h2⟩ := H.dev
 have e6 := H.c6.cell 0
 refine ⟨e6, DevIs.mono ⟨vl, vr, h1⟩ (fun q hq => ?_) (grow_lt hF H.kept.size), H.kept⟩
 rcases h2 q hq with e | e
 ·exact .inl e
 ·exact .inr ⟨by omega, h1.lt q hq⟩
theorem rollWrite_calls {w : World} {F : Nat → Prop} {g r : Nat} {D : DS} {rest : List Value} (hR : BlockIs w r (.pointer (some ⟨g, 0, none⟩) :: rest) 114) (hrF : ¬ F r) (hD : DevIs w F g D) (hok : D.ok) (ho : D.ops ≤ 1000000) (hrow : D.row.length ≤ 1000000)
  (A : Option Addr) (c : Nat) (b : List UInt8) (hA : Reads w A (bv b)) (hb : b.length ≤ 4000) (k : Int) (hk : -10000 ≤ k ∧ k ≤ 10000) :
  Calls Try.prog 73 #[.pointer (some ⟨r, 0, none⟩), .slice A b.length c, .int .i64 k] w (fun e w' => e = .returned (.int .i64 (D.writes k (packs b)).2) ∧ DevIs w' (grow F w w') g (D.writes k (packs b)).1 ∧ Keep F w w') := by
 have hbb := blocksN_bound b
 obtain ⟨m, hm⟩ : ∃ m, m = blocksN b := ⟨_, rfl⟩
 rw [← hm] at hbb
 have hbI : (b.length : Int) ≤ 4000 := by omega
 have hmI : (m : Int) * 64 ≤ 4065 := by omega
 have hmI0 : (2 : Int) ≤ (m : Int) * 64 := by omega
 have hbl := blocks_calls
 obtain ⟨i5, hi5, hz50, hz51, hz52⟩ := info_parts info5
 have Hi5 := hid hi5
 have Hz0 := hid hz50
 have Hz1 := hid hz51
 have Hz2 := hid hz52
 have HA := hid hA
 have Hm := hid hm
 clear hi5 hz50 hz51 hz52 hA hbl hm
 refine (callsIn_wide (n := 5)).1 ?_
 refine callsIn_of_wp_marks Try.func73 rfl trivial ?_ rfl
 simp only [Try.ntmps73, List.size_toArray, List.length_cons, List.length_nil, Nat.reduceAdd, Nat.reduceSub, Array.replicate_succ, Array.replicate_zero, List.push_toArray, List.append_toArray, List.nil_append, List.cons_append]
 refine wpIn_wide.2 ?_
 go_wp2_with (first
  | (guard_target = wpList _ _ _ (Oper.mk _ (Op.box 66 _) _ _ _ _ :: _) _ _; refine wpList_box_v rfl 66 _ rfl [.pointer (some ⟨r, 0, none⟩)] (by rfl) ?_; intro b3 w1 hb3 B1 K1)
  | (guard_target = wpList _ _ _ (Oper.mk _ (Op.box 3 _) _ _ _ _ :: _) _ _; refine wpList_box_v rfl 3 _ rfl [.int .i64 k] (by rfl) ?_; intro b5 w2 hb5 C2 K2; have B2 := B1.keep K2 id)
  | (guard_target = wpList _ _ _ (Oper.mk _ (Op.alloc 37) _ _ _ _ :: _) _ _; refine wpList_alloc_v rfl 37 rfl (.int .i64 0) info37 [.int .i64 0] rfl ?_; intro b6 w3 hb6 D3 K3; have B3 := B2.keep K3 id; have C3 := C2.keep K3 id))
 have K03 := (K1.trans K2 (fun _ _ h => h)).trans K3 (fun _ _ h => h)
 refine (blocks_calls w3 A c b (by omega)).mono ?_
 rintro e w' ⟨rfl, rfl⟩
 rw [← Hm.out]
 go_wp2_with (first
  | (guard_target = wpList _ _ _ (Oper.mk _ (Op.makeSlice _ _ _) _ _ _ _ :: _) _ _; refine wpList_make_full _ rfl _ _ 33 rfl 0 5 i5 (.int .u8 0) 1 sl33 Hi5.out Hz0.out Hz1.out .i64 .i64 ((m : Int) * 64) ((m : Int) * 64) (m * 64) (by rfl) (by rfl) (by push_cast; rfl) (by push_cast; rfl) (by rw [Hz2.out]; omega) (by unfold maxLen; omega) (Nat.zero_le _) ?_; intro W1 HO1 HG1))
 obtain ⟨gb, hgb⟩ : ∃ gb, gb = w3.heap.size := ⟨_, rfl⟩
 rw [← hgb] at HO1
 rw [← hgb]
 have R1 : Rows W1 (fun q => q = gb) 5 1 (.slice (some ⟨gb, 0, none⟩) (m * 64) (m * 64)) (u1 (List.replicate (m * 64) 0)) := by
  rw [← u1_zeros]; exact Rows.made (z := [.int .u8 0]) rfl (by decide) HO1
 have KW1 : Keep Noth w3 W1 := (Keep.refl _ _).grown HG1 (fun _ h => by cases h)
 have hgb3 : w.heap.size ≤ gb := by have := K03.size; omega
 refine (put_calls R1 0 2 (m * 64) (by decide) (by rw [List.length_replicate]; omega) b.length (by omega)).mono ?_
 rintro e W2 ⟨rfl, R2, KW2⟩
 clear R1 HO1 HG1
 have K02 : Keep Noth w W2 := (K03.trans KW1 (fun _ _ h => h)).own KW2 (fun q e => by unfold Only at e; subst e; exact hgb3)
 have n36 : ∀ q, q < w3.heap.size → ¬ Only gb q := fun q h e => by unfold Only at e; omega
 have B5 := (B3.keep KW1 id).keep KW2 (n36 _ B3.lt)
 have C5 := (C3.keep KW1 id).keep KW2 (n36 _ C3.lt)
 have D5 := (D3.keep KW1 id).keep KW2 (n36 _ D3.lt)
 have hbase : b3 < gb ∧ b5 < gb ∧ b6 < gb := by have := B3.lt; have := C3.lt; have := D3.lt; omega
 have hfresh : w.heap.size ≤ b3 ∧ w.heap.size ≤ b5 ∧ w.heap.size ≤ b6 := by have := K1.size; have := K2.size; omega
 clear B1 B2 B3 C2 C3 D3 K1 K2 K3 K03 KW1 KW2 n36 hgb
 have h2m : (2 : Int) ≤ ((m * 64 : Nat) : Int) := by push_cast; omega
 go_wp2_with (guard_target = wpList _ _ _ (Oper.mk _ (Op.call _) _ _ _ _ :: _) _ _; refine wpList_copy_bytes rfl _ _ 33 33 rfl sl33 size5 _ gb (m * 64) (m * 64) _ R2 2 (m * 64 - 2) (m * 64 - 2) A b.length c (by rfl) (by rfl) b (Nat.min_eq_left (by omega)).symm (HA.out.keep K02 (fun _ _ => id)) (by rw [length_splice _ _ _ (by rw [putB_length, List.length_replicate]; omega), List.length_replicate]; omega) ?_; intro W3 R3 KW3)
 have hpk : splice (splice (List.replicate (m * 64) (0 : UInt8)) 0 (putB 2 b.length)) 2 b = packB b := splice_pack b (m * 64) (by rw [← Hm.out]; omega)
 rw [hpk] at R3
 have K03 : Keep Noth w W3 := K02.own KW3 (fun q e => by unfold Only at e; subst e; exact hgb3)
 have hn36 : ∀ q, q < gb → ¬ Only gb q := fun q h e => by unfold Only at e; omega
 have B6 := B5.keep KW3 (hn36 _ hbase.1)
 have C6 := C5.keep KW3 (hn36 _ hbase.2.1)
 have D6 := D5.keep KW3 (hn36 _ hbase.2.2)
 clear R2 B5 C5 D5 KW3 K02
 refine (chunk_calls W3 (some ⟨gb, 0, none⟩) (m * 64) (m * 64)).mono ?_
 rintro e W4 ⟨rfl, rfl⟩
 have KA := (Keep.refl Noth W3).alloc (.cells #[.slice (some ⟨gb, 0, none⟩) (m * 64) (m * 64)] 33)
 have E1 : BlockIs (W3.alloc (.cells #[.slice (some ⟨gb, 0, none⟩) (m * 64) (m * 64)] 33)) W3.heap.size [.slice (some ⟨gb, 0, none⟩) (m * 64) (m * 64)] 33 := BlockIs.new W3 _ _
 have hs1 : (W3.alloc (.cells #[.slice (some ⟨gb, 0, none⟩) (m * 64) (m * 64)] 33)).heap.size = W3.heap.size + 1 := by simp
 generalize W3.alloc (.cells #[.slice (some ⟨gb, 0, none⟩) (m * 64) (m * 64)] 33) = W3' at *
 have KB := KA.alloc (.cells #[.int .i64 64] 3)
 have E2 : BlockIs (W3'.alloc (.cells #[.int .i64 64] 3)) (W3.heap.size + 1) [.int .i64 64] 3 := by have := BlockIs.new W3' [.int .i64 64] 3; rwa [hs1] at this
 have E1' := E1.alloc (.cells #[.int .i64 64] 3)
 generalize W3'.alloc (.cells #[.int .i64 64] 3) = W4 at *
 obtain ⟨Bs, hBs⟩ : ∃ Bs, Bs = W3.heap.size := ⟨_, rfl⟩
 obtain ⟨Bn, hBn⟩ : ∃ Bn, Bn = W3.heap.size + 1 := ⟨_, rfl⟩
 rw [← hBs] at E1'
 rw [← hBn] at E2
 rw [← hBn, ← hBs]
 have K04 := K03.trans KB (fun _ _ h => h)
 have hsz3 : gb < W3.heap.size := (R3.own.lt gb rfl).2
 have hgBs : w.heap.size ≤ Bs ∧ w.heap.size ≤ Bn ∧ gb < Bs ∧ gb < Bn ∧ Bs ≠ Bn := by have := K03.size; omega
 have B7 := B6.keep KB id
 have C7 := C6.keep KB id
 have D7 := D6.keep KB id
 have R7 := R3.keep KB (Dj.noth _)
 have HR7 := hR.keep K04 id
 obtain ⟨vl, vr, A0⟩ := hD
 have A7 := A0.keep K04 (Dj.noth _)
 have hlt0 := A0.lt
 clear E1 KA KB B6 C6 D6 R3 K03 hBs hBn hs1 hR
 go_wp2_with fail
 have hm63 : m ≤ 100 := by omega
 have hstop := chunk_stops Fence.wide (5 - 1) trivial rfl (by decide) Bs Bn gb m (m * 64) hm63 (by omega) (by omega) W4 E1'.lt E2.lt (by rw [E1'.cell 0, Nat.mul_comm 64 m]; rfl) (by rw [E2.cell 0]; rfl)
 have hps : ∀ x : Fin m, (#[chv gb x.1] : Array Value).size = (#[26] : Array Tmp).size := fun _ => rfl
 have hE1 := E1'.lt
 have hE2 := E2.lt
 have hw4 := K04.size
 obtain ⟨ch, hch⟩ : ∃ ch : Fin m → Bk, ch = fun j => ((packB b).drop (64 * j.1)).take 64 := ⟨_, rfl⟩
 obtain ⟨hl1, hl2, -⟩ := A7.least
 have hI0 : WrAt w W4 F g r b3 b5 b6 gb (m * 64) rest (packB b) k 0 0 D W4 := ⟨⟨vl, vr, hl1, fun q hq => .inl (hl2 q hq)⟩, hok, ho, hrow, B7, C7, D7, HR7, R7, K04.mono (fun _ _ h => h.elim), Nat.le_refl _⟩
 have HI0 := hid hI0
 have Hch := hid hch
 clear hI0 hch hl1 hl2 A7 A0 HR7 R7 B7 C7 D7 E1' E2 K04
 refine wpIn_wide (n := 5).1 ?_
 refine wpIn_rangeFunc_ownG (F := Fence.wide) (n := 5) rfl (by decide) (gf := 107) (lb := #[.pointer (some ⟨Bs, 0, none⟩), .pointer (some ⟨Bn, 0, none⟩)]) rfl trivial (enters_of Try.func107 (by kernel_rfl) rfl) hstop
  (fun h k => h.trans k) (fun W l o o' hl ho hc _ => boxKept_turned o' (by omega) (by omega) ho) (Below.refl _ _) hps
  (fun (pre : List (Fin m)) W => ∃ D', D.writes k (pre.map ch) = (D', 0) ∧ WrAt w W4 F g r b3 b5 b6 gb (m * 64) rest (packB b) (k + pre.length) 0 pre.length D' W)
  (fun cde pre W => cde = .ret ∧ ∃ D' e' k5, D.writes k (pre.map ch) = (D', e') ∧ e' ≠ 0 ∧ WrAt w W4 F g r b3 b5 b6 gb (m * 64) rest (packB b) k5 e' pre.length D' W)
  (fun pre A B row hs hg hr => by obtain ⟨D', h1, h2⟩ := hs; exact ⟨D', h1, h2.turned hw4 hg hr⟩)
  (fun cde pre A B row hs hg hr => by obtain ⟨h0, D', e', k5, h1, h2, h3⟩ := hs; exact ⟨h0, D', e', k5, h1, h2, h3.turned hw4 hg hr⟩)
  ⟨D, rfl, by simpa using HI0.out⟩
  (fun x => { tmps := #[.pointer (some ⟨r, 0, none⟩), .slice A b.length c, .int .i64 k, .pointer (some ⟨b3, 0, none⟩), undef, .pointer (some ⟨b5, 0, none⟩), .pointer (some ⟨b6, 0, none⟩), .slice (some ⟨gb, 0, none⟩) (m * 64) (m * 64), chv gb x.1, undef, .slice A b.length c, .int .i64 m, .int .i64 ((m : Int) * 64), .slice (some ⟨gb, 0, none⟩) (m * 64) (m * 64), .slice (some ⟨gb, 0, none⟩) (m * 64) (m * 64), .slice (some ⟨gb, 0, none⟩) 2 (m * 64), .slice A b.length c, .int .i64 b.length, .int .u64 b.length, .tuple #[], .slice (some ⟨gb, 0, none⟩) (m * 64) (m * 64), .slice (some ⟨gb, 2, none⟩) (m * 64 - 2) (m * 64 - 2), .slice A b.length c, .int .i64 b.length, .slice (some ⟨gb, 0, none⟩) (m * 64) (m * 64), .func (.func 107) #[] #[.pointer (some ⟨Bs, 0, none⟩), .pointer (some ⟨Bn, 0, none⟩)], chv gb x.1, undef, undef, undef, undef, undef, undef, undef, undef, undef, undef, undef, undef], defers := [] }) ?assign ?body ?done ?stop
 case assign =>
  intro l x W K hK
  gi_wp2
  exact hK
 case body =>
  rintro l pre x W ⟨D', hw, HW⟩ hlen
  have hd : 1 ≤ 5 - 1 - 1 := by decide
  have hmx : Try.prog.follows .mixedOrders = true := by kernel_rfl
  obtain ⟨vlx, vrx, AX, hLs⟩ := HW.dev
  have hxm := x.2
  have hops := HW.ops
  have hrow' := HW.row
  have hchl : (ch x).length = 64 := by rw [Hch.out]; show (((packB b).drop (64 * x.1)).take 64).length = 64; rw [List.length_take, List.length_drop, packB_length, ← Hm.out]; omega
  have hRb : Reads W (some ⟨gb, 64 * x.1, none⟩) (bv (ch x)) := by
   have h1 := ((Bytes.same_as HW.bytes).drop (m * 64) (64 * x.1) (by rw [bv_length, packB_length, ← Hm.out]; omega)).take 64
   rw [if_neg (by omega)] at h1
   rw [show (List.take 64 (List.drop (64 * x.1) (bv (packB b)))) = bv (ch x) by rw [Hch.out]; simp [bv, List.map_drop, List.map_take]] at h1
   have e : Option.map (fun q : Addr => q.add (64 * x.1)) (some ⟨gb, 0, none⟩) = some ⟨gb, 64 * x.1, none⟩ := by rw [Option.map_some, Addr.add_mid, Nat.zero_add]
   rw [e] at h1
   exact h1
  have hdx : DevIs W (Least g vlx vrx) g D' := ⟨_, _, AX⟩
  have hwr := write_calls (hdx.keep ((Keep.refl Noth W).drew) (Dj.noth _)) HW.ok (by omega) (by omega) (k + pre.length) (some ⟨gb, 64 * x.1, none⟩) 64 (ch x) (by omega) (hRb.keep ((Keep.refl Noth W).drew) (fun _ _ => id))
  rw [hchl] at hwr
  have d3 := HW.c3.cell 0
  have d5 := HW.c5.cell 0
  have dr := HW.cr.cell 0
  simp only [List.getElem?_cons_zero] at d3 d5 dr
  have hkp1 : -10000 ≤ k + (pre.length : Int) := by omega
  have hkp2 : k + (pre.length : Int) ≤ 10100 := by omega
  obtain ⟨D2, e2, hR2⟩ : ∃ D2 e2, D'.write (k + pre.length) (ch x) = (D2, e2) := ⟨_, _, rfl⟩
  have hsn : D.writes k ((pre ++ [x]).map ch) = (D2, e2) := by
   rw [List.map_append]
   show D.writes k (pre.map ch ++ [ch x]) = _
   rw [writes_snoc _ _ _ _ (by rw [hw]), hw, List.length_map]
   exact hR2
  have hg2 := write_grow D' (k + pre.length) (ch x)
  have hok2 := write_ds_ok HW.ok (k + pre.length) (ch x)
  rw [hR2] at hwr hg2 hok2
  simp only at hwr hg2 hok2
  have hk5 : k + (pre.length : Int) + 1 = k + ((pre ++ [x]).length : Int) := by simp; omega
  have hl5 : (pre ++ [x]).length = pre.length + 1 := by simp
  have hLt := hid hlt0
  have HW' := hid HW
  have AX' := hid AX
  have Hsn := hid hsn
  have Hg2 := hid hg2
  have Hok2 := hid hok2
  have Hk5 := hid hk5
  have Hl5 := hid hl5
  have HLs := hid hLs
  have nBs : ¬ Least g vlx vrx Bs := fun e => (hLs Bs e).elim (fun e => by have := hlt0 Bs e; omega) (fun e => by omega)
  have nBn : ¬ Least g vlx vrx Bn := fun e => (hLs Bn e).elim (fun e => by have := hlt0 Bn e; omega) (fun e => by omega)
  have hWs := HW.size
  have b5lt := HW.c5.lt
  have b6lt := HW.c6.lt
  clear hRb hdx hR2 hsn hg2 hok2 hk5 hl5 hlt0 HW AX hLs hw
  show Code.wpIn _ _ _ _ _ _ _
  dsimp only [chv]
  gi_wp2
  gi_region_with_o (refine ⟨trivial, ?_⟩; gi_at_call 36; refine (CallsIn.inRound l (callsIn_wide.2 hwr)).mono ?_; rintro e W5 ⟨rfl, H5, K5⟩)
  all_goals
   have K5' : Keep (Least g vlx vrx) W W5 := ⟨K5.os, K5.tape, K5.output, K5.size, K5.block⟩
   have HWn := HW'.out.wrote hLt.out hw4 AX'.out HLs.out H5 K5' Hok2.out Hg2.out.1 Hg2.out.2.1 ⟨by omega, hgb3⟩
   have KF := keepsFrom_wrote (B := W4.heap.size) AX'.out K5'
   have hBk : BoxKept Bs Bn W W5 := ⟨World.cell?_of_block (K5'.block Bs (by omega) nBs), World.cell?_of_block (K5'.block Bn (by omega) nBn)⟩
   have hs5 := K5'.size
   have e5 := HWn.c5.cell 0
   have e6 := HWn.c6.cell 0
   have f5 := HWn.c5.frozen 0
   have f6 := HWn.c6.frozen 0
   simp only [List.getElem?_cons_zero] at e5 e6
   have HN := hid HWn
   have HKF := hid KF
   have HBk := hid hBk
   clear K5 K5' H5 hwr HWn KF hBk d3 d5 dr
  all_goals
   by_cases he : e2 = 0
   ·have K6 := (Keep.refl (Only b5) W5).cell 0 (.int .i64 (k + (pre.length : Int) + 1))
    have B5n := HN.out.c5.set 0 (.int .i64 (k + (pre.length : Int) + 1))
    have B6n := HN.out.c6.far ⟨b5, 0, none⟩ (fun e => by have e : b6 = b5 := e; exact HN.out.c6.tyne HN.out.c5 (by decide) e) (.int .i64 (k + (pre.length : Int) + 1))
    have HS := HN.out.store HN.out.c5 (.inl rfl) K6 hfresh.2.1 (k + ((pre ++ [x]).length : Int)) 0 (by rw [← Hk5.out]; exact B5n) B6n
    rw [← Hl5.out] at HS
    have hKF2 := HKF.out.trans ((KeepsOthers.setCell W5 ⟨b5, 0, none⟩ (.int .i64 (k + (pre.length : Int) + 1))).from W4.heap.size)
    have hBk2 := HBk.out.trans (⟨World.cell?_of_block (K6.block Bs (by omega) (fun e => by unfold Only at e; omega)), World.cell?_of_block (K6.block Bn (by omega) (fun e => by unfold Only at e; omega))⟩ : BoxKept Bs Bn W5 _)
    have HS' := hid HS
    have HKF2 := hid hKF2
    have HBk2 := hid hBk2
    clear K6 B5n B6n HS hKF2 hBk2
    subst he
    gi_wp2
    exact ⟨HKF2.out, HBk2.out, D2, Hsn.out, HS'.out⟩
   ·have hne : (e2 != 0) = true := by simpa using he
    have K6 := (Keep.refl (Only b6) W5).cell 0 (.int .i64 e2)
    have B6n := HN.out.c6.set 0 (.int .i64 e2)
    have B5n := HN.out.c5.far ⟨b6, 0, none⟩ (fun e => by have e : b5 = b6 := e; exact HN.out.c5.tyne HN.out.c6 (by decide) e) (.int .i64 e2)
    have HS := HN.out.store HN.out.c6 (.inr rfl) K6 hfresh.2.2 _ e2 B5n B6n
    rw [← Hl5.out] at HS
    have hKF2 := HKF.out.trans ((KeepsOthers.setCell W5 ⟨b6, 0, none⟩ (.int .i64 e2)).from W4.heap.size)
    have HS' := hid HS
    have HKF2 := hid hKF2
    have He := hid he
    clear K6 B5n B6n HS hKF2 he
    gi_wp2
    exact ⟨HKF2.out, rfl, D2, e2, _, Hsn.out, He.out, HS'.out⟩
 case done =>
  rintro Dd ys W hDd hS ⟨D', hw, HW⟩ hK
  obtain ⟨vlx, vrx, AX, hLs⟩ := HW.dev
  have hys : ys.map ch = packs b := by
   have : ys.map ch = (ys.map (fun x => x.1)).map (fun j => ((packB b).drop (64 * j)).take 64) := by rw [List.map_map, Hch.out]; rfl
   rw [this, hS, Hm.out]; rfl
  rw [hys] at hw
  have e6 := HW.c6.cell 0
  have f6 := HW.c6.frozen 0
  simp only [List.getElem?_cons_zero] at e6
  have K6 := (Keep.refl (Only b6) W).cell 0 (.int .i64 0)
  have B6n := HW.c6.set 0 (.int .i64 0)
  have B5n := HW.c5.far ⟨b6, 0, none⟩ (fun e => by have e : b5 = b6 := e; exact HW.c5.tyne HW.c6 (by decide) e) (.int .i64 0)
  have HS := HW.store HW.c6 (.inr rfl) K6 hfresh.2.2 _ 0 B5n B6n
  have hK' : (W.setCell ⟨b6, 0, none⟩ (.int .i64 0)).heap[Dd]? = some (.deferred (some [])) := (KeepsOthers.setCell W ⟨b6, 0, none⟩ (.int .i64 0)).same Dd _ hK rfl
  have HS' := hid HS
  have HK' := hid hK'
  have Hw := hid hw
  clear K6 B5n B6n HS hK' AX hLs HW hw hys
  go_wp2_with fail
  refine ⟨by simp, .inl ⟨_, _, rfl, run_takeDeferred HK'.out, ?_⟩⟩
  obtain ⟨q1, q2, q3⟩ := HS'.out.leave hlt0 hw4 hDd HK'.out rfl rfl
  exact ⟨_, results_cell1 rfl _ b6 (.int .i64 0) _ (by rfl) q1 Try.underlying37 rfl, by rw [Hw.out], by rw [Hw.out]; exact q2, q3⟩
 case stop =>
  rintro Dd cde pre W hDd ⟨kk, hkk, hpre⟩ ⟨rfl, D', e', k5, hw, he, HW⟩ hK
  have hfin : D.writes k (packs b) = (D', e') := by
   have h1 : packs b = pre.map ch ++ ((List.range (blocksN b)).drop kk).map (fun j => ((packB b).drop (64 * j)).take 64) := by
    have h2 : pre.map ch = (pre.map (fun x => x.1)).map (fun j => ((packB b).drop (64 * j)).take 64) := by rw [List.map_map, Hch.out]; rfl
    have h3 : List.range kk = (List.range (blocksN b)).take kk := by rw [List.take_range, Nat.min_eq_left (by rw [← Hm.out]; exact hkk)]
    rw [h2, hpre, h3, ← List.map_append, List.take_append_drop]; rfl
   rw [h1, writes_stop _ _ _ _ (by rw [hw]; exact he), hw]
  have Hfin := hid hfin
  have HW' := hid HW
  clear hfin hw HW he hpre
  refine wpIn_wide.2 ?_
  go_wp2_with fail
  refine ⟨by simp, .inl ⟨_, _, rfl, run_takeDeferred hK, ?_⟩⟩
  obtain ⟨q1, q2, q3⟩ := HW'.out.leave hlt0 hw4 hDd hK rfl rfl
  exact ⟨_, results_cell1 rfl _ b6 (.int .i64 e') _ (by rfl) q1 Try.underlying37 rfl, by rw [Hfin.out], by rw [Hfin.out]; exact q2, q3⟩
end Go.Proofs.Ytffcglfepobdjaa
set_option maxRecDepth 10000
set_option maxHeartbeats 1500000
namespace Go.Proofs.Ytffcglfepobdjaa
open Go.RowKit
def h0B : List UInt8 := List.replicate 64 0
def h1B (seq : Nat) : List UInt8 := splice h0B 0 (putB 8 seq)
def h2B (seq area : Nat) : List UInt8 := (h1B seq).set 8 (UInt8.ofNat area)
def h3B (seq area used : Nat) : List UInt8 := splice (h2B seq area) 9 (putB 4 used)
def h4B (seq area used count : Nat) : List UInt8 := splice (h3B seq area used) 13 (putB 4 count)
/-- A head's bytes. -/
def headB (seq area used count : Nat) : List UInt8 := splice (h4B seq area used count) 32 (putB 8 seq)
theorem h0B_length : h0B.length = 64 := by simp [h0B]
theorem h1B_length (seq : Nat) : (h1B seq).length = 64 := by unfold h1B; rw [length_splice _ _ _ (by rw [putB_length, h0B_length]; decide), h0B_length]
theorem h2B_length (seq area : Nat) : (h2B seq area).length = 64 := by unfold h2B; rw [List.length_set, h1B_length]
theorem h3B_length (seq area used : Nat) : (h3B seq area used).length = 64 := by unfold h3B; rw [length_splice _ _ _ (by rw [putB_length, h2B_length]; decide), h2B_length]
theorem h4B_length (seq area used count : Nat) : (h4B seq area used count).length = 64 := by unfold h4B; rw [length_splice _ _ _ (by rw [putB_length, h3B_length]; decide), h3B_length]
theorem headB_length (seq area used count : Nat) : (headB seq area used count).length = 64 := by unfold headB; rw [length_splice _ _ _ (by rw [putB_length, h4B_length]; decide), h4B_length]
theorem headBytes_calls (w : World) (seq area used count : Nat) (hs : seq < 18446744073709551616) (ha : area ≤ 9223372036854775807) (hu : used ≤ 9223372036854775807) (hc : count ≤ 9223372036854775807) :
  Calls Try.prog 94 #[.agg [.int .u64 (seq : Int), .int .i64 (area : Int), .int .i64 (used : Int), .int .i64 (count : Int)].toArray] w (fun e w' => ∃ gb, e = .returned (.slice (some ⟨gb, 0, none⟩) 64 64) ∧ Bytes w' (Fresh w w') (.slice (some ⟨gb, 0, none⟩) 64 64) (headB seq area used count) ∧ Keep Noth w w') := by
 obtain ⟨i5, hi5, hz50, hz51, hz52⟩ := info_parts info5
 have Hi5 := hid hi5
 have Hz0 := hid hz50
 have Hz1 := hid hz51
 have Hz2 := hid hz52
 have haI : (area : Int) ≤ 9223372036854775807 := by omega
 have huI : (used : Int) ≤ 9223372036854775807 := by omega
 have hcI : (count : Int) ≤ 9223372036854775807 := by omega
 have hau : (UInt8.ofNat area).toNat = area % 256 := UInt8.toNat_ofNat'
 have Hau : Hid ((area : Int) % 256 = ((UInt8.ofNat area).toNat : Int)) := by show _ = _; rw [hau]; omega
 clear hi5 hz50 hz51 hz52 hau
 go_enter Try.func94, Try.ntmps94
 go_wp2_with (first
  | (guard_target = wpList _ _ _ (Oper.mk _ (Op.box 112 _) _ _ _ _ :: _) _ _; refine wpList_box_v rfl 112 _ rfl [.int .u64 (seq : Int), .int .i64 (area : Int), .int .i64 (used : Int), .int .i64 (count : Int)] (by rfl) ?_; intro b1 w1 hb1 B1 K1)
  | (guard_target = wpList _ _ _ (Oper.mk _ (Op.makeSlice _ _ _) _ _ _ _ :: _) _ _; refine wpList_make_full _ rfl _ _ 33 rfl 0 5 i5 (.int .u8 0) 1 sl33 Hi5.out Hz0.out Hz1.out .i64 .i64 64 64 64 (by rfl) (by rfl) rfl rfl (by rw [Hz2.out]; decide) (by decide) (Nat.zero_le _) ?_; intro W1 HO1 HG1))
 have hw1 := K1.size
 have hb1lt := B1.lt
 have KW1 : Keep Noth w1 W1 := (Keep.refl _ _).grown HG1 (fun _ h => by cases h)
 obtain ⟨gb, hgbe⟩ : ∃ gb, gb = w1.heap.size := ⟨_, rfl⟩
 rw [← hgbe] at HO1
 have R0 : Rows W1 (fun q => q = gb) 5 1 (.slice (some ⟨gb, 0, none⟩) 64 64) (u1 h0B) := by
  unfold h0B; rw [← u1_zeros]; exact Rows.made (z := [.int .u8 0]) rfl (by decide) HO1
 have hgb : w.heap.size ≤ gb := by omega
 have hbg : b1 ≠ gb := by omega
 have E0 := B1.keep KW1 id
 have KK0 : Keep Noth w W1 := K1.trans KW1 (fun _ _ h => h)
 rw [← hgbe]
 clear HO1 HG1 KW1 B1 K1 hw1 hb1lt hgbe
 refine wp_region_ordL [(0, true), (1, true), (2, true), (3, true), (4, false)] (fun w' => BlockIs w' b1 [.int .u64 (seq : Int), .int .i64 (area : Int), .int .i64 (used : Int), .int .i64 (count : Int)] 112) follows_mixed (by kernel_rfl) E0.drew ?_
 simp only [List.map_cons, List.map_nil, List.getElem?_cons_succ, List.getElem?_cons_zero, Option.getD_some]
 refine wpO_pure (v := .slice (some ⟨gb, 0, none⟩) 64 64) (by rfl) (fun w' hw' => by rfl) ?_
 go_frame
 refine wpO_pure (v := .slice (some ⟨gb, 0, none⟩) 8 64) (by rfl) (fun w' hw' => by go_simp) ?_
 go_frame
 refine wpO_pure (v := .pointer (some ⟨b1, 0, none⟩)) (by rfl) (fun w' hw' => by go_simp) ?_
 go_frame
 refine wpO_pure (v := .int .u64 (seq : Int)) (by rfl) (fun w' hw' => by have hc := hw'.cell 0; simp only [List.getElem?_cons_zero, List.getElem?_cons_succ] at hc; go_simp) ?_
 go_frame
 refine wpO_call (by rfl) (exec_call' 91 _ _ rfl Try.func91 (by kernel_rfl) (by rfl) #[.slice (some ⟨gb, 0, none⟩) 8 64, .int .u64 (seq : Int)] (by simp [Act.eval])) ?_
 refine (put_calls (R0.keep ((Keep.refl Noth _).drew) (Dj.noth _)) 0 8 64 (by decide) (by rw [h0B_length]; decide) seq (by omega)).mono ?_
 rintro e V1 ⟨rfl, R1, KV1⟩
 refine ⟨_, rfl, .inl rfl, ?_⟩
 refine wpO_nil ?_
 have E1 := E0.drew.keep KV1 (fun e => hbg e)
 have KK1 : Keep Noth w V1 := (KK0.drew).own KV1 (fun q e => by unfold Only at e; subst e; exact hgb)
 clear KV1 R0 E0
 go_frame
 rw [show splice h0B 0 (putB 8 seq) = h1B seq from rfl] at R1
 have c1 := E1.cell 1
 simp only [List.getElem?_cons_zero, List.getElem?_cons_succ] at c1
 have HB := hid (R1.byte 8 (UInt8.ofNat area) (by rw [h1B_length]; decide))
 go_wp2_with (guard_target = wpList _ _ _ (Oper.mk _ (Op.store 5 _ _) _ _ _ _ :: _) _ _; refine wpList_store_one rfl 5 _ _ rfl gb 8 (.int .u8 ((area : Int) % 256)) (by rfl) (by rfl) HB.out.2 rfl rfl info5' ?_; intro V2 hV2; rw [Hau.out] at hV2; have R2 := hV2 (fun W => Rows W (fun q => q = gb) 5 1 (.slice (some ⟨gb, 0, none⟩) 64 64) (u1 (h2B seq area))) HB.out.1; have KV2 := hV2 (fun W => Keep (Only gb) V1 W) ((Keep.refl (Only gb) V1).cell 8 (Go.Proofs.Ytffcglfepobdjaa.u8 (UInt8.ofNat area))); clear hV2)
 have E2 := E1.keep KV2 (fun e => hbg e)
 have KK2 : Keep Noth w V2 := KK1.own KV2 (fun q e => by unfold Only at e; subst e; exact hgb)
 clear c1 HB KV2 R1 E1 KK1
 refine wp_region_ordL [(0, true), (1, true), (2, true), (3, true), (4, true), (5, false)] (fun w' => BlockIs w' b1 [.int .u64 (seq : Int), .int .i64 (area : Int), .int .i64 (used : Int), .int .i64 (count : Int)] 112) follows_mixed (by kernel_rfl) E2.drew ?_
 simp only [List.map_cons, List.map_nil, List.getElem?_cons_succ, List.getElem?_cons_zero, Option.getD_some]
 refine wpO_pure (v := .slice (some ⟨gb, 0, none⟩) 64 64) (by rfl) (fun w' hw' => by rfl) ?_
 go_frame
 refine wpO_pure (v := .slice (some ⟨gb, 9, none⟩) 4 55) (by rfl) (fun w' hw' => by go_simp) ?_
 go_frame
 refine wpO_pure (v := .pointer (some ⟨b1, 2, none⟩)) (by rfl) (fun w' hw' => by go_simp) ?_
 go_frame
 refine wpO_pure (v := .int .i64 (used : Int)) (by rfl) (fun w' hw' => by have hc := hw'.cell 2; simp only [List.getElem?_cons_zero, List.getElem?_cons_succ] at hc; go_simp) ?_
 go_frame
 refine wpO_pure (v := .int .u64 (used : Int)) (by rfl) (fun w' hw' => by go_simp; rw [IntKind.wrap_u64]; omega) ?_
 go_frame
 refine wpO_call (by rfl) (exec_call' 91 _ _ rfl Try.func91 (by kernel_rfl) (by rfl) #[.slice (some ⟨gb, 9, none⟩) 4 55, .int .u64 (used : Int)] (by simp [Act.eval])) ?_
 refine (put_calls (R2.keep ((Keep.refl Noth _).drew) (Dj.noth _)) 9 4 55 (by decide) (by rw [h2B_length]; decide) used (by omega)).mono ?_
 rintro e V3 ⟨rfl, R3, KV3⟩
 refine ⟨_, rfl, .inl rfl, ?_⟩
 refine wpO_nil ?_
 have E3 := E2.drew.keep KV3 (fun e => hbg e)
 have KK3 : Keep Noth w V3 := (KK2.drew).own KV3 (fun q e => by unfold Only at e; subst e; exact hgb)
 clear KV3 R2 E2
 go_frame
 rw [show splice (h2B seq area) 9 (putB 4 used) = h3B seq area used from rfl] at R3
 go_wp2_with fail
 refine wp_region_ordL [(0, true), (1, true), (2, true), (3, true), (4, true), (5, false)] (fun w' => BlockIs w' b1 [.int .u64 (seq : Int), .int .i64 (area : Int), .int .i64 (used : Int), .int .i64 (count : Int)] 112) follows_mixed (by kernel_rfl) E3.drew ?_
 simp only [List.map_cons, List.map_nil, List.getElem?_cons_succ, List.getElem?_cons_zero, Option.getD_some]
 refine wpO_pure (v := .slice (some ⟨gb, 0, none⟩) 64 64) (by rfl) (fun w' hw' => by rfl) ?_
 go_frame
 refine wpO_pure (v := .slice (some ⟨gb, 13, none⟩) 4 51) (by rfl) (fun w' hw' => by go_simp) ?_
 go_frame
 refine wpO_pure (v := .pointer (some ⟨b1, 3, none⟩)) (by rfl) (fun w' hw' => by go_simp) ?_
 go_frame
 refine wpO_pure (v := .int .i64 (count : Int)) (by rfl) (fun w' hw' => by have hc := hw'.cell 3; simp only [List.getElem?_cons_zero, List.getElem?_cons_succ] at hc; go_simp) ?_
 go_frame
 refine wpO_pure (v := .int .u64 (count : Int)) (by rfl) (fun w' hw' => by go_simp; rw [IntKind.wrap_u64]; omega) ?_
 go_frame
 refine wpO_call (by rfl) (exec_call' 91 _ _ rfl Try.func91 (by kernel_rfl) (by rfl) #[.slice (some ⟨gb, 13, none⟩) 4 51, .int .u64 (count : Int)] (by simp [Act.eval])) ?_
 refine (put_calls (R3.keep ((Keep.refl Noth _).drew) (Dj.noth _)) 13 4 51 (by decide) (by rw [h3B_length]; decide) count (by omega)).mono ?_
 rintro e V4 ⟨rfl, R4, KV4⟩
 refine ⟨_, rfl, .inl rfl, ?_⟩
 refine wpO_nil ?_
 have E4 := E3.drew.keep KV4 (fun e => hbg e)
 have KK4 : Keep Noth w V4 := (KK3.drew).own KV4 (fun q e => by unfold Only at e; subst e; exact hgb)
 clear KV4 R3 E3
 go_frame
 rw [show splice (h3B seq area used) 13 (putB 4 count) = h4B seq area used count from rfl] at R4
 go_wp2_with fail
 refine wp_region_ordL [(0, true), (1, true), (2, true), (3, true), (4, false)] (fun w' => BlockIs w' b1 [.int .u64 (seq : Int), .int .i64 (area : Int), .int .i64 (used : Int), .int .i64 (count : Int)] 112) follows_mixed (by kernel_rfl) E4.drew ?_
 simp only [List.map_cons, List.map_nil, List.getElem?_cons_succ, List.getElem?_cons_zero, Option.getD_some]
 refine wpO_pure (v := .slice (some ⟨gb, 0, none⟩) 64 64) (by rfl) (fun w' hw' => by rfl) ?_
 go_frame
 refine wpO_pure (v := .slice (some ⟨gb, 32, none⟩) 8 32) (by rfl) (fun w' hw' => by go_simp) ?_
 go_frame
 refine wpO_pure (v := .pointer (some ⟨b1, 0, none⟩)) (by rfl) (fun w' hw' => by go_simp) ?_
 go_frame
 refine wpO_pure (v := .int .u64 (seq : Int)) (by rfl) (fun w' hw' => by have hc := hw'.cell 0; simp only [List.getElem?_cons_zero, List.getElem?_cons_succ] at hc; go_simp) ?_
 go_frame
 refine wpO_call (by rfl) (exec_call' 91 _ _ rfl Try.func91 (by kernel_rfl) (by rfl) #[.slice (some ⟨gb, 32, none⟩) 8 32, .int .u64 (seq : Int)] (by simp [Act.eval])) ?_
 refine (put_calls (R4.keep ((Keep.refl Noth _).drew) (Dj.noth _)) 32 8 32 (by decide) (by rw [h4B_length]; decide) seq (by omega)).mono ?_
 rintro e V5 ⟨rfl, R5, KV5⟩
 refine ⟨_, rfl, .inl rfl, ?_⟩
 refine wpO_nil ?_
 have E5 := E4.drew.keep KV5 (fun e => hbg e)
 have KK5 : Keep Noth w V5 := (KK4.drew).own KV5 (fun q e => by unfold Only at e; subst e; exact hgb)
 clear KV5 R4 E4
 go_frame
 rw [show splice (h4B seq area used count) 32 (putB 8 seq) = headB seq area used count from rfl] at R5
 go_wp2_with fail
 go_ret
 exact ⟨gb, rfl, R5.mono (fun q hq => by subst hq; exact ⟨hgb, (R5.own.lt q rfl).2⟩), KK5⟩
theorem nz_calls (w : World) (x : UInt8) : Calls Try.prog 109 #[.int .u8 (x.toNat : Int)] w (fun e w' => e = .returned (.bool ((x.toNat : Int) != 0)) ∧ w = w') := by
 go_enter Try.func109, Try.ntmps109
 go_wp2_with fail
 go_ret
 exact ⟨rfl, rfl⟩
theorem index_calls (w : World) (A : Option Addr) (c : Nat) (b : List UInt8) (hA : Reads w A (bv b)) (hb : b.length ≤ 1099511627776) :
  Calls Try.prog 110 #[.slice A b.length c, .func (.func 109) #[] #[]] w (fun e w' => ∃ z : Int, e = .returned (.int .i64 z) ∧ (0 ≤ z ↔ b.any (fun x => x != 0) = true) ∧ w = w') := by
 have hb' : (b.length : Int) ≤ 1099511627776 := by omega
 have HA := hid hA
 clear hA
 go_enter Try.func110, Try.ntmps110
 go_wp2_with fail
 go_loopw [8] (fun i wr => ∃ k : Nat, i = .int .i64 k ∧ k ≤ b.length ∧ (b.take k).any (fun x => x != 0) = false ∧ wr = w) (fun i _ => b.length - (intOf i).toNat)
 case atStart => exact ⟨0, rfl, Nat.zero_le _, rfl, rfl⟩
 case round =>
  obtain ⟨k, rfl, hk, hz, rfl⟩ := hrel
  by_cases hlt : k < b.length
  ·have hlt' : (k : Int) < b.length := by omega
   obtain ⟨g, o, rfl, hr, hg⟩ := HA.out.where (by rw [bv_length]; omega)
   obtain ⟨y, hy⟩ : ∃ y, b[k]? = some y := ⟨_, List.getElem?_eq_getElem hlt⟩
   have hcell : wr.cell? ⟨g, o + k, none⟩ = some (.int .u8 (y.toNat : Int)) := hr k (Go.Proofs.Ytffcglfepobdjaa.u8 y) (by simp [bv, hy])
   have htk : b.take (k + 1) = b.take k ++ [y] := by rw [List.take_add_one, hy]; rfl
   have hmem : y ∈ b := List.mem_of_getElem? hy
   have Htk := hid htk
   have Hz := hid hz
   clear htk hz hy hr
   by_cases hy0 : y = 0
   ·have hyz : ((y.toNat : Int) != 0) = false := by rw [hy0]; rfl
    have Hyz := hid hyz
    have Hy0 := hid hy0
    clear hyz hy0
    go_wp2_with fail
    refine (nz_calls wr y).mono ?_
    rintro e w' ⟨rfl, rfl⟩
    rw [Hyz.out]
    go_wp2_with fail
    go_roundw
    case rel => exact ⟨k + 1, by go_num, hlt, by rw [Htk.out, List.any_append, Hz.out, Hy0.out]; rfl, trivial⟩
    case measure => simp [intOf]; omega
   ·have hyz : ((y.toNat : Int) != 0) = true := by
     have : y.toNat ≠ 0 := fun e => hy0 (UInt8.toNat_inj.1 (by rw [e]; rfl))
     simp; omega
    have Hyz := hid hyz
    have Hy0 := hid hy0
    clear hyz hy0
    go_wp2_with fail
    refine (nz_calls wr y).mono ?_
    rintro e w' ⟨rfl, rfl⟩
    rw [Hyz.out]
    go_wp2_with fail
    go_ret
    exact ⟨(k : Int), rfl, ⟨fun _ => List.any_eq_true.2 ⟨y, hmem, by simpa using Hy0.out⟩, fun _ => by omega⟩, rfl⟩
  ·have hge : k = b.length := by omega
   subst hge
   rw [List.take_length] at hz
   have Hz := hid hz
   clear hz
   go_wp2_with fail
   go_ret
   exact ⟨-1, rfl, ⟨fun h => absurd h (by decide), fun h => by rw [Hz.out] at h; cases h⟩, rfl⟩
theorem contains_calls (w : World) (A : Option Addr) (c : Nat) (b : List UInt8) (hA : Reads w A (bv b)) (hb : b.length ≤ 1099511627776) :
  Calls Try.prog 108 #[.slice A b.length c, .func (.func 109) #[] #[]] w (fun e w' => e = .returned (.bool (b.any (fun x => x != 0))) ∧ w = w') := by
 have hi := index_calls w A c b hA hb
 clear hA
 go_enter Try.func108, Try.ntmps108
 go_wp2_with fail
 refine hi.mono ?_
 rintro e w' ⟨z, rfl, hz, rfl⟩
 cases ha : b.any (fun x => x != 0) with
 | true =>
  have h0 : 0 ≤ z := hz.2 ha
  have Ha := hid ha
  clear hz hi ha
  go_wp2_with fail
  go_ret
  exact ⟨by rw [Ha.out]; simp [h0], rfl⟩
 | false =>
  have h0 : z < 0 := by
   rcases Int.lt_or_le z 0 with h | h
   ·exact h
   ·have := hz.1 h; rw [ha] at this; cases this
  have Ha := hid ha
  clear hz hi ha
  go_wp2_with fail
  go_ret
  exact ⟨by rw [Ha.out]; simp [h0], rfl⟩
/-- slices.Equal. -/
theorem sEqual_calls (w : World) (A B : Option Addr) (c d : Nat) (x y : List UInt8) (hA : Reads w A (bv x)) (hB : Reads w B (bv y)) (hx : x.length ≤ 1099511627776) :
  Calls Try.prog 96 #[.slice A x.length c, .slice B y.length d] w (fun e w' => e = .returned (.bool (x == y)) ∧ Keep Noth w w') := by
 have hx' : (x.length : Int) ≤ 1099511627776 := by omega
 by_cases hl : x.length = y.length
 case neg =>
  have hne : ((x.length : Int) != (y.length : Int)) = true := by simp; omega
  have hf : (x == y) = false := by
   cases h : x == y with
   | false => rfl
   | true => exact absurd (congrArg List.length (eq_of_beq h)) hl
  rw [hf]
  clear hf hl hA hB
  go_enter Try.func96, Try.ntmps96
  go_wp2_with fail
  go_ret
  exact ⟨rfl, Keep.refl _ _⟩
 have hne : ((x.length : Int) != (y.length : Int)) = false := by rw [hl]; simp
 have HA := hid hA
 have HB := hid hB
 have Hl := hid hl
 clear hA hB hl
 go_enter Try.func96, Try.ntmps96
 go_wp2_with fail
 go_loopw [13] (fun i wr => ∃ k : Nat, i = .int .i64 k ∧ k ≤ x.length ∧ x.take k = y.take k ∧ Keep Noth w wr) (fun i _ => x.length - (intOf i).toNat)
 case atStart => exact ⟨0, rfl, Nat.zero_le _, rfl, Keep.refl _ _⟩
 case round =>
  obtain ⟨k, rfl, hk, heq, HK⟩ := hrel
  have Heq := hid heq
  clear heq
  by_cases hlt : k < x.length
  ·have hlt' : (k : Int) < x.length := by omega
   have hly' : (k : Int) < y.length := by have := Hl.out; omega
   have hly : k < y.length := by have := Hl.out; omega
   obtain ⟨ga, oa, rfl, hra, hga⟩ := HA.out.where (by rw [bv_length]; omega)
   obtain ⟨gb, ob, rfl, hrb, hgb⟩ := HB.out.where (by rw [bv_length]; omega)
   obtain ⟨p, hp⟩ : ∃ p, x[k]? = some p := ⟨_, List.getElem?_eq_getElem hlt⟩
   obtain ⟨q, hq⟩ : ∃ q, y[k]? = some q := ⟨_, List.getElem?_eq_getElem hly⟩
   have ca := fun (W : World) (hW : Keep Noth w W) => hW.cellAt id (hra k (Go.Proofs.Ytffcglfepobdjaa.u8 p) (by simp [bv, hp]))
   have cb := fun (W : World) (hW : Keep Noth w W) => hW.cellAt id (hrb k (Go.Proofs.Ytffcglfepobdjaa.u8 q) (by simp [bv, hq]))
   have htx : x.take (k + 1) = x.take k ++ [p] := by rw [List.take_add_one, hp]; rfl
   have hty : y.take (k + 1) = y.take k ++ [q] := by rw [List.take_add_one, hq]; rfl
   have Ca := hid ca
   have Cb := hid cb
   have Htx := hid htx
   have Hty := hid hty
   clear ca cb htx hty hra hrb hp hq
   go_wp2_with fail
   refine wp_region_ordQ [(0, true), (1, true), (2, true), (3, true), (4, true), (5, true), (6, true), (7, true), (8, true)] (fun w' => Keep Noth w w') follows_mixed (by kernel_rfl) HK.drew ?_
   simp only [List.map_cons, List.map_nil, List.getElem?_cons_succ, List.getElem?_cons_zero, Option.getD_some]
   refine wpO_pure (v := .slice (some ⟨ga, oa, none⟩) x.length c) (by rfl) (fun w' hw' => by rfl) ?_
   go_frame
   refine wpO_pure (v := .int .i64 (k : Int)) (by rfl) (fun w' hw' => by rfl) ?_
   go_frame
   refine wpO_pure (v := .pointer (some ⟨ga, oa + k, none⟩)) (by rfl) (fun w' hw' => by go_simp) ?_
   go_frame
   refine wpO_pure (v := .int .u8 (p.toNat : Int)) (by rfl) (fun w' hw' => by have hc : w'.cell? ⟨ga, oa + k, none⟩ = some (.int .u8 (p.toNat : Int)) := Ca.out w' hw'; go_simp) ?_
   go_frame
   refine wpO_pure (v := .slice (some ⟨gb, ob, none⟩) y.length d) (by rfl) (fun w' hw' => by rfl) ?_
   go_frame
   refine wpO_pure (v := .int .i64 (k : Int)) (by rfl) (fun w' hw' => by rfl) ?_
   go_frame
   refine wpO_pure (v := .pointer (some ⟨gb, ob + k, none⟩)) (by rfl) (fun w' hw' => by go_simp) ?_
   go_frame
   refine wpO_pure (v := .int .u8 (q.toNat : Int)) (by rfl) (fun w' hw' => by have hc : w'.cell? ⟨gb, ob + k, none⟩ = some (.int .u8 (q.toNat : Int)) := Cb.out w' hw'; go_simp) ?_
   go_frame
   refine wpO_pure (v := .bool ((p.toNat : Int) != (q.toNat : Int))) (by rfl) (fun w' hw' => by go_simp) ?_
   refine wpO_nil ?_
   go_frame
   have HKd := HK.drew
   clear HK Ca Cb
   by_cases hpq : p = q
   ·have hz : ((p.toNat : Int) != (q.toNat : Int)) = false := by rw [hpq]; simp
    rw [hz]
    have Hpq := hid hpq
    clear hpq hz
    go_wp2_with fail
    go_roundw
    case rel => exact ⟨k + 1, by go_num, hlt, by rw [Htx.out, Hty.out, Heq.out, Hpq.out], HKd⟩
    case measure => simp [intOf]; omega
   ·have hz : ((p.toNat : Int) != (q.toNat : Int)) = true := by
     have : p.toNat ≠ q.toNat := fun e => hpq (UInt8.toNat_inj.1 e)
     simp; omega
    rw [hz]
    have hf : (x == y) = false := by
     cases h : x == y with
     | false => rfl
     | true =>
      exfalso
      have e := eq_of_beq h
      have h1 := Htx.out
      rw [e, Hty.out, ← e, Heq.out] at h1
      have := List.append_cancel_left h1
      injection this with this
      exact hpq this.symm
    have Hf := hid hf
    clear hpq hz hf
    go_wp2_with fail
    go_ret
    exact ⟨by rw [Hf.out]; rfl, HKd⟩
  ·have hge : k = x.length := by omega
   have hxy : (x == y) = true := by
    have h1 := Heq.out
    rw [hge, List.take_length, Hl.out, List.take_length] at h1
    rw [h1]; simp
   have Hxy := hid hxy
   subst hge
   clear hxy
   go_wp2_with fail
   go_ret
   exact ⟨by rw [Hxy.out]; rfl, HK⟩
def recB (D : DS) (k j : Nat) : List UInt8 := ((List.range j).map fun i => D.at (k + i)).flatten
def recJ (n left : Nat) : Nat := min left (max 1 ((n + 65) / 64))
/-- A record, read from one block on, of so many that are left. -/
def recF (D : DS) (k left : Nat) : Option (List UInt8) :=
 if left = 0 then none else
 let n := getN ((D.at k).take 2)
 let B := recB D k (recJ n left)
 if 4000 < n ∨ B.length < n + 2 then none
 else if (B.drop (n + 2)).any (fun x => x != 0) then none else some ((B.drop 2).take n)
theorem recB_succ (D : DS) (k j : Nat) : recB D k (j + 1) = recB D k j ++ D.at (k + j) := by simp [recB, List.range_succ]
theorem at_64 {D : DS} (hok : D.ok) (k : Nat) (hk : k < D.l.length) : (D.at k).length = 64 := by
 have := at_length hok k hk D.row.length; rw [List.take_length] at this; exact this
theorem recB_length {D : DS} (hok : D.ok) (k : Nat) : ∀ j, k + j ≤ D.l.length → (recB D k j).length = 64 * j
 | 0, _ => rfl
 | j + 1, h => by rw [recB_succ, List.length_append, recB_length hok k j (by omega), at_64 hok _ (by omega)]; omega
theorem cut_lo {P : Program} (t e : TypeId) (kl : IntKind) {z : Option Value} {bytes : Nat} (ht : P.underlying t = some (.slice e)) (hi : (P.info? e).map (fun i => (i.zero, i.size, i.bytes)) = some (z, 1, bytes)) (ad : Addr) (n c l : Nat) (hl : l ≤ n) :
  ∃ ad' : Addr, (∀ W : World, (Instr.sliceAt t (.slice (some ad) n c) (some (.int kl (l : Int))) none none).run P W = .ok (.slice (some ad') (n - l) (c - l)) W) ∧
   ∀ (w : World) (cs : List Value), cs.length ≤ c → Reads w (some ad) cs → Reads w (some ad') (cs.drop l) := by
 refine ⟨if c = l then ad else ad.add l, fun W => ?_, fun w cs hc h => ?_⟩
 ·have hel : P.elem t = e := by simp [Program.elem, ht]
  have hu : P.underlying t = some (.slice (P.elem t)) := by rw [hel]; exact ht
  cases hq : P.info? e with
  | none => simp [hq] at hi
  | some i =>
   have hs : i.size = 1 := by simp [hq] at hi; exact hi.2.1
   rw [run_sliceAt_slice W t _ _ _ _ hu, run_slice_l W t (some ad) n c hu kl (l : Int) (Int.natCast_nonneg _) (by omega), hel]
   simp [sizeOf, typeInfo, hq, hs, sliced, Result.andThen]
   split <;> rfl
 ·have := h.drop c l hc
  split <;> simp_all
theorem cut_lh {P : Program} (t e : TypeId) (kl kh : IntKind) {z : Option Value} {bytes : Nat} (ht : P.underlying t = some (.slice e)) (hi : (P.info? e).map (fun i => (i.zero, i.size, i.bytes)) = some (z, 1, bytes)) (ad : Addr) (n c l h : Nat) (hl : l ≤ h) (hh : h ≤ c) :
  ∃ ad' : Addr, (∀ W : World, (Instr.sliceAt t (.slice (some ad) n c) (some (.int kl (l : Int))) (some (.int kh (h : Int))) none).run P W = .ok (.slice (some ad') (h - l) (c - l)) W) ∧
   ∀ (w : World) (cs : List Value), cs.length ≤ c → Reads w (some ad) cs → Reads w (some ad') (cs.drop l) := by
 refine ⟨if c = l then ad else ad.add l, fun W => ?_, fun w cs hc h => ?_⟩
 ·have hel : P.elem t = e := by simp [Program.elem, ht]
  have hu : P.underlying t = some (.slice (P.elem t)) := by rw [hel]; exact ht
  cases hq : P.info? e with
  | none => simp [hq] at hi
  | some i =>
   have hs : i.size = 1 := by simp [hq] at hi; exact hi.2.1
   rw [run_sliceAt_slice W t _ _ _ _ hu, run_slice_lh W t (some ad) n c hu kl kh (l : Int) (h : Int) (Int.natCast_nonneg _) (by omega) (by omega), hel]
   simp [sizeOf, typeInfo, hq, hs, sliced, Result.andThen]
   split <;> rfl
 ·have := h.drop c l hc
  split <;> simp_all
end Go.Proofs.Ytffcglfepobdjaa
set_option maxRecDepth 100000
set_option maxHeartbeats 2000000
namespace Go.Proofs.Ytffcglfepobdjaa
open Go.RowKit
theorem recF_eq {D : DS} {k left n j : Nat} (h0 : left ≠ 0) (hn : n = getN ((D.at k).take 2)) (hj : j = recJ n left) :
  recF D k left = if 4000 < n ∨ (recB D k j).length < n + 2 then none else if ((recB D k j).drop (n + 2)).any (fun x => x != 0) then none else some (((recB D k j).drop 2).take n) := by
 subst hn
 subst hj
 unfold recF
 rw [if_neg h0]
theorem Bytes.of_owns {w' : World} {base n : Nat} {v : Value} {B : List UInt8} (h : w'.ownsRow base 5 1 v n (bv B)) (hn : n = B.length) : Bytes w' (fun q => base ≤ q ∧ q < w'.heap.size) v B := by
 subst hn
 refine ⟨⟨?_, ?_⟩, u1_each B, fun q hq => ?_⟩
 ·rw [u1_flatten, bv_length, u1_length, Nat.mul_one]
 ·rcases h.2 with ⟨h1, h2⟩ | ⟨g, cap, cur, h1, h2, h3⟩
  ·exact .inl ⟨h1, by rw [u1_length]; exact h2⟩
  ·refine .inr ⟨g, cap, cur, by rw [u1_length]; exact h1, Nat.zero_le _, ?_⟩
   rw [u1_length, u1_flatten]; exact h3
 ·rcases h.2 with ⟨h1, h2⟩ | ⟨g, cap, cur, h1, h2, h3, _⟩
  ·rw [h1] at hq; cases hq
  ·rw [h1] at hq
   injection hq with hq
   have hq : g = q := hq
   subst hq
   exact ⟨h2, (Array.getElem?_eq_some_iff.1 h3).1⟩
/-- The bytes that have been read: i + 1 blocks. -/
def RecSt (w : World) (D : DS) (k b0 i : Nat) (v : Value) (wr : World) : Prop :=
 (i = 0 ∧ v = .slice (some ⟨b0, 0, none⟩) 64 64 ∧ BlockIs wr b0 (bv (D.at k)) 103) ∨ (1 ≤ i ∧ Bytes wr (Fresh w wr) v (recB D k (i + 1)))
theorem RecSt.read {w : World} {D : DS} {k b0 i : Nat} {v : Value} {wr : World} (hok : D.ok) (h : k + (i + 1) ≤ D.l.length) (H : RecSt w D k b0 i v wr) :
  ∃ ad c, v = .slice (some ad) (64 * (i + 1)) c ∧ 64 * (i + 1) ≤ c ∧ Reads wr (some ad) (bv (recB D k (i + 1))) := by
 have hl := recB_length hok k (i + 1) h
 rcases H with ⟨rfl, rfl, hB⟩ | ⟨h1, HR⟩
 ·refine ⟨_, _, rfl, Nat.le_refl _, ?_⟩
  have e : recB D k (0 + 1) = D.at k := by simp [recB]
  rw [e]
  exact Reads.of_range hB.rangeAll
 ·obtain ⟨A, c, hv⟩ := HR.valm
  rw [hl] at hv
  subst hv
  obtain ⟨q, rfl⟩ := HR.some_at (by rw [u1_length, hl]; omega)
  have hc := HR.cap_le
  rw [u1_length, hl] at hc
  exact ⟨_, _, rfl, hc, Bytes.same_as HR⟩
theorem recJ_end {n left i : Nat} (hl : i + 1 ≤ left) (h : ¬ (64 * (i + 1) < n + 2 ∧ 64 * (i + 1) < left * 64)) (h3 : i = 0 ∨ 64 * i < n + 2) : i + 1 = recJ n left := by unfold recJ; omega
theorem record_calls {w : World} {F : Nat → Prop} {g : Nat} {vl vr : Value} {D : DS} (hD : DevAt w F g vl vr D) (hd : D.down = false) (hok : D.ok) (hr : D.row.length ≤ 1099511627776) (k left : Nat) (hk : k + left ≤ D.l.length) :
  Calls Try.prog 97 #[.pointer (some ⟨g, 0, none⟩), .int .i64 (k : Int), .int .i64 (left : Int)] w (fun e w' => ∃ v, e = .returned (.tuple #[v, .bool (recF D k left).isSome]) ∧ (∀ r, recF D k left = some r → Bytes w' (Fresh w w') v r) ∧ Keep Noth w w') := by
 have hmost := hok.most
 obtain ⟨i5, hi5, hz50, hz51, hz52⟩ := info_parts info5
 have Hi5 := hid hi5
 have Hz0 := hid hz50
 have Hz1 := hid hz51
 have Hz2 := hid hz52
 clear hi5 hz50 hz51 hz52
 by_cases h0 : left = 0
 ·have hz : (left : Int) < 1 := by omega
  have hF : recF D k left = none := by unfold recF; rw [if_pos h0]
  rw [hF]
  clear h0 hF
  go_enter Try.func97, Try.ntmps97
  go_wp2_with fail
  go_ret2
  exact ⟨_, rfl, (fun r h => by cases h), Keep.refl _ _⟩
 have hz : ¬ (left : Int) < 1 := by omega
 have hleftI : (left : Int) ≤ 4096 := by omega
 have hkI : (k : Int) ≤ 4096 := by omega
 obtain ⟨n, hn⟩ : ∃ n, n = getN ((D.at k).take 2) := ⟨_, rfl⟩
 have h64 := at_64 hok k (by omega)
 have h2 : ((D.at k).take 2).length = 2 := by rw [List.length_take]; omega
 have hnb : n < 65536 := by rw [hn]; have := getN_lt ((D.at k).take 2); rw [h2] at this; omega
 have hnI : (n : Int) < 65536 := by omega
 have hrd := read_ok hD hd hok hr k (by omega)
 have Hnb := hid hnb
 have Hn := hid hn
 have H2 := hid h2
 have HD := hid hD
 clear hn h2 h64 hD h0 hnb
 go_enter Try.func97, Try.ntmps97
 go_wp2_with fail
 refine hrd.mono ?_
 rintro e w1 ⟨b0, rfl, hb0, B1, K1⟩
 clear hrd
 have hget := get_calls w1 (some ⟨b0, 0, none⟩) 64 ((D.at k).take 2) (by
  have h1 := (Reads.of_range B1.rangeAll).take 2
  rw [show List.take 2 (bv (D.at k)) = bv ((D.at k).take 2) by simp [bv, List.map_take]] at h1
  exact h1) (by rw [H2.out]; decide)
 rw [H2.out, ← Hn.out] at hget
 go_wp2_with fail
 refine hget.mono ?_
 rintro e w' ⟨rfl, rfl⟩
 clear hget
 go_wp2_with fail
 go_loopw [1, 8] (fun kv v wr => ∃ i : Nat, kv = .int .i64 ((k : Int) + i) ∧ i + 1 ≤ left ∧ (i = 0 ∨ 64 * i < n + 2) ∧ RecSt w D k b0 i v wr ∧ Keep Noth w wr) (fun kv _ _ => k + left - (intOf kv).toNat)
 case atStart => exact ⟨0, by go_num, by omega, .inl rfl, .inl ⟨rfl, rfl, B1⟩, K1⟩
 case round =>
  obtain ⟨i, rfl, hil, hi3, HS, HK⟩ := hrel
  obtain ⟨ad, cc, rfl, hcc, hRd⟩ := HS.read hok (by omega)
  have HRd := hid hRd
  have Hi3 := hid hi3
  clear hRd B1 K1 hi3
  by_cases hgo : 64 * (i + 1) < n + 2 ∧ 64 * (i + 1) < left * 64
  ·obtain ⟨hg1, hg2⟩ := hgo
   have hg1' : (64 : Int) * ((i : Int) + 1) < n + 2 := by omega
   have hg2' : (64 : Int) * ((i : Int) + 1) < left * 64 := by omega
   have hrd := read_ok (HD.out.keep HK (Dj.noth _)) hd hok hr (k + (i + 1)) (by omega)
   rw [show ((k + (i + 1) : Nat) : Int) = (k : Int) + i + 1 by push_cast; omega] at hrd
   have hrs := recB_succ D k (i + 1)
   have h64n := at_64 hok (k + (i + 1)) (by omega)
   have hpost : ∀ v3 w2 w3, Keep Noth wr w2 → Keep Noth w2 w3 → Bytes w3 (fun q => w.heap.size ≤ q ∧ q < w3.heap.size) v3 (recB D k (i + 1 + 1)) → ∃ i', Value.int .i64 ((k : Int) + i + 1) = .int .i64 ((k : Int) + (i' : Nat)) ∧ i' + 1 ≤ left ∧ (i' = 0 ∨ 64 * i' < n + 2) ∧ RecSt w D k b0 i' v3 w3 ∧ Keep Noth w w3 := fun v3 w2 w3 K2 K3 HB =>
    ⟨i + 1, by rw [show ((i + 1 : Nat) : Int) = (i : Int) + 1 from rfl, Int.add_assoc], by omega, .inr hg1, .inr ⟨by omega, HB⟩, (HK.trans K2 (fun _ _ h => h)).trans K3 (fun _ _ h => h)⟩
   have Hpost := hid hpost
   have Hrs := hid hrs
   have H64n := hid h64n
   have hsw := HK.size
   clear hpost hrs h64n
   rcases HS with ⟨rfl, hv, hB⟩ | ⟨h1, HR⟩
   ·simp only [Value.slice.injEq, Option.some.injEq] at hv
    obtain ⟨rfl, -, rfl⟩ := hv
    have h640 := at_64 hok k (by omega)
    have H640 := hid h640
    have hq1 : (64 : Int) < (n : Int) + 2 := by omega
    have hq2 : (64 : Int) < (left : Int) * 64 := by omega
    clear h640 hg1 hg2 hg1' hg2' hil hcc
    rw [show ((0 : Nat) : Int) = 0 from rfl, Int.add_zero] at hrd ⊢
    go_wp2_with fail
    refine hrd.mono ?_
    rintro e w2 ⟨b2, rfl, hb2, B2, K2⟩
    clear hrd
    have hB2 := hB.keep K2 id
    have Hw := K2.size
    go_wp2_with (at_builtin; refine wpList_append_arg _ rfl _ _ 33 rfl 5 i5 (.int .u8 0) 1 1 sl33 Hi5.out Hz0.out Hz1.out Hz2.out rfl (by decide) b0 0 64 64 (bv (D.at k)) (by rfl) (by rw [bv_length, H640.out]) (fun j u hj => hB2.rangeAll j u hj) ⟨b2, 0, none⟩ 64 64 (bv (D.at (k + (0 + 1)))) (by rfl) (by rw [bv_length, H64n.out]) (fun j u hj => by rw [Addr.add_mid]; exact B2.rangeAll j u hj) (bv_one _) (fun h => absurd h (by decide)) (by decide) (by decide) (fun h => absurd h (by decide)) (fun _ v3 w3 hown hgrow => ?_))
    have hb : Bytes w3 (fun q => w2.heap.size ≤ q ∧ q < w3.heap.size) v3 (recB D k (0 + 1 + 1)) := by
     rw [Hrs.out]
     refine Bytes.of_owns ?_ (show 64 + 64 = _ from ?_)
     ·rw [bv_append, show recB D k (0 + 1) = D.at k by simp [recB]]; exact hown
     ·rw [List.length_append, show recB D k (0 + 1) = D.at k by simp [recB], H640.out, H64n.out]
    have HP := Hpost.out v3 w2 w3 K2 ((Keep.refl _ _).grown hgrow (fun _ h => by cases h)) (hb.mono (fun q hq => ⟨by omega, hq.2⟩))
    clear hown hgrow hb hB hB2 B2 K2
    go_roundw
    case rel => exact HP
    case measure => simp [intOf]; omega
   ·go_wp2_with fail
    refine hrd.mono ?_
    rintro e w2 ⟨b2, rfl, hb2, B2, K2⟩
    clear hrd
    have Hw := K2.size
    go_wp2_with (at_builtin; refine wpList_append_rows rfl _ _ 33 rfl 5 (.int .u8 0) 1 1 sl33 info5 rfl (by decide) (by decide) _ _ (u1 (recB D k (i + 1))) (u1 (D.at (k + (i + 1)))) (by rfl) (HR.keep K2 (Dj.noth _)) (some ⟨b2, 0, none⟩) 64 64 (by rfl) (by rw [u1_length, H64n.out]) (fun h => by cases h) (u1_each _) (by rw [u1_flatten]; exact Reads.of_range B2.rangeAll) (u1_one _) (by rw [u1_length, recB_length hok k (i + 1) (by omega)]; omega) ?_; intro v3 w3 HR3 K3)
    rw [← u1_append, ← Hrs.out] at HR3
    have hs3 := K3.size
    have hb : Bytes w3 (fun q => w.heap.size ≤ q ∧ q < w3.heap.size) v3 (recB D k (i + 1 + 1)) := HR3.mono (fun q hq => by
     rcases hq with hq | hq
     ·have := HR.foot q hq; exact ⟨this.1, by have := this.2; omega⟩
     ·exact ⟨by omega, hq.2⟩)
    have HP : ∃ i', Value.int .i64 ((k : Int) + i + 1) = .int .i64 ((k : Int) + (i' : Nat)) ∧ i' + 1 ≤ left ∧ (i' = 0 ∨ 64 * i' < n + 2) ∧ RecSt w D k b0 i' v3 w3 ∧ Keep Noth w w3 :=
     ⟨i + 1, by rw [show ((i + 1 : Nat) : Int) = (i : Int) + 1 from rfl, Int.add_assoc], by omega, .inr hg1, .inr ⟨by omega, hb⟩, (HK.trans K2 (fun _ _ h => h)).own K3 (fun q e => (HR.foot q e).1)⟩
    clear HR3 K3 hb HR B2 K2
    go_roundw
    case rel => exact HP
    case measure => simp [intOf]; omega
  ·have hJ := recJ_end hil hgo Hi3.out
   have hlB := recB_length hok k (i + 1) (by omega)
   have hF := recF_eq (D := D) (k := k) (show left ≠ 0 by omega) Hn.out hJ
   rw [hlB] at hF
   clear hJ HS
   by_cases hsh : 64 * (i + 1) < n + 2
   ·have hs1 : (64 : Int) * ((i : Int) + 1) < n + 2 := by omega
    have hs2 : ¬ ((64 : Int) * ((i : Int) + 1) < left * 64) := by omega
    clear hgo
    rw [if_pos (.inr hsh)] at hF
    have Hf := hid hF
    clear hF hlB hsh
    by_cases hn4 : (4000 : Int) < n
    ·go_wp2_with fail
     go_ret2
     rw [Hf.out]
     exact ⟨_, rfl, (fun r h => by cases h), HK⟩
    ·go_wp2_with fail
     go_ret2
     rw [Hf.out]
     exact ⟨_, rfl, (fun r h => by cases h), HK⟩
   ·have hs1 : ¬ ((64 : Int) * ((i : Int) + 1) < n + 2) := by omega
    clear hgo
    by_cases hn4 : 4000 < n
    ·have hn4' : (4000 : Int) < n := by omega
     rw [if_pos (.inl hn4)] at hF
     have Hf := hid hF
     clear hF hlB hsh hn4
     go_wp2_with fail
     go_ret2
     rw [Hf.out]
     exact ⟨_, rfl, (fun r h => by cases h), HK⟩
    ·have hn4' : ¬ (4000 : Int) < n := by omega
     rw [if_neg (by omega)] at hF
     obtain ⟨a1, hc1, hr1⟩ := cut_lo (P := Try.prog) 33 5 .i64 sl33 info5 ad (64 * (i + 1)) cc (n + 2) (by omega)
     obtain ⟨a2, hc2, hr2⟩ := cut_lh (P := Try.prog) 33 5 .i64 .i64 sl33 info5 ad (64 * (i + 1)) cc 2 (n + 2) (by omega) (by omega)
     have hR1 := hr1 wr _ (by rw [bv_length, hlB]; exact hcc) HRd.out
     have hR2 := hr2 wr _ (by rw [bv_length, hlB]; exact hcc) HRd.out
     rw [show (bv (recB D k (i + 1))).drop (n + 2) = bv ((recB D k (i + 1)).drop (n + 2)) by simp [bv, List.map_drop]] at hR1
     rw [show (bv (recB D k (i + 1))).drop 2 = bv ((recB D k (i + 1)).drop 2) by simp [bv, List.map_drop]] at hR2
     have hct := contains_calls wr (some a1) (cc - (n + 2)) _ hR1 (by rw [List.length_drop, hlB]; omega)
     have hl2 : (((recB D k (i + 1)).drop 2).take n).length = n := by rw [List.length_take, List.length_drop, hlB]; omega
     have hcl := clone75_calls wr (some a2) (cc - 2) (((recB D k (i + 1)).drop 2).take n) (by
      have := hR2.take n
      rw [show (bv ((recB D k (i + 1)).drop 2)).take n = bv (((recB D k (i + 1)).drop 2).take n) by simp [bv, List.map_take]] at this
      exact this) (fun h => by cases h) (by rw [hl2]; omega)
     rw [List.length_drop, hlB] at hct
     rw [hl2] at hcl
     have Hc1 := hid hc1
     have Hc2 := hid hc2
     have hn2 : ((n + 2 : Nat) : Int) = (n : Int) + 2 := by push_cast; rfl
     have Hn2 := hid hn2
     have HF := hid hF
     clear hc1 hc2 hr1 hr2 hR1 hR2 hF hn2 hn4 hsh hl2
     go_wp2_with (guard_target = wpList _ _ _ (Oper.mk _ (Op.slice _ _ _ _ _) _ _ _ _ :: _) _ _; refine wpList_run rfl _ _ (exec_sliceAt 33 _ _ _ rfl (by rfl) (by rfl) (by rfl) (Hc1.out wr)) ?_)
     refine hct.mono ?_
     rintro e w' ⟨rfl, rfl⟩
     go_wp2_with (guard_target = wpList _ _ _ (Oper.mk _ (Op.slice _ _ _ _ _) _ _ _ _ :: _) _ _; refine wpList_run rfl _ _ (exec_sliceAt 33 _ _ _ rfl (by rfl) (by rfl) (by rfl) (Hc2.out wr)) ?_)
     obtain ⟨an, han⟩ : ∃ an, an = ((recB D k (i + 1)).drop (n + 2)).any (fun x => x != 0) := ⟨_, rfl⟩
     rw [← han]
     have Han := hid han
     clear han hct
     refine hcl.mono ?_
     rintro e w2 ⟨v2, rfl, HB, K2⟩
     have HBf : Bytes w2 (Fresh w w2) v2 (((recB D k (i + 1)).drop 2).take n) := HB.mono (fun q hq => ⟨Nat.le_trans HK.size hq.1, hq.2⟩)
     have HKf := HK.trans K2 (fun _ _ h => h)
     cases an with
     | true =>
      have hf : recF D k left = none := by rw [HF.out, if_pos Han.out.symm]
      have Hf := hid hf
      clear hf hcl HB K2
      go_wp2_with fail
      go_ret2
      rw [Hf.out]
      exact ⟨_, rfl, (fun r h => by cases h), HKf⟩
     | false =>
      have hf : recF D k left = some (((recB D k (i + 1)).drop 2).take n) := by rw [HF.out, if_neg (by rw [← Han.out]; decide)]
      have Hf := hid hf
      clear hf hcl HB K2
      go_wp2_with fail
      go_ret2
      rw [Hf.out]
      exact ⟨_, rfl, (fun r h => by injection h with h; subst h; exact HBf), HKf⟩
end Go.Proofs.Ytffcglfepobdjaa
set_option maxRecDepth 10000
set_option maxHeartbeats 1500000
namespace Go.Proofs.Ytffcglfepobdjaa
open Go.RowKit
theorem sl63 : Try.prog.underlying 63 = some (.slice 33) := by kernel_rfl
theorem info33 : (Try.prog.info? 33).map (fun i => (i.zero, i.size, i.bytes)) = some (some (.slice none 0 0), 1, 24) := by kernel_rfl
theorem info63 : (Try.prog.info? 63).map (fun i => (i.zero, i.size, i.bytes)) = some (some (.slice none 0 0), 1, 24) := by kernel_rfl
theorem info110 : (Try.prog.info? 110).map (fun i => (i.zero, i.size, i.bytes)) = some (some (.int .u64 0), 1, 8) := by kernel_rfl
def zhead : List Value := [.int .u64 0, .int .i64 0, .int .i64 0, .int .i64 0]
theorem info112 : (Try.prog.info? 112).map (fun i => (i.zero, i.size, i.bytes)) = some (some (.agg zhead.toArray), 4, 32) := by kernel_rfl
/-- Records of one's own. -/
def Recs (w : World) (F : Nat → Prop) (v : Value) (l : List (List UInt8)) : Prop :=
 ∃ es : List (Value × List UInt8), l = es.map (fun e => e.2) ∧ Rows w F 33 1 v (es.map fun e => [e.1]) ∧ ∀ e ∈ es, Bytes w F e.1 e.2
theorem Recs.nil (w : World) (F : Nat → Prop) : Recs w F (.slice none 0 0) [] := ⟨[], rfl, Rows.nil _ _ _ _, fun e he => by cases he⟩
theorem Recs.keep {w w' : World} {F G : Nat → Prop} {v : Value} {l : List (List UInt8)} (h : Recs w F v l) (hk : Keep G w w') (hd : Dj F G) : Recs w' F v l := by
 obtain ⟨es, h1, h2, h3⟩ := h
 exact ⟨es, h1, h2.keep hk hd, fun e he => (h3 e he).keep hk hd⟩
theorem Recs.mono {w : World} {F G : Nat → Prop} {v : Value} {l : List (List UInt8)} (h : Recs w F v l) (hG : ∀ k, F k → G k) : Recs w G v l := by
 obtain ⟨es, h1, h2, h3⟩ := h
 exact ⟨es, h1, h2.mono hG, fun e he => (h3 e he).mono hG⟩
theorem Recs.val {w : World} {F : Nat → Prop} {v : Value} {l : List (List UInt8)} (h : Recs w F v l) : ∃ A c, v = .slice A l.length c := by
 obtain ⟨es, h1, h2, h3⟩ := h
 obtain ⟨A, c, hv⟩ := h2.valm
 exact ⟨A, c, by rw [hv, h1, List.length_map]⟩
theorem Recs.one_val {w : World} {F : Nat → Prop} {v : Value} {l : List (List UInt8)} (h : Recs w F v l) : v.oneCell' = true ∧ v.cells = #[v] := by
 obtain ⟨es, h1, h2, h3⟩ := h
 exact h2.one_val
/-- Behind a step that turns one block of another type. -/
theorem Recs.stay {w w' : World} {F : Nat → Prop} {v : Value} {l : List (List UInt8)} {b : Nat} {cs : List Value} {t : TypeId} (h : Recs w F v l) (B : BlockIs w b cs t) (h1 : (33 : TypeId) ≠ t) (h2 : (5 : TypeId) ≠ t) (K : Keep (Only b) w w') : Recs w' F v l := by
 obtain ⟨es, e1, e2, e3⟩ := h
 exact ⟨es, e1, e2.stay K (fun q hq e => e2.ne B h1 (by unfold Only at e; rw [hq, e])), fun e he => (e3 e he).stay K (fun q hq e' => (e3 e he).ne B h2 (by unfold Only at e'; rw [hq, e']))⟩
structure Hd where
 seq : Nat
 area : Nat
 used : Nat
 count : Nat
def Hd.cells (h : Hd) : List Value := [.int .u64 (h.seq : Int), .int .i64 (h.area : Int), .int .i64 (h.used : Int), .int .i64 (h.count : Int)]
def hdOf (b : Bk) : Hd := ⟨getN (b.take 8), (b.getD 8 0).toNat, getN ((b.drop 9).take 4), getN ((b.drop 13).take 4)⟩
def Hd.bytes (h : Hd) : List UInt8 := headB h.seq h.area h.used h.count
/-- A head whose own bytes are as they must be. -/
def hdOk (D : DS) (b : Bk) : Bool := decide (1 ≤ (hdOf b).seq ∧ (hdOf b).seq < 1099511627776 ∧ (hdOf b).area ≤ 1 ∧ (hdOf b).used ≤ D.half) && (b == (hdOf b).bytes)
/-- So many records, read from an area's first block on; and how many blocks they took. -/
def recsL (D : DS) (f used : Nat) : Nat → Option (List (List UInt8) × Nat)
 | 0 => some ([], 0)
 | c + 1 => match recsL D f used c with
  | none => none
  | some (l, a) => match recF D (f + a) (used - a) with
   | none => none
   | some r => some (l ++ [r], a + blocksN r)
def holdsF (D : DS) (k : Nat) : Option (Hd × List (List UInt8)) :=
 if hdOk D (D.at k) then
  match recsL D (2 + (hdOf (D.at k)).area * D.half) (hdOf (D.at k)).used (hdOf (D.at k)).count with
  | some (l, a) => if a = (hdOf (D.at k)).used then some (hdOf (D.at k), l) else none
  | none => none
 else none
theorem recF_blocks {D : DS} (hok : D.ok) {k left : Nat} (hk : k + left ≤ D.l.length) {r : List UInt8} (h : recF D k left = some r) : 1 ≤ blocksN r ∧ blocksN r ≤ left ∧ r.length ≤ 4000 := by
 by_cases h0 : left = 0
 ·unfold recF at h; rw [if_pos h0] at h; cases h
 ·rw [recF_eq h0 rfl rfl] at h
  have hj : recJ (getN ((D.at k).take 2)) left ≤ left := by unfold recJ; omega
  rw [recB_length hok _ _ (by omega)] at h
  split at h
  ·cases h
  ·rename_i h1
   split at h
   ·cases h
   ·injection h with h
    have hl : r.length = getN ((D.at k).take 2) := by rw [← h, List.length_take, List.length_drop, recB_length hok _ _ (by omega)]; omega
    unfold blocksN
    rw [hl]
    omega
theorem recsL_le {D : DS} (hok : D.ok) {f used : Nat} (hf : f + used ≤ D.l.length) : ∀ c l a, recsL D f used c = some (l, a) → a ≤ used ∧ l.length = c ∧ ∀ r ∈ l, r.length ≤ 4000
 | 0, l, a, h => by
  simp only [recsL, Option.some.injEq, Prod.mk.injEq] at h
  obtain ⟨rfl, rfl⟩ := h
  exact ⟨Nat.zero_le _, rfl, fun r hr => by cases hr⟩
 | c + 1, l, a, h => by
  simp only [recsL] at h
  split at h
  ·cases h
  ·rename_i l0 a0 h0
   obtain ⟨i1, i2, i3⟩ := recsL_le hok hf c l0 a0 h0
   split at h
   ·cases h
   ·rename_i r hr
    simp only [Option.some.injEq, Prod.mk.injEq] at h
    obtain ⟨rfl, rfl⟩ := h
    have hb := recF_blocks hok (by omega) hr
    refine ⟨by omega, by rw [List.length_append, i2]; rfl, fun x hx => ?_⟩
    rcases List.mem_append.1 hx with hx | hx
    ·exact i3 x hx
    ·rw [List.mem_singleton.1 hx]; exact hb.2.2
theorem wrapI {n : Int} (h0 : 0 ≤ n) (h1 : n < 9223372036854775808) : IntKind.i64.wrap n = n := by
 have : n % 2 ^ 64 = n := Int.emod_eq_of_lt h0 (by omega)
 simp only [IntKind.wrap, IntKind.bits, IntKind.signed, this]
 rw [if_neg]
 simp
 omega
theorem recsL_none {D : DS} {f used i : Nat} (h : recsL D f used i = none) : ∀ j, i ≤ j → recsL D f used j = none
 | 0, hj => by
  obtain rfl : i = 0 := by omega
  exact h
 | j + 1, hj => by
  rcases Nat.lt_or_ge j i with hl | hl
  ·obtain rfl : i = j + 1 := by omega
   exact h
  ·simp only [recsL, recsL_none h j hl]
theorem recsL_some {D : DS} {f used i : Nat} {l : List (List UInt8)} {a : Nat} {r : List UInt8} (h : recsL D f used i = some (l, a)) (hr : recF D (f + a) (used - a) = some r) : recsL D f used (i + 1) = some (l ++ [r], a + blocksN r) := by simp only [recsL, h, hr]
theorem recsL_no {D : DS} {f used i : Nat} {l : List (List UInt8)} {a : Nat} (h : recsL D f used i = some (l, a)) (hr : recF D (f + a) (used - a) = none) : recsL D f used (i + 1) = none := by simp only [recsL, h, hr]
section
variable {P : Program} {ops : Array Oper} {rest : List Oper} {o : Oper} {a : Act} {w : World} {Q : Exit → Act → World → Prop}
/-- One more record, of a block of one cell. -/
theorem wpList_append_rec (hu : P.underlying 63 = some (.slice 33)) (hin : (P.info? 33).map (fun i => (i.zero, i.size, i.bytes)) = some (some (.slice none 0 0), 1, 24)) (hgd : o.guard = none) (s x : Operand) (ho : o.op = .call { callee := .builtin .append, args := #[s, x], argTypes := #[63, 63] })
  (F G : Nat → Prop) (v xv : Value) (l : List (List UInt8)) (r : List UInt8) (hs : a.eval s = v) (H : Recs w F v l) (b : Nat) (hx : a.eval x = .slice (some ⟨b, 0, none⟩) 1 1) (HB : BlockIs w b [xv] 33) (Hx : Bytes w G xv r) (hl : l.length ≤ 1099511627776)
  (h : ∀ v' w', Recs w' (fun k => F k ∨ G k ∨ (w.heap.size ≤ k ∧ k < w'.heap.size)) v' (l ++ [r]) → Keep (fun k => v.ownBlock = some k) w w' → (∀ q, v.ownBlock = some q → F q) → wpList P ops Q rest (a.put o.dst v') w') : wpList P ops Q (o :: rest) a w := by
 obtain ⟨es, e1, e2, e3⟩ := H
 refine wpList_append_rows hgd s x 63 ho 33 (.slice none 0 0) 1 24 hu hin rfl (by decide) (by decide) F v _ [[xv]] hs e2 (some ⟨b, 0, none⟩) 1 1 hx rfl (fun e => by cases e) (by simp) (by simpa using Reads.of_range HB.rangeAll) (by simpa using Hx.one_val.1) (by rw [List.length_map]; rw [e1, List.length_map] at hl; omega) ?_
 intro v' w' R K
 have f3 : ∀ e ∈ es, Bytes w' F e.1 e.2 := fun e he => (e3 e he).stay K (fun q hq e' => (e3 e he).ne2 e2 (by decide) q hq e')
 have fx : Bytes w' G xv r := Hx.stay K (fun q hq e' => Hx.ne2 e2 (by decide) q hq e')
 refine h v' w' ⟨es ++ [(xv, r)], by rw [List.map_append, e1]; rfl, ?_, fun e he => ?_⟩ K e2.foot
 ·rw [List.map_append]
  exact R.mono (fun q hq => hq.elim (fun e => .inl (e2.foot q e)) (fun e => .inr (.inr e)))
 ·rcases List.mem_append.1 he with he | he
  ·exact (f3 e he).mono (fun q hq => .inl hq)
  ·rw [List.mem_singleton.1 he]; exact fx.mono (fun q hq => .inr (.inl hq))
end
theorem ret_cell_tmp2 {P : Program} {a : Act} {w : World} {fn : Func} {R : Ending → World → Prop} {p u v : Tmp} {ty : TypeId} (h : fn.results = #[.cell p ty, .tmp u, .tmp v]) (b : Nat) (cs : List Value) (t : TypeId) (d : TypeDesc) (x y : Value) {z : Option Value} {bytes : Nat}
  (hx : a.tmps.getD p undef = .pointer (some ⟨b, 0, none⟩)) (hy : a.tmps.getD u undef = x) (hz : a.tmps.getD v undef = y) (hB : BlockIs w b cs t) (hu : P.underlying ty = some d) (hd : d.isRow = true) (hi : (P.info? ty).map (fun i => (i.zero, i.size, i.bytes)) = some (z, cs.length, bytes))
  (hdf : a.defers = []) (hR : R (.returned (.tuple #[.agg cs.toArray, x, y])) w) : bodyPost P fn R .ret a w := by
 refine bodyPost_ret (v := .tuple #[.agg cs.toArray, x, y]) ?_ hdf hR
 have hl := run_loadVar_mid w b 0 ty cs d hB.rangeAll hu hd (info_size hi)
 have hx' : a.tmps[p]?.getD undef = .pointer (some ⟨b, 0, none⟩) := by simpa using hx
 have hy' : a.tmps[u]?.getD undef = x := by simpa using hy
 have hz' : a.tmps[v]?.getD undef = y := by simpa using hz
 simp [results, h, hx', hy', hz', asAddr, Sem.run_bind, hl, Result.andThen]
theorem exec_store_blk {P : Program} {a : Act} {w : World} {o : Oper} (ty : TypeId) (x y : Operand) (ho : o.op = .store ty x y) (b : Nat) (zs cs : List Value) (t : TypeId) {z : Option Value} {bytes : Nat}
  (hx : a.eval x = .pointer (some ⟨b, 0, none⟩)) (hy : a.eval y = .agg cs.toArray) (hb : BlockIs w b zs t) (hl : cs.length = zs.length) (hi : (P.info? ty).map (fun i => (i.zero, i.size, i.bytes)) = some (z, cs.length, bytes)) (h1 : ∀ u ∈ cs, u.oneCell' = true) :
  ∃ w1, (execOp a.eval o).run P w = .ok .skip w1 ∧ BlockIs w1 b cs t ∧ Keep (Only b) w w1 := by
 refine ⟨w.setCells b 0 cs, ?_, ?_, Keep.setCells _ _ (Keep.refl _ _) (fun _ => rfl)⟩
 ·have hr := run_store_there (P := P) ty b 0 cs (hb.there 0 _ (by omega)) hi h1
  simp [execOp, ho, hx, hy, hr, Result.andThen]
 ·have := BlockIs.setCells cs 0 w zs hb (by omega)
  rwa [splice_whole _ _ hl] at this
theorem wpO_store_blk {P : Program} {ops : Array Oper} {Q : Act → World → Prop} {S : World → Prop} {r : List (Oper × Bool)} {o : Oper} {a : Act} {w : World} (hg : Region.wanted o (yielded ops a.tmps) = true) (ty : TypeId) (x y : Operand) (ho : o.op = .store ty x y) (b : Nat) (zs cs : List Value) (t : TypeId) {z : Option Value} {bytes : Nat}
  (hx : a.eval x = .pointer (some ⟨b, 0, none⟩)) (hy : a.eval y = .agg cs.toArray) (hb : BlockIs w b zs t) (hl : cs.length = zs.length) (hi : (P.info? ty).map (fun i => (i.zero, i.size, i.bytes)) = some (z, cs.length, bytes)) (h1 : ∀ u ∈ cs, u.oneCell' = true)
  (h : ∀ w1, BlockIs w1 b cs t → Keep (Only b) w w1 → (r = [] ∨ S w1) ∧ wpO P ops Q S r (a.put o.dst undef) w1) : wpO P ops Q S ((o, false) :: r) a w := by
 obtain ⟨w1, e1, e2, e3⟩ := exec_store_blk ty x y ho b zs cs t hx hy hb hl hi h1
 exact wpO_store hg e1 (h w1 e2 e3).1 (h w1 e2 e3).2
end Go.Proofs.Ytffcglfepobdjaa
set_option maxHeartbeats 2000000
namespace Go.Proofs.Ytffcglfepobdjaa
open Go.RowKit
theorem build112 (a b c d : Int) (W : World) : (Instr.build 112 #[(0, .int .u64 a), (1, .int .i64 b), (2, .int .i64 c), (3, .int .i64 d)]).run Try.prog W = .ok (.agg [.int .u64 a, .int .i64 b, .int .i64 c, .int .i64 d].toArray) W := by kernel_rfl
theorem exec_build112 {a : Act} {w : World} {o : Oper} (x y z u : Operand) (ho : o.op = .build 112 #[(0, x), (1, y), (2, z), (3, u)]) (i j k l : Int) (hx : a.eval x = .int .u64 i) (hy : a.eval y = .int .i64 j) (hz : a.eval z = .int .i64 k) (hu : a.eval u = .int .i64 l) :
  (execOp a.eval o).run Try.prog w = .ok (.value (.agg [.int .u64 i, .int .i64 j, .int .i64 k, .int .i64 l].toArray)) w := by
 unfold execOp
 simp only [ho, List.map_toArray, List.map_cons, List.map_nil, hx, hy, hz, hu, Sem.run_bind, Sem.run_pure, Result.andThen_ok, build112 i j k l]
theorem build112z (W : World) : (Instr.build 112 #[]).run Try.prog W = .ok (.agg zhead.toArray) W := by kernel_rfl
/-- What holds tells. -/
def HoldsPost (w : World) (D : DS) (k : Nat) (e : Ending) (w' : World) : Prop :=
 ∃ (h : Hd) (vl : Value), e = .returned (.tuple #[.agg h.cells.toArray, vl, .bool (holdsF D k).isSome]) ∧ (∃ A n c, vl = .slice A n c) ∧ (∀ h' l, holdsF D k = some (h', l) → h = h' ∧ Recs w' (Fresh w w') vl l) ∧ Keep Noth w w'
theorem hd_one (h : Hd) : ∀ u ∈ h.cells, u.oneCell' = true := by
 intro u hu
 simp only [Hd.cells, List.mem_cons, List.not_mem_nil, or_false] at hu
 rcases hu with rfl | rfl | rfl | rfl <;> rfl
theorem get_part {b7 : Nat} {B : Bk} (h64 : B.length = 64) (off n c : Nat) (hn : n ≤ 8) (ho : off + n ≤ 64) (W : World) (HB : BlockIs W b7 (bv B) 103) :
  Calls Try.prog 90 #[.slice (some ⟨b7, off, none⟩) n c] W (fun e w' => e = .returned (.int .u64 (getN ((B.drop off).take n) : Int)) ∧ W = w') := by
 have hl : ((B.drop off).take n).length = n := by rw [List.length_take, List.length_drop]; omega
 have := get_calls W (some ⟨b7, off, none⟩) c ((B.drop off).take n) (Reads.of_range (fun j v hj => by
  rw [HB.cell]
  have h1 : j < n := by rw [← hl]; have := (List.getElem?_eq_some_iff.1 hj).1; rwa [bv_length] at this
  unfold bv at hj ⊢
  rw [List.map_take, List.map_drop, List.getElem?_take, if_pos h1, List.getElem?_drop] at hj
  exact hj)) (by rw [hl]; exact hn)
 rw [hl] at this
 exact this
theorem holds_calls {w : World} {F : Nat → Prop} {g : Nat} {vl vr : Value} {D : DS} (hD : DevAt w F g vl vr D) (hd : D.down = false) (hok : D.ok) (hr : D.row.length ≤ 1099511627776) (k : Nat) (hk : k < D.l.length) (hc4 : 4 ≤ D.l.length) :
  Calls Try.prog 77 #[.pointer (some ⟨g, 0, none⟩), .int .i64 (k : Int)] w (HoldsPost w D k) := by
 have hmost := hok.most
 have hkI : (k : Int) ≤ 4096 := by omega
 have h64 := at_64 hok k hk
 obtain ⟨B, hB⟩ : ∃ B, B = D.at k := ⟨_, rfl⟩
 obtain ⟨h, hh⟩ : ∃ h, h = hdOf B := ⟨_, rfl⟩
 rw [← hB] at h64
 have hsq := getN_lt (B.take 8)
 have hus := getN_lt ((B.drop 9).take 4)
 have hct := getN_lt ((B.drop 13).take 4)
 rw [show (B.take 8).length = 8 by rw [List.length_take]; omega] at hsq
 rw [show ((B.drop 9).take 4).length = 4 by rw [List.length_take, List.length_drop]; omega] at hus
 rw [show ((B.drop 13).take 4).length = 4 by rw [List.length_take, List.length_drop]; omega] at hct
 have hs1 : h.seq = getN (B.take 8) := by rw [hh]; rfl
 have hs2 : h.used = getN ((B.drop 9).take 4) := by rw [hh]; rfl
 have hs3 : h.count = getN ((B.drop 13).take 4) := by rw [hh]; rfl
 have hs4 : h.area = (B.getD 8 0).toNat := by rw [hh]; rfl
 have hseq : h.seq < 18446744073709551616 := by rw [hs1]; exact hsq
 have huse : h.used < 4294967296 := by rw [hs2]; exact hus
 have hcnt : h.count < 4294967296 := by rw [hs3]; exact hct
 have hare : h.area < 256 := by rw [hs4]; exact UInt8.toNat_lt _
 have q1 := fun b7 => @get_part b7 B h64
 have Q1 : Hid (∀ (b7 : Nat) W, BlockIs W b7 (bv B) 103 → Calls Try.prog 90 #[.slice (some ⟨b7, 0, none⟩) 8 64] W (fun e w' => e = .returned (.int .u64 (h.seq : Int)) ∧ W = w')) := hid (fun b7 W HB => by have := q1 b7 0 8 64 (by decide) (by decide) W HB; rw [List.drop_zero, ← hs1] at this; exact this)
 have Q2 : Hid (∀ (b7 : Nat) W, BlockIs W b7 (bv B) 103 → Calls Try.prog 90 #[.slice (some ⟨b7, 9, none⟩) 4 55] W (fun e w' => e = .returned (.int .u64 (h.used : Int)) ∧ W = w')) := hid (fun b7 W HB => by have := q1 b7 9 4 55 (by decide) (by decide) W HB; rw [← hs2] at this; exact this)
 have Q3 : Hid (∀ (b7 : Nat) W, BlockIs W b7 (bv B) 103 → Calls Try.prog 90 #[.slice (some ⟨b7, 13, none⟩) 4 51] W (fun e w' => e = .returned (.int .u64 (h.count : Int)) ∧ W = w')) := hid (fun b7 W HB => by have := q1 b7 13 4 51 (by decide) (by decide) W HB; rw [← hs3] at this; exact this)
 have Q4 : Hid ((bv B)[8]? = some (.int .u8 (h.area : Int))) := by
  show _ = _
  rw [hs4]
  have h8 : 8 < B.length := by omega
  simp [bv, Go.Proofs.Ytffcglfepobdjaa.u8, h8, List.getD_eq_getElem?_getD]
 have hrd := read_ok hD hd hok hr k hk
 rw [← hB] at hrd
 have HDv := hid hD
 have HBB := hid hB
 have Hh := hid hh
 have H64 := hid h64
 clear hsq hus hct hs1 hs2 hs3 hs4 q1 hD hB hh h64
 go_enter Try.func77, Try.ntmps77
 go_wp2_with (guard_target = wpList _ _ _ (Oper.mk _ (Op.alloc 112) _ _ _ _ :: _) _ _; refine wpList_alloc_v rfl 112 rfl (.agg zhead.toArray) info112 zhead rfl ?_; intro b4 w1 hb4 B4 K1)
 refine ((read_ok (HDv.out.keep K1 (Dj.noth _)) hd hok hr k hk)).mono ?_
 rintro e w2 ⟨b7, rfl, hb7, B7, K2⟩
 rw [← HBB.out] at B7
 clear hrd
 have B42 := B4.keep K2 id
 have hbne : b4 ≠ b7 := by have := B4.lt; omega
 have K12 : Keep Noth w w2 := K1.trans K2 (fun _ _ h => h)
 have h1s := K1.size
 clear B4 K2 K1
 go_wp2_with fail
 have HBd : BlockIs w2.drew b7 (bv B) 103 := B7.drew
 refine wp_region_ordL [(0, true), (1, true), (3, true), (4, true), (5, true), (6, true), (7, true), (8, true), (11, true), (12, true), (2, false), (9, false), (10, true), (13, false), (14, true), (15, true), (16, false)] (fun w' => BlockIs w' b7 (bv B) 103) follows_mixed (by kernel_rfl) HBd ?_
 simp only [List.map_cons, List.map_nil, List.getElem?_cons_succ, List.getElem?_cons_zero, Option.getD_some]
 refine wpO_pure (v := .slice (some ⟨b7, 0, none⟩) 64 64) (by rfl) (fun w' hw' => by rfl) ?_
 go_frame
 refine wpO_pure (v := .slice (some ⟨b7, 0, none⟩) 8 64) (by rfl) (fun w' hw' => by go_simp) ?_
 go_frame
 refine wpO_pure (v := .slice (some ⟨b7, 0, none⟩) 64 64) (by rfl) (fun w' hw' => by rfl) ?_
 go_frame
 refine wpO_pure (v := .pointer (some ⟨b7, 8, none⟩)) (by rfl) (fun w' hw' => by go_simp) ?_
 go_frame
 refine wpO_pure (v := .int .u8 (h.area : Int)) (by rfl) (fun w' hw' => by have hc : w'.cell? ⟨b7, 8, none⟩ = some (.int .u8 (h.area : Int)) := (hw'.cell 8).trans Q4.out; go_simp) ?_
 go_frame
 refine wpO_pure (v := .int .i64 (h.area : Int)) (by rfl) (fun w' hw' => by go_simp; exact wrapI (by omega) (by omega)) ?_
 go_frame
 refine wpO_pure (v := .slice (some ⟨b7, 0, none⟩) 64 64) (by rfl) (fun w' hw' => by rfl) ?_
 go_frame
 refine wpO_pure (v := .slice (some ⟨b7, 9, none⟩) 4 55) (by rfl) (fun w' hw' => by go_simp) ?_
 go_frame
 refine wpO_pure (v := .slice (some ⟨b7, 0, none⟩) 64 64) (by rfl) (fun w' hw' => by rfl) ?_
 go_frame
 refine wpO_pure (v := .slice (some ⟨b7, 13, none⟩) 4 51) (by rfl) (fun w' hw' => by go_simp) ?_
 go_frame
 refine wpO_call (by rfl) (exec_call' 90 _ _ rfl Try.func90 (by kernel_rfl) (by rfl) #[.slice (some ⟨b7, 0, none⟩) 8 64] (by simp [Act.eval])) ?_
 refine (Q1.out b7 _ HBd).mono ?_
 rintro e w' ⟨rfl, rfl⟩
 refine ⟨_, rfl, .inr HBd, ?_⟩
 go_frame
 refine wpO_call (by rfl) (exec_call' 90 _ _ rfl Try.func90 (by kernel_rfl) (by rfl) #[.slice (some ⟨b7, 9, none⟩) 4 55] (by simp [Act.eval])) ?_
 refine (Q2.out b7 _ HBd).mono ?_
 rintro e w' ⟨rfl, rfl⟩
 refine ⟨_, rfl, .inr HBd, ?_⟩
 go_frame
 refine wpO_pure (v := .int .i64 (h.used : Int)) (by rfl) (fun w' hw' => by go_simp; exact wrapI (by omega) (by omega)) ?_
 go_frame
 refine wpO_call (by rfl) (exec_call' 90 _ _ rfl Try.func90 (by kernel_rfl) (by rfl) #[.slice (some ⟨b7, 13, none⟩) 4 51] (by simp [Act.eval])) ?_
 refine (Q3.out b7 _ HBd).mono ?_
 rintro e w' ⟨rfl, rfl⟩
 refine ⟨_, rfl, .inr HBd, ?_⟩
 go_frame
 refine wpO_pure (v := .int .i64 (h.count : Int)) (by rfl) (fun w' hw' => by go_simp; exact wrapI (by omega) (by omega)) ?_
 go_frame
 refine wpO_pure (v := .agg [.int .u64 (h.seq : Int), .int .i64 (h.area : Int), .int .i64 (h.used : Int), .int .i64 (h.count : Int)].toArray) (by rfl) (fun w' hw' => exec_build112 _ _ _ _ rfl _ _ _ _ (by simp [Act.eval]) (by simp [Act.eval]) (by simp [Act.eval]) (by simp [Act.eval])) ?_
 go_frame
 refine wpO_store_blk (by rfl) 112 _ _ rfl b4 zhead h.cells 112 (by rfl) (by rfl) B42.drew rfl info112 (hd_one h) ?_
 intro w3 B3 K3
 refine ⟨.inl rfl, wpO_nil ?_⟩
 have B7w := HBd.keep K3 (fun e => hbne e.symm)
 have K13 : Keep Noth w w3 := (K12.drew).own K3 (fun q e => by unfold Only at e; subst e; omega)
 clear K3 HBd B42 B7
 go_frame
 go_wp2_with fail
 have hsz : w.heap.size ≤ b4 := by omega
 have hno : holdsF D k = none → ∀ wa wb, Keep (Only b4) wa wb → Keep Noth w wa → HoldsPost w D k (.returned (.tuple #[.agg zhead.toArray, .slice none 0 0, .bool false])) wb := fun hn wa wb k1 k2 =>
  ⟨⟨0, 0, 0, 0⟩, .slice none 0 0, by rw [hn]; rfl, ⟨_, _, _, rfl⟩, (fun h' l e => by rw [hn] at e; cases e), k2.own k1 (fun q e => by unfold Only at e; subst e; exact hsz)⟩
 have hfalse : hdOk D B = false → holdsF D k = none := fun hf => by unfold holdsF; rw [← HBB.out, hf]; rfl
 have hdk : hdOk D B = (decide (1 ≤ h.seq ∧ h.seq < 1099511627776 ∧ h.area ≤ 1 ∧ h.used ≤ D.half) && (B == headB h.seq h.area h.used h.count)) := by rw [Hh.out]; rfl
 by_cases hc0 : h.seq < 1
 ·skip
  have Hno := hid (hno (hfalse (by rw [hdk, decide_eq_false (by omega)]; rfl)))
  have ihc0 : (h.seq : Int) < 1 := by omega
  clear hno hfalse hdk hc0
  refine wp_region_ordL [(0, true), (1, true), (2, true), (3, true), (4, true), (5, true), (6, true), (7, true), (8, true), (9, true), (10, true), (11, true), (12, true), (13, true), (14, true), (15, true), (16, true), (17, false), (18, true), (19, true), (20, true), (21, true), (22, true), (23, false), (24, false), (25, true), (26, false)] (fun w' => BlockIs w' b4 h.cells 112) follows_mixed (by kernel_rfl) B3.drew ?_
  simp only [List.map_cons, List.map_nil, List.getElem?_cons_succ, List.getElem?_cons_zero, Option.getD_some]
  have HS0 : BlockIs w3.drew b4 h.cells 112 := B3.drew
  refine wpO_pure (v := .pointer (some ⟨b4, 0, none⟩)) (by rfl) (fun w' hw' => by go_simp) ?_
  go_frame
  refine wpO_pure (v := .int .u64 (h.seq : Int)) (by rfl) (fun w' hw' => by have hc : w'.cell? ⟨b4, 0, none⟩ = some (.int .u64 (h.seq : Int)) := hw'.cell 0; go_simp) ?_
  go_frame
  refine wpO_pure (v := .bool true) (by rfl) (fun w' hw' => by go_simp) ?_
  go_frame
  refine wpO_pure (v := .bool true) (by rfl) (fun w' hw' => by go_simp) ?_
  go_frame
  refine wpO_skip (by rfl) ?_
  go_frame
  refine wpO_skip (by rfl) ?_
  go_frame
  refine wpO_skip (by rfl) ?_
  go_frame
  refine wpO_pure (v := .bool true) (by rfl) (fun w' hw' => by go_simp) ?_
  go_frame
  refine wpO_pure (v := .bool true) (by rfl) (fun w' hw' => by go_simp) ?_
  go_frame
  refine wpO_skip (by rfl) ?_
  go_frame
  refine wpO_skip (by rfl) ?_
  go_frame
  refine wpO_skip (by rfl) ?_
  go_frame
  refine wpO_pure (v := .bool true) (by rfl) (fun w' hw' => by go_simp) ?_
  go_frame
  refine wpO_pure (v := .bool true) (by rfl) (fun w' hw' => by go_simp) ?_
  go_frame
  refine wpO_skip (by rfl) ?_
  go_frame
  refine wpO_skip (by rfl) ?_
  go_frame
  refine wpO_skip (by rfl) ?_
  go_frame
  refine wpO_skipf (by rfl) (.inr HS0) ?_
  go_frame
  refine wpO_skip (by rfl) ?_
  go_frame
  refine wpO_pure (v := .bool true) (by rfl) (fun w' hw' => by go_simp) ?_
  go_frame
  refine wpO_pure (v := .bool true) (by rfl) (fun w' hw' => by go_simp) ?_
  go_frame
  refine wpO_skip (by rfl) ?_
  go_frame
  refine wpO_skip (by rfl) ?_
  go_frame
  refine wpO_skipf (by rfl) (.inr HS0) ?_
  go_frame
  refine wpO_skipf (by rfl) (.inr HS0) ?_
  go_frame
  refine wpO_skip (by rfl) ?_
  go_frame
  refine wpO_run (v := .bool true) (w1 := w3.drew) (by rfl) (by go_simp) (.inl rfl) (wpO_nil ?_)
  go_frame
  go_wp2_with (first | (guard_target = wpList _ _ _ (Oper.mk _ (Op.build 112 _) _ _ _ _ :: _) _ _; refine wpList_run rfl _ _ (build112z _) ?_) | (guard_target = wpList _ _ _ (Oper.mk _ (Op.store 112 _ _) _ _ _ _ :: _) _ _; refine wpList_store_whole rfl 112 _ _ rfl b4 _ zhead 112 (by rfl) (by rfl) HS0 rfl info112 (hd_one ⟨0, 0, 0, 0⟩) ?_; intro w9 B9 K9))
  refine ret_cell_tmp2 rfl b4 zhead 112 _ (.slice none 0 0) (.bool false) (by rfl) (by rfl) (by rfl) B9 Try.underlying112 rfl info112 rfl ?_
  exact Hno.out _ _ K9 K13.drew
 by_cases hc1 : 1099511627776 ≤ h.seq
 ·skip
  have Hno := hid (hno (hfalse (by rw [hdk, decide_eq_false (by omega)]; rfl)))
  have ihc0 : ¬ ((h.seq : Int) < 1) := by omega
  have ihc1 : (1099511627776 : Int) ≤ h.seq := by omega
  clear hno hfalse hdk hc0 hc1
  refine wp_region_ordL [(0, true), (1, true), (2, true), (3, true), (4, true), (5, true), (6, true), (7, true), (8, true), (9, true), (10, true), (11, true), (12, true), (13, true), (14, true), (15, true), (16, true), (17, false), (18, true), (19, true), (20, true), (21, true), (22, true), (23, false), (24, false), (25, true), (26, false)] (fun w' => BlockIs w' b4 h.cells 112) follows_mixed (by kernel_rfl) B3.drew ?_
  simp only [List.map_cons, List.map_nil, List.getElem?_cons_succ, List.getElem?_cons_zero, Option.getD_some]
  have HS0 : BlockIs w3.drew b4 h.cells 112 := B3.drew
  refine wpO_pure (v := .pointer (some ⟨b4, 0, none⟩)) (by rfl) (fun w' hw' => by go_simp) ?_
  go_frame
  refine wpO_pure (v := .int .u64 (h.seq : Int)) (by rfl) (fun w' hw' => by have hc : w'.cell? ⟨b4, 0, none⟩ = some (.int .u64 (h.seq : Int)) := hw'.cell 0; go_simp) ?_
  go_frame
  refine wpO_pure (v := .bool false) (by rfl) (fun w' hw' => by go_simp) ?_
  go_frame
  refine wpO_pure (v := .bool false) (by rfl) (fun w' hw' => by go_simp) ?_
  go_frame
  refine wpO_pure (v := .pointer (some ⟨b4, 0, none⟩)) (by rfl) (fun w' hw' => by go_simp) ?_
  go_frame
  refine wpO_pure (v := .int .u64 (h.seq : Int)) (by rfl) (fun w' hw' => by have hc : w'.cell? ⟨b4, 0, none⟩ = some (.int .u64 (h.seq : Int)) := hw'.cell 0; go_simp) ?_
  go_frame
  refine wpO_pure (v := .bool true) (by rfl) (fun w' hw' => by go_simp) ?_
  go_frame
  refine wpO_pure (v := .bool true) (by rfl) (fun w' hw' => by go_simp) ?_
  go_frame
  refine wpO_pure (v := .bool true) (by rfl) (fun w' hw' => by go_simp) ?_
  go_frame
  refine wpO_skip (by rfl) ?_
  go_frame
  refine wpO_skip (by rfl) ?_
  go_frame
  refine wpO_skip (by rfl) ?_
  go_frame
  refine wpO_pure (v := .bool true) (by rfl) (fun w' hw' => by go_simp) ?_
  go_frame
  refine wpO_pure (v := .bool true) (by rfl) (fun w' hw' => by go_simp) ?_
  go_frame
  refine wpO_skip (by rfl) ?_
  go_frame
  refine wpO_skip (by rfl) ?_
  go_frame
  refine wpO_skip (by rfl) ?_
  go_frame
  refine wpO_skipf (by rfl) (.inr HS0) ?_
  go_frame
  refine wpO_skip (by rfl) ?_
  go_frame
  refine wpO_pure (v := .bool true) (by rfl) (fun w' hw' => by go_simp) ?_
  go_frame
  refine wpO_pure (v := .bool true) (by rfl) (fun w' hw' => by go_simp) ?_
  go_frame
  refine wpO_skip (by rfl) ?_
  go_frame
  refine wpO_skip (by rfl) ?_
  go_frame
  refine wpO_skipf (by rfl) (.inr HS0) ?_
  go_frame
  refine wpO_skipf (by rfl) (.inr HS0) ?_
  go_frame
  refine wpO_skip (by rfl) ?_
  go_frame
  refine wpO_run (v := .bool true) (w1 := w3.drew) (by rfl) (by go_simp) (.inl rfl) (wpO_nil ?_)
  go_frame
  go_wp2_with (first | (guard_target = wpList _ _ _ (Oper.mk _ (Op.build 112 _) _ _ _ _ :: _) _ _; refine wpList_run rfl _ _ (build112z _) ?_) | (guard_target = wpList _ _ _ (Oper.mk _ (Op.store 112 _ _) _ _ _ _ :: _) _ _; refine wpList_store_whole rfl 112 _ _ rfl b4 _ zhead 112 (by rfl) (by rfl) HS0 rfl info112 (hd_one ⟨0, 0, 0, 0⟩) ?_; intro w9 B9 K9))
  refine ret_cell_tmp2 rfl b4 zhead 112 _ (.slice none 0 0) (.bool false) (by rfl) (by rfl) (by rfl) B9 Try.underlying112 rfl info112 rfl ?_
  exact Hno.out _ _ K9 K13.drew
 by_cases hc2 : 1 < h.area
 ·skip
  have Hno := hid (hno (hfalse (by rw [hdk, decide_eq_false (by omega)]; rfl)))
  have ihc0 : ¬ ((h.seq : Int) < 1) := by omega
  have ihc1 : ¬ ((1099511627776 : Int) ≤ h.seq) := by omega
  have ihc2 : (1 : Int) < h.area := by omega
  clear hno hfalse hdk hc0 hc1 hc2
  refine wp_region_ordL [(0, true), (1, true), (2, true), (3, true), (4, true), (5, true), (6, true), (7, true), (8, true), (9, true), (10, true), (11, true), (12, true), (13, true), (14, true), (15, true), (16, true), (17, false), (18, true), (19, true), (20, true), (21, true), (22, true), (23, false), (24, false), (25, true), (26, false)] (fun w' => BlockIs w' b4 h.cells 112) follows_mixed (by kernel_rfl) B3.drew ?_
  simp only [List.map_cons, List.map_nil, List.getElem?_cons_succ, List.getElem?_cons_zero, Option.getD_some]
  have HS0 : BlockIs w3.drew b4 h.cells 112 := B3.drew
  refine wpO_pure (v := .pointer (some ⟨b4, 0, none⟩)) (by rfl) (fun w' hw' => by go_simp) ?_
  go_frame
  refine wpO_pure (v := .int .u64 (h.seq : Int)) (by rfl) (fun w' hw' => by have hc : w'.cell? ⟨b4, 0, none⟩ = some (.int .u64 (h.seq : Int)) := hw'.cell 0; go_simp) ?_
  go_frame
  refine wpO_pure (v := .bool false) (by rfl) (fun w' hw' => by go_simp) ?_
  go_frame
  refine wpO_pure (v := .bool false) (by rfl) (fun w' hw' => by go_simp) ?_
  go_frame
  refine wpO_pure (v := .pointer (some ⟨b4, 0, none⟩)) (by rfl) (fun w' hw' => by go_simp) ?_
  go_frame
  refine wpO_pure (v := .int .u64 (h.seq : Int)) (by rfl) (fun w' hw' => by have hc : w'.cell? ⟨b4, 0, none⟩ = some (.int .u64 (h.seq : Int)) := hw'.cell 0; go_simp) ?_
  go_frame
  refine wpO_pure (v := .bool false) (by rfl) (fun w' hw' => by go_simp) ?_
  go_frame
  refine wpO_pure (v := .bool false) (by rfl) (fun w' hw' => by go_simp) ?_
  go_frame
  refine wpO_pure (v := .bool false) (by rfl) (fun w' hw' => by go_simp) ?_
  go_frame
  refine wpO_pure (v := .pointer (some ⟨b4, 1, none⟩)) (by rfl) (fun w' hw' => by go_simp) ?_
  go_frame
  refine wpO_pure (v := .int .i64 (h.area : Int)) (by rfl) (fun w' hw' => by have hc : w'.cell? ⟨b4, 1, none⟩ = some (.int .i64 (h.area : Int)) := hw'.cell 1; go_simp) ?_
  go_frame
  refine wpO_pure (v := .bool true) (by rfl) (fun w' hw' => by go_simp) ?_
  go_frame
  refine wpO_pure (v := .bool true) (by rfl) (fun w' hw' => by go_simp) ?_
  go_frame
  refine wpO_pure (v := .bool true) (by rfl) (fun w' hw' => by go_simp) ?_
  go_frame
  refine wpO_skip (by rfl) ?_
  go_frame
  refine wpO_skip (by rfl) ?_
  go_frame
  refine wpO_skip (by rfl) ?_
  go_frame
  refine wpO_skipf (by rfl) (.inr HS0) ?_
  go_frame
  refine wpO_skip (by rfl) ?_
  go_frame
  refine wpO_pure (v := .bool true) (by rfl) (fun w' hw' => by go_simp) ?_
  go_frame
  refine wpO_pure (v := .bool true) (by rfl) (fun w' hw' => by go_simp) ?_
  go_frame
  refine wpO_skip (by rfl) ?_
  go_frame
  refine wpO_skip (by rfl) ?_
  go_frame
  refine wpO_skipf (by rfl) (.inr HS0) ?_
  go_frame
  refine wpO_skipf (by rfl) (.inr HS0) ?_
  go_frame
  refine wpO_skip (by rfl) ?_
  go_frame
  refine wpO_run (v := .bool true) (w1 := w3.drew) (by rfl) (by go_simp) (.inl rfl) (wpO_nil ?_)
  go_frame
  go_wp2_with (first | (guard_target = wpList _ _ _ (Oper.mk _ (Op.build 112 _) _ _ _ _ :: _) _ _; refine wpList_run rfl _ _ (build112z _) ?_) | (guard_target = wpList _ _ _ (Oper.mk _ (Op.store 112 _ _) _ _ _ _ :: _) _ _; refine wpList_store_whole rfl 112 _ _ rfl b4 _ zhead 112 (by rfl) (by rfl) HS0 rfl info112 (hd_one ⟨0, 0, 0, 0⟩) ?_; intro w9 B9 K9))
  refine ret_cell_tmp2 rfl b4 zhead 112 _ (.slice none 0 0) (.bool false) (by rfl) (by rfl) (by rfl) B9 Try.underlying112 rfl info112 rfl ?_
  exact Hno.out _ _ K9 K13.drew
 by_cases hc3 : D.half < h.used
 ·skip
  have Hno := hid (hno (hfalse (by rw [hdk, decide_eq_false (by omega)]; rfl)))
  have ihc0 : ¬ ((h.seq : Int) < 1) := by omega
  have ihc1 : ¬ ((1099511627776 : Int) ≤ h.seq) := by omega
  have ihc2 : ¬ ((1 : Int) < h.area) := by omega
  have ihc3 : (D.half : Int) < h.used := by omega
  clear hno hfalse hdk hc0 hc1 hc2 hc3
  refine wp_region_ordL [(0, true), (1, true), (2, true), (3, true), (4, true), (5, true), (6, true), (7, true), (8, true), (9, true), (10, true), (11, true), (12, true), (13, true), (14, true), (15, true), (16, true), (17, false), (18, true), (19, true), (20, true), (21, true), (22, true), (23, false), (24, false), (25, true), (26, false)] (fun w' => BlockIs w' b4 h.cells 112) follows_mixed (by kernel_rfl) B3.drew ?_
  simp only [List.map_cons, List.map_nil, List.getElem?_cons_succ, List.getElem?_cons_zero, Option.getD_some]
  have HS0 : BlockIs w3.drew b4 h.cells 112 := B3.drew
  refine wpO_pure (v := .pointer (some ⟨b4, 0, none⟩)) (by rfl) (fun w' hw' => by go_simp) ?_
  go_frame
  refine wpO_pure (v := .int .u64 (h.seq : Int)) (by rfl) (fun w' hw' => by have hc : w'.cell? ⟨b4, 0, none⟩ = some (.int .u64 (h.seq : Int)) := hw'.cell 0; go_simp) ?_
  go_frame
  refine wpO_pure (v := .bool false) (by rfl) (fun w' hw' => by go_simp) ?_
  go_frame
  refine wpO_pure (v := .bool false) (by rfl) (fun w' hw' => by go_simp) ?_
  go_frame
  refine wpO_pure (v := .pointer (some ⟨b4, 0, none⟩)) (by rfl) (fun w' hw' => by go_simp) ?_
  go_frame
  refine wpO_pure (v := .int .u64 (h.seq : Int)) (by rfl) (fun w' hw' => by have hc : w'.cell? ⟨b4, 0, none⟩ = some (.int .u64 (h.seq : Int)) := hw'.cell 0; go_simp) ?_
  go_frame
  refine wpO_pure (v := .bool false) (by rfl) (fun w' hw' => by go_simp) ?_
  go_frame
  refine wpO_pure (v := .bool false) (by rfl) (fun w' hw' => by go_simp) ?_
  go_frame
  refine wpO_pure (v := .bool false) (by rfl) (fun w' hw' => by go_simp) ?_
  go_frame
  refine wpO_pure (v := .pointer (some ⟨b4, 1, none⟩)) (by rfl) (fun w' hw' => by go_simp) ?_
  go_frame
  refine wpO_pure (v := .int .i64 (h.area : Int)) (by rfl) (fun w' hw' => by have hc : w'.cell? ⟨b4, 1, none⟩ = some (.int .i64 (h.area : Int)) := hw'.cell 1; go_simp) ?_
  go_frame
  refine wpO_pure (v := .bool false) (by rfl) (fun w' hw' => by go_simp) ?_
  go_frame
  refine wpO_pure (v := .bool false) (by rfl) (fun w' hw' => by go_simp) ?_
  go_frame
  refine wpO_pure (v := .bool false) (by rfl) (fun w' hw' => by go_simp) ?_
  go_frame
  refine wpO_pure (v := .pointer (some ⟨b4, 2, none⟩)) (by rfl) (fun w' hw' => by go_simp) ?_
  go_frame
  refine wpO_pure (v := .int .i64 (h.used : Int)) (by rfl) (fun w' hw' => by have hc : w'.cell? ⟨b4, 2, none⟩ = some (.int .i64 (h.used : Int)) := hw'.cell 2; go_simp) ?_
  go_frame
  refine wpO_pure (v := .pointer (some ⟨g, 0, none⟩)) (by rfl) (fun w' hw' => by rfl) ?_
  go_frame
  refine wpO_call (by rfl) (exec_call' 64 _ _ rfl Try.func64 (by kernel_rfl) (by rfl) #[.pointer (some ⟨g, 0, none⟩)] (by simp [Act.eval])) ?_
  refine (area_calls (HDv.out.keep K13.drew (Dj.noth _)) hok).mono ?_
  rintro e w' ⟨rfl, rfl⟩
  refine ⟨_, rfl, .inr HS0, ?_⟩
  go_frame
  refine wpO_pure (v := .bool true) (by rfl) (fun w' hw' => by go_simp) ?_
  go_frame
  refine wpO_pure (v := .bool true) (by rfl) (fun w' hw' => by go_simp) ?_
  go_frame
  refine wpO_pure (v := .bool true) (by rfl) (fun w' hw' => by go_simp) ?_
  go_frame
  refine wpO_skip (by rfl) ?_
  go_frame
  refine wpO_skip (by rfl) ?_
  go_frame
  refine wpO_skipf (by rfl) (.inr HS0) ?_
  go_frame
  refine wpO_skipf (by rfl) (.inr HS0) ?_
  go_frame
  refine wpO_skip (by rfl) ?_
  go_frame
  refine wpO_run (v := .bool true) (w1 := w3.drew) (by rfl) (by go_simp) (.inl rfl) (wpO_nil ?_)
  go_frame
  go_wp2_with (first | (guard_target = wpList _ _ _ (Oper.mk _ (Op.build 112 _) _ _ _ _ :: _) _ _; refine wpList_run rfl _ _ (build112z _) ?_) | (guard_target = wpList _ _ _ (Oper.mk _ (Op.store 112 _ _) _ _ _ _ :: _) _ _; refine wpList_store_whole rfl 112 _ _ rfl b4 _ zhead 112 (by rfl) (by rfl) HS0 rfl info112 (hd_one ⟨0, 0, 0, 0⟩) ?_; intro w9 B9 K9))
  refine ret_cell_tmp2 rfl b4 zhead 112 _ (.slice none 0 0) (.bool false) (by rfl) (by rfl) (by rfl) B9 Try.underlying112 rfl info112 rfl ?_
  exact Hno.out _ _ K9 K13.drew
 by_cases hc4 : (B == headB h.seq h.area h.used h.count) = false
 ·skip
  have Hbf := hid hc4
  have Hno := hid (hno (hfalse (by rw [hdk, hc4, Bool.and_false])))
  have ihc0 : ¬ ((h.seq : Int) < 1) := by omega
  have ihc1 : ¬ ((1099511627776 : Int) ≤ h.seq) := by omega
  have ihc2 : ¬ ((1 : Int) < h.area) := by omega
  have ihc3 : ¬ ((D.half : Int) < h.used) := by omega
  clear hno hfalse hdk hc0 hc1 hc2 hc3 hc4
  refine wp_region_ordL [(0, true), (1, true), (2, true), (3, true), (4, true), (5, true), (6, true), (7, true), (8, true), (9, true), (10, true), (11, true), (12, true), (13, true), (14, true), (15, true), (16, true), (17, false), (18, true), (19, true), (20, true), (21, true), (22, true), (23, false), (24, false), (25, true), (26, false)] (fun w' => BlockIs w' b4 h.cells 112) follows_mixed (by kernel_rfl) B3.drew ?_
  simp only [List.map_cons, List.map_nil, List.getElem?_cons_succ, List.getElem?_cons_zero, Option.getD_some]
  have HS0 : BlockIs w3.drew b4 h.cells 112 := B3.drew
  refine wpO_pure (v := .pointer (some ⟨b4, 0, none⟩)) (by rfl) (fun w' hw' => by go_simp) ?_
  go_frame
  refine wpO_pure (v := .int .u64 (h.seq : Int)) (by rfl) (fun w' hw' => by have hc : w'.cell? ⟨b4, 0, none⟩ = some (.int .u64 (h.seq : Int)) := hw'.cell 0; go_simp) ?_
  go_frame
  refine wpO_pure (v := .bool false) (by rfl) (fun w' hw' => by go_simp) ?_
  go_frame
  refine wpO_pure (v := .bool false) (by rfl) (fun w' hw' => by go_simp) ?_
  go_frame
  refine wpO_pure (v := .pointer (some ⟨b4, 0, none⟩)) (by rfl) (fun w' hw' => by go_simp) ?_
  go_frame
  refine wpO_pure (v := .int .u64 (h.seq : Int)) (by rfl) (fun w' hw' => by have hc : w'.cell? ⟨b4, 0, none⟩ = some (.int .u64 (h.seq : Int)) := hw'.cell 0; go_simp) ?_
  go_frame
  refine wpO_pure (v := .bool false) (by rfl) (fun w' hw' => by go_simp) ?_
  go_frame
  refine wpO_pure (v := .bool false) (by rfl) (fun w' hw' => by go_simp) ?_
  go_frame
  refine wpO_pure (v := .bool false) (by rfl) (fun w' hw' => by go_simp) ?_
  go_frame
  refine wpO_pure (v := .pointer (some ⟨b4, 1, none⟩)) (by rfl) (fun w' hw' => by go_simp) ?_
  go_frame
  refine wpO_pure (v := .int .i64 (h.area : Int)) (by rfl) (fun w' hw' => by have hc : w'.cell? ⟨b4, 1, none⟩ = some (.int .i64 (h.area : Int)) := hw'.cell 1; go_simp) ?_
  go_frame
  refine wpO_pure (v := .bool false) (by rfl) (fun w' hw' => by go_simp) ?_
  go_frame
  refine wpO_pure (v := .bool false) (by rfl) (fun w' hw' => by go_simp) ?_
  go_frame
  refine wpO_pure (v := .bool false) (by rfl) (fun w' hw' => by go_simp) ?_
  go_frame
  refine wpO_pure (v := .pointer (some ⟨b4, 2, none⟩)) (by rfl) (fun w' hw' => by go_simp) ?_
  go_frame
  refine wpO_pure (v := .int .i64 (h.used : Int)) (by rfl) (fun w' hw' => by have hc : w'.cell? ⟨b4, 2, none⟩ = some (.int .i64 (h.used : Int)) := hw'.cell 2; go_simp) ?_
  go_frame
  refine wpO_pure (v := .pointer (some ⟨g, 0, none⟩)) (by rfl) (fun w' hw' => by rfl) ?_
  go_frame
  refine wpO_call (by rfl) (exec_call' 64 _ _ rfl Try.func64 (by kernel_rfl) (by rfl) #[.pointer (some ⟨g, 0, none⟩)] (by simp [Act.eval])) ?_
  refine (area_calls (HDv.out.keep K13.drew (Dj.noth _)) hok).mono ?_
  rintro e w' ⟨rfl, rfl⟩
  refine ⟨_, rfl, .inr HS0, ?_⟩
  go_frame
  refine wpO_pure (v := .bool false) (by rfl) (fun w' hw' => by go_simp) ?_
  go_frame
  refine wpO_pure (v := .bool false) (by rfl) (fun w' hw' => by go_simp) ?_
  go_frame
  refine wpO_pure (v := .bool false) (by rfl) (fun w' hw' => by go_simp) ?_
  go_frame
  refine wpO_pure (v := .slice (some ⟨b7, 0, none⟩) 64 64) (by rfl) (fun w' hw' => by rfl) ?_
  go_frame
  refine wpO_pure (v := .agg h.cells.toArray) (by rfl) (fun w' hw' => by exact exec_load_blk 112 _ rfl b4 0 h.cells h.cells 112 _ (by rfl) hw' (part0 _) Try.underlying112 rfl info112) ?_
  go_frame
  refine wpO_call (by rfl) (exec_call' 94 _ _ rfl Try.func94 (by kernel_rfl) (by rfl) #[.agg h.cells.toArray] (by simp [Act.eval])) ?_
  refine (headBytes_calls w3.drew h.seq h.area h.used h.count hseq (by omega) (by omega) (by omega)).mono ?_
  rintro e w4 ⟨gb, rfl, HH, K4⟩
  have HS1 := HS0.keep K4 id
  refine ⟨_, rfl, .inr HS1, ?_⟩
  go_frame
  have hE := sEqual_calls w4 (some ⟨b7, 0, none⟩) (some ⟨gb, 0, none⟩) 64 64 B (headB h.seq h.area h.used h.count) (Reads.of_range (B7w.drew.keep K4 id).rangeAll) (Bytes.same_as HH) (by rw [H64.out]; decide)
  rw [H64.out, headB_length, Hbf.out] at hE
  refine wpO_call (by rfl) (exec_call' 96 _ _ rfl Try.func96 (by kernel_rfl) (by rfl) #[.slice (some ⟨b7, 0, none⟩) 64 64, .slice (some ⟨gb, 0, none⟩) 64 64] (by simp [Act.eval])) ?_
  refine hE.mono ?_
  rintro e w5 ⟨rfl, K5⟩
  clear hE
  have HS2 := HS1.keep K5 id
  have K15 : Keep Noth w w5 := (K13.drew.trans K4 (fun _ _ h => h)).trans K5 (fun _ _ h => h)
  have K35 : w3.heap.size ≤ w5.heap.size := Nat.le_trans K4.size K5.size
  clear K4 K5 HH HS1 HS0 B3 B7w
  refine ⟨_, rfl, .inr HS2, ?_⟩
  go_frame
  refine wpO_pure (v := .bool true) (by rfl) (fun w' hw' => by go_simp) ?_
  go_frame
  refine wpO_run (v := .bool true) (w1 := w5) (by rfl) (by go_simp) (.inl rfl) (wpO_nil ?_)
  go_frame
  go_wp2_with (first | (guard_target = wpList _ _ _ (Oper.mk _ (Op.build 112 _) _ _ _ _ :: _) _ _; refine wpList_run rfl _ _ (build112z _) ?_) | (guard_target = wpList _ _ _ (Oper.mk _ (Op.store 112 _ _) _ _ _ _ :: _) _ _; refine wpList_store_whole rfl 112 _ _ rfl b4 _ zhead 112 (by rfl) (by rfl) HS2 rfl info112 (hd_one ⟨0, 0, 0, 0⟩) ?_; intro w9 B9 K9))
  refine ret_cell_tmp2 rfl b4 zhead 112 _ (.slice none 0 0) (.bool false) (by rfl) (by rfl) (by rfl) B9 Try.underlying112 rfl info112 rfl ?_
  exact Hno.out _ _ K9 K15
 have hbt : (B == headB h.seq h.area h.used h.count) = true := by cases hx : B == headB h.seq h.area h.used h.count with
  | true => rfl
  | false => exact absurd hx hc4
 have Hbt := hid hbt
 have hok1 : hdOk D B = true := by rw [hdk, hbt, decide_eq_true (by omega)]; rfl
 have hho : holdsF D k = match recsL D (2 + h.area * D.half) h.used h.count with
  | some (l, a) => if a = h.used then some (h, l) else none
  | none => none := by unfold holdsF; rw [← HBB.out, hok1, ← Hh.out]; rfl
 have hnr : ∀ i, i ≤ h.count → recsL D (2 + h.area * D.half) h.used i = none → holdsF D k = none := fun i hi e => by rw [hho, recsL_none e _ hi]
 have Hno := hid hno
 have hdh : D.half * 2 + 2 ≤ D.l.length := by unfold DS.half; omega
 have ihc0 : ¬ ((h.seq : Int) < 1) := by omega
 have ihc1 : ¬ ((1099511627776 : Int) ≤ h.seq) := by omega
 have ihc2 : ¬ ((1 : Int) < h.area) := by omega
 have ihc3 : ¬ ((D.half : Int) < h.used) := by omega
 have hare1 : h.area ≤ 1 := by omega
 have huse1 : h.used ≤ D.half := by omega
 have Hare := hid hare1
 have Huse := hid huse1
 have hfl : 2 + h.area * D.half + h.used ≤ D.l.length := by
  rcases (show h.area = 0 ∨ h.area = 1 by omega) with e | e <;> rw [e] <;> omega
 obtain ⟨f, hf⟩ : ∃ f, f = 2 + h.area * D.half := ⟨_, rfl⟩
 rw [← hf] at hho hnr hfl
 have Hf := hid hf
 have Hnr := hid hnr
 have Hho := hid hho
 have Hfl := hid hfl
 clear hno hfalse hdk hc0 hc1 hc2 hc3 hc4 hbt hok1 hho hnr hfl hf hdh hare1 huse1
 refine wp_region_ordL [(0, true), (1, true), (2, true), (3, true), (4, true), (5, true), (6, true), (7, true), (8, true), (9, true), (10, true), (11, true), (12, true), (13, true), (14, true), (15, true), (16, true), (17, false), (18, true), (19, true), (20, true), (21, true), (22, true), (23, false), (24, false), (25, true), (26, false)] (fun w' => BlockIs w' b4 h.cells 112) follows_mixed (by kernel_rfl) B3.drew ?_
 simp only [List.map_cons, List.map_nil, List.getElem?_cons_succ, List.getElem?_cons_zero, Option.getD_some]
 have HS0 : BlockIs w3.drew b4 h.cells 112 := B3.drew
 refine wpO_pure (v := .pointer (some ⟨b4, 0, none⟩)) (by rfl) (fun w' hw' => by go_simp) ?_
 go_frame
 refine wpO_pure (v := .int .u64 (h.seq : Int)) (by rfl) (fun w' hw' => by have hc : w'.cell? ⟨b4, 0, none⟩ = some (.int .u64 (h.seq : Int)) := hw'.cell 0; go_simp) ?_
 go_frame
 refine wpO_pure (v := .bool false) (by rfl) (fun w' hw' => by go_simp) ?_
 go_frame
 refine wpO_pure (v := .bool false) (by rfl) (fun w' hw' => by go_simp) ?_
 go_frame
 refine wpO_pure (v := .pointer (some ⟨b4, 0, none⟩)) (by rfl) (fun w' hw' => by go_simp) ?_
 go_frame
 refine wpO_pure (v := .int .u64 (h.seq : Int)) (by rfl) (fun w' hw' => by have hc : w'.cell? ⟨b4, 0, none⟩ = some (.int .u64 (h.seq : Int)) := hw'.cell 0; go_simp) ?_
 go_frame
 refine wpO_pure (v := .bool false) (by rfl) (fun w' hw' => by go_simp) ?_
 go_frame
 refine wpO_pure (v := .bool false) (by rfl) (fun w' hw' => by go_simp) ?_
 go_frame
 refine wpO_pure (v := .bool false) (by rfl) (fun w' hw' => by go_simp) ?_
 go_frame
 refine wpO_pure (v := .pointer (some ⟨b4, 1, none⟩)) (by rfl) (fun w' hw' => by go_simp) ?_
 go_frame
 refine wpO_pure (v := .int .i64 (h.area : Int)) (by rfl) (fun w' hw' => by have hc : w'.cell? ⟨b4, 1, none⟩ = some (.int .i64 (h.area : Int)) := hw'.cell 1; go_simp) ?_
 go_frame
 refine wpO_pure (v := .bool false) (by rfl) (fun w' hw' => by go_simp) ?_
 go_frame
 refine wpO_pure (v := .bool false) (by rfl) (fun w' hw' => by go_simp) ?_
 go_frame
 refine wpO_pure (v := .bool false) (by rfl) (fun w' hw' => by go_simp) ?_
 go_frame
 refine wpO_pure (v := .pointer (some ⟨b4, 2, none⟩)) (by rfl) (fun w' hw' => by go_simp) ?_
 go_frame
 refine wpO_pure (v := .int .i64 (h.used : Int)) (by rfl) (fun w' hw' => by have hc : w'.cell? ⟨b4, 2, none⟩ = some (.int .i64 (h.used : Int)) := hw'.cell 2; go_simp) ?_
 go_frame
 refine wpO_pure (v := .pointer (some ⟨g, 0, none⟩)) (by rfl) (fun w' hw' => by rfl) ?_
 go_frame
 refine wpO_call (by rfl) (exec_call' 64 _ _ rfl Try.func64 (by kernel_rfl) (by rfl) #[.pointer (some ⟨g, 0, none⟩)] (by simp [Act.eval])) ?_
 refine (area_calls (HDv.out.keep K13.drew (Dj.noth _)) hok).mono ?_
 rintro e w' ⟨rfl, rfl⟩
 refine ⟨_, rfl, .inr HS0, ?_⟩
 go_frame
 refine wpO_pure (v := .bool false) (by rfl) (fun w' hw' => by go_simp) ?_
 go_frame
 refine wpO_pure (v := .bool false) (by rfl) (fun w' hw' => by go_simp) ?_
 go_frame
 refine wpO_pure (v := .bool false) (by rfl) (fun w' hw' => by go_simp) ?_
 go_frame
 refine wpO_pure (v := .slice (some ⟨b7, 0, none⟩) 64 64) (by rfl) (fun w' hw' => by rfl) ?_
 go_frame
 refine wpO_pure (v := .agg h.cells.toArray) (by rfl) (fun w' hw' => by exact exec_load_blk 112 _ rfl b4 0 h.cells h.cells 112 _ (by rfl) hw' (part0 _) Try.underlying112 rfl info112) ?_
 go_frame
 refine wpO_call (by rfl) (exec_call' 94 _ _ rfl Try.func94 (by kernel_rfl) (by rfl) #[.agg h.cells.toArray] (by simp [Act.eval])) ?_
 refine (headBytes_calls w3.drew h.seq h.area h.used h.count hseq (by omega) (by omega) (by omega)).mono ?_
 rintro e w4 ⟨gb, rfl, HH, K4⟩
 have HS1 := HS0.keep K4 id
 refine ⟨_, rfl, .inr HS1, ?_⟩
 go_frame
 have hE := sEqual_calls w4 (some ⟨b7, 0, none⟩) (some ⟨gb, 0, none⟩) 64 64 B (headB h.seq h.area h.used h.count) (Reads.of_range (B7w.drew.keep K4 id).rangeAll) (Bytes.same_as HH) (by rw [H64.out]; decide)
 rw [H64.out, headB_length, Hbt.out] at hE
 refine wpO_call (by rfl) (exec_call' 96 _ _ rfl Try.func96 (by kernel_rfl) (by rfl) #[.slice (some ⟨b7, 0, none⟩) 64 64, .slice (some ⟨gb, 0, none⟩) 64 64] (by simp [Act.eval])) ?_
 refine hE.mono ?_
 rintro e w5 ⟨rfl, K5⟩
 clear hE
 have HS2 := HS1.keep K5 id
 have K15 : Keep Noth w w5 := (K13.drew.trans K4 (fun _ _ h => h)).trans K5 (fun _ _ h => h)
 have K35 : w3.heap.size ≤ w5.heap.size := Nat.le_trans K4.size K5.size
 clear K4 K5 HH HS1 HS0 B3 B7w
 refine ⟨_, rfl, .inr HS2, ?_⟩
 go_frame
 refine wpO_pure (v := .bool false) (by rfl) (fun w' hw' => by go_simp) ?_
 go_frame
 refine wpO_run (v := .bool false) (w1 := w5) (by rfl) (by go_simp) (.inl rfl) (wpO_nil ?_)
 go_frame
 have c3 : w5.cell? ⟨b4, 3, none⟩ = some (.int .i64 (h.count : Int)) := HS2.cell 3
 go_wp2_with fail
 go_loopw [5, 9, 64] (fun v5 k9 k64 wr => ∃ (i : Nat) (l : List (List UInt8)) (a : Nat), k64 = .int .i64 i ∧ k9 = .int .i64 a ∧ i ≤ h.count ∧ recsL D f h.used i = some (l, a) ∧ Recs wr (Fresh w wr) v5 l ∧ BlockIs wr b4 h.cells 112 ∧ Keep Noth w wr) (fun _ _ k64 _ => h.count - (intOf k64).toNat)
 case atStart => exact ⟨0, [], 0, rfl, rfl, Nat.zero_le _, rfl, Recs.nil _ _, HS2, K15⟩
 case round =>
  obtain ⟨i, l, a, rfl, rfl, hi, hrl, HR, HB, HK⟩ := hrel
  obtain ⟨ha, hll, hl4⟩ := recsL_le hok Hfl.out i l a hrl
  have Hrl := hid hrl
  have Hl4 := hid hl4
  have Hll := hid hll
  have HfL := Hfl.out
  have HuL := Huse.out
  have ht : (a : Int) ≤ h.used := by omega
  clear c3 HS2 K15 hrl hl4 hll K35 ihc0 ihc1 ihc2 ihc3
  by_cases hlt : i < h.count
  ·have hlt' : (i : Int) < h.count := by omega
   have hrc := record_calls (HDv.out.keep HK.drew (Dj.noth _)) hd hok hr (f + a) (h.used - a) (by omega)
   rw [Int.natCast_sub ha, Int.natCast_add] at hrc
   have hfc := first_calls (HDv.out.keep HK.drew (Dj.noth _)) hok h.area Hare.out
   rw [← Hf.out] at hfc
   have Hha := hid ha
   have Hhi := hid hi
   have Hlt := hid hlt
   clear ha hi hlt
   go_wp2_with fail
   refine wp_region_ordL [(0, true), (1, true), (2, true), (3, true), (5, true), (7, true), (8, true), (9, true), (10, true), (4, false), (6, true), (11, false), (12, true), (13, true), (14, true), (15, true), (16, false)] (fun w' => BlockIs w' b4 h.cells 112) follows_mixed (by kernel_rfl) HB.drew ?_
   simp only [List.map_cons, List.map_nil, List.getElem?_cons_succ, List.getElem?_cons_zero, Option.getD_some]
   refine wpO_pure (v := .pointer (some ⟨g, 0, none⟩)) (by rfl) (fun w' hw' => by rfl) ?_
   go_frame
   refine wpO_pure (v := .pointer (some ⟨g, 0, none⟩)) (by rfl) (fun w' hw' => by rfl) ?_
   go_frame
   refine wpO_pure (v := .pointer (some ⟨b4, 1, none⟩)) (by rfl) (fun w' hw' => by go_simp) ?_
   go_frame
   refine wpO_pure (v := .int .i64 (h.area : Int)) (by rfl) (fun w' hw' => by have hc : w'.cell? ⟨b4, 1, none⟩ = some (.int .i64 (h.area : Int)) := hw'.cell 1; go_simp) ?_
   go_frame
   refine wpO_pure (v := .int .i64 (a : Int)) (by rfl) (fun w' hw' => by rfl) ?_
   go_frame
   refine wpO_pure (v := .pointer (some ⟨b4, 2, none⟩)) (by rfl) (fun w' hw' => by go_simp) ?_
   go_frame
   refine wpO_pure (v := .int .i64 (h.used : Int)) (by rfl) (fun w' hw' => by have hc : w'.cell? ⟨b4, 2, none⟩ = some (.int .i64 (h.used : Int)) := hw'.cell 2; go_simp) ?_
   go_frame
   refine wpO_pure (v := .int .i64 (a : Int)) (by rfl) (fun w' hw' => by rfl) ?_
   go_frame
   refine wpO_pure (v := .int .i64 ((h.used : Int) - a)) (by rfl) (fun w' hw' => by go_simp; exact wrapI (by omega) (by omega)) ?_
   go_frame
   refine wpO_call (by rfl) (exec_call' 72 _ _ rfl Try.func72 (by kernel_rfl) (by rfl) #[.pointer (some ⟨g, 0, none⟩), .int .i64 (h.area : Int)] (by simp [Act.eval])) ?_
   refine hfc.mono ?_
   rintro e w' ⟨rfl, rfl⟩
   refine ⟨_, rfl, .inr HB.drew, ?_⟩
   go_frame
   refine wpO_pure (v := .int .i64 ((f : Int) + a)) (by rfl) (fun w' hw' => by go_simp; exact wrapI (by omega) (by omega)) ?_
   go_frame
   refine wpO_call (by rfl) (exec_call' 97 _ _ rfl Try.func97 (by kernel_rfl) (by rfl) #[.pointer (some ⟨g, 0, none⟩), .int .i64 ((f : Int) + a), .int .i64 ((h.used : Int) - a)] (by simp [Act.eval])) ?_
   refine hrc.mono ?_
   rintro e w6 ⟨v, rfl, HBy, K6⟩
   have HB6 := HB.drew.keep K6 id
   refine ⟨_, rfl, .inr HB6, ?_⟩
   have HR6 := (HR.keep (Keep.refl Noth _).drew (Dj.noth _)).keep K6 (Dj.noth _)
   have K06 := HK.drew.trans K6 (fun _ _ h => h)
   have hs6 := K6.size
   clear hfc hrc
   go_frame
   refine wpO_pure (v := .tuple #[v, .bool (recF D (f + a) (h.used - a)).isSome]) (by rfl) (fun w' hw' => by rfl) ?_
   go_frame
   refine wpO_pure (v := v) (by rfl) (fun w' hw' => by rfl) ?_
   go_frame
   refine wpO_pure (v := .bool (recF D (f + a) (h.used - a)).isSome) (by rfl) (fun w' hw' => by rfl) ?_
   go_frame
   refine wpO_pure (v := v) (by rfl) (fun w' hw' => by rfl) ?_
   go_frame
   refine wpO_run (v := .bool (recF D (f + a) (h.used - a)).isSome) (w1 := w6) (by rfl) (by rfl) (.inl rfl) (wpO_nil ?_)
   go_frame
   have hs0 := HK.size
   clear HR HB
   cases hrf : recF D (f + a) (h.used - a) with
   | none =>
    have Hn1 := hid (Hnr.out (i + 1) Hlt.out (recsL_no Hrl.out hrf))
    clear HBy hrf
    rw [Option.isSome_none]
    go_wp2_with (first | (guard_target = wpList _ _ _ (Oper.mk _ (Op.build 112 _) _ _ _ _ :: _) _ _; refine wpList_run rfl _ _ (build112z _) ?_) | (guard_target = wpList _ _ _ (Oper.mk _ (Op.store 112 _ _) _ _ _ _ :: _) _ _; refine wpList_store_whole rfl 112 _ _ rfl b4 _ zhead 112 (by rfl) (by rfl) HB6 rfl info112 (hd_one ⟨0, 0, 0, 0⟩) ?_; intro w9 B9 K9))
    refine ret_cell_tmp2 rfl b4 zhead 112 _ (.slice none 0 0) (.bool false) (by rfl) (by rfl) (by rfl) B9 Try.underlying112 rfl info112 rfl ?_
    exact Hno.out Hn1.out _ _ K9 K06
   | some r =>
    have hrf := hrf
    have hrb := recF_blocks hok (show f + a + (h.used - a) ≤ D.l.length by have := Hha.out; omega) hrf
    have HBr := HBy r hrf
    obtain ⟨A2, c2, hv⟩ := HBr.valm
    subst hv
    have hbl := blocks_calls w6 A2 c2 r (by have := hrb.2.2; omega)
    have hrs := recsL_some Hrl.out hrf
    have Hrb := hid hrb
    have Hrs := hid hrs
    have hla : l.length ≤ 4294967296 := by have := Hll.out; have := Hhi.out; omega
    have hab : (blocksN r : Int) ≤ 4096 := by have := hrb.2.1; have := hrb.1; omega
    have hab2 : (a : Int) + blocksN r ≤ h.used := by have := hrb.2.1; have := Hha.out; omega
    rw [Option.isSome_some]
    clear HBy hrf hrb hrs
    go_wp2_with fail
    refine hbl.mono ?_
    rintro e w' ⟨rfl, rfl⟩
    clear hbl
    go_wp2_with (first
     | (guard_target = wpList _ _ _ (Oper.mk _ (Op.buildSlice _ _ _) _ _ _ _ :: _) _ _; refine wpList_slice1_v rfl 63 33 _ rfl sl63 [.slice A2 r.length c2] (.slice none 0 0) info33 rfl (by decide) (by decide) (by rfl) rfl ?_; intro b8 w7 hb8 B8 K7)
     | (at_builtin; refine wpList_append_rec sl63 info33 rfl _ _ rfl (Fresh w wr) (Fresh wr.drew w6) _ (.slice A2 r.length c2) l r (by rfl) (HR6.keep K7 (Dj.noth _)) b8 (by rfl) B8 (HBr.keep K7 (Dj.noth _)) (by omega) ?_; intro v8 w8 HR8 K8 hF8))
    have hs7 := K7.size
    have hs8 := K8.size
    have hs9 : wr.heap.size = wr.drew.heap.size := rfl
    have HR9 : Recs w8 (Fresh w w8) v8 (l ++ [r]) := HR8.mono (fun q hq => by
     rcases hq with hq | hq | hq
     ·exact ⟨hq.1, by have := hq.2; omega⟩
     ·exact ⟨by have := hq.1; omega, by have := hq.2; omega⟩
     ·exact ⟨by omega, hq.2⟩)
    have K08 : Keep Noth w w8 := (K06.trans K7 (fun _ _ h => h)).own K8 (fun q e => (hF8 q e).1)
    have HB8 : BlockIs w8 b4 h.cells 112 := by
     have hB7 := HB6.keep K7 id
     obtain ⟨es, e1, e2, e3⟩ := HR6.keep K7 (Dj.noth _)
     exact hB7.keep K8 (fun e => e2.ne hB7 (by decide) e)
    have hP : ∃ (i' : Nat) (l' : List (List UInt8)) (a' : Nat), Value.int .i64 ((i : Int) + 1) = .int .i64 (i' : Int) ∧ Value.int .i64 ((a : Int) + blocksN r) = .int .i64 (a' : Int) ∧ i' ≤ h.count ∧ recsL D f h.used i' = some (l', a') ∧ Recs w8 (Fresh w w8) v8 l' ∧ BlockIs w8 b4 h.cells 112 ∧ Keep Noth w w8 :=
     ⟨i + 1, l ++ [r], a + blocksN r, by rfl, by rw [Int.natCast_add], Hlt.out, Hrs.out, HR9, HB8, K08⟩
    clear HR8 K8 HR6 HBr K7 B8 HB6 K06 K6 HR9 HB8 K08
    go_roundw
    case rel => exact hP
    case measure => simp [intOf]; omega
  ·have hic : i = h.count := by omega
   subst hic
   have hho : holdsF D k = if a = h.used then some (h, l) else none := by rw [Hho.out, Hrl.out]
   have Hh2 := hid hho
   have c2 : wr.cell? ⟨b4, 2, none⟩ = some (.int .i64 (h.used : Int)) := HB.cell 2
   have hs0 := HK.size
   obtain ⟨A5, n5, hv5⟩ := HR.val
   subst hv5
   clear hho ha hi hlt
   go_wp2_with (first
    | (guard_target = wpList _ _ _ (Oper.mk _ (Op.load 112 _) _ _ _ _ :: _) _ _; refine wpList_load_blk rfl 112 _ rfl b4 0 h.cells h.cells 112 _ (by rfl) (by first | exact HB | exact HB.drew) (part0 _) Try.underlying112 rfl info112 ?_)
    | (guard_target = wpList _ _ _ (Oper.mk _ (Op.store 112 _ _) _ _ _ _ :: _) _ _; refine wpList_store_whole rfl 112 _ _ rfl b4 _ h.cells 112 (by rfl) (by rfl) (by first | exact HB | exact HB.drew) rfl info112 (hd_one h) ?_; intro w9 B9 K9))
   refine ret_cell_tmp2 rfl b4 h.cells 112 _ (.slice A5 l.length n5) _ (by rfl) (by rfl) (by rfl) B9 Try.underlying112 rfl info112 rfl ?_
   have hHR : Recs w9 (Fresh w w9) (.slice A5 l.length n5) l := (HR.stay HB (by decide) (by decide) K9).mono (fun q hq => ⟨hq.1, by have := hq.2; have := K9.size; omega⟩)
   refine ⟨h, .slice A5 l.length n5, ?_, ⟨_, _, _, rfl⟩, ?_, HK.own K9 (fun q e => by unfold Only at e; subst e; exact hsz)⟩
   ·rw [Hh2.out]
    by_cases hau : a = h.used
    ·subst hau; simp
    ·rw [if_neg hau]
     have : ¬ ((a : Int) = h.used) := by omega
     simp [this]
   ·intro h' l' e
    rw [Hh2.out] at e
    split at e
    ·injection e with e
     injection e with e1 e2
     subst e1
     subst e2
     exact ⟨rfl, hHR⟩
    ·cases e
end Go.Proofs.Ytffcglfepobdjaa
set_option maxHeartbeats 1500000
namespace Go.Proofs.Ytffcglfepobdjaa
open Go.RowKit
/-- A slice of bytes that is read. -/
def RecVal (w : World) (G : Nat → Prop) (v : Value) (b : List UInt8) : Prop := ∃ B c, v = .slice B b.length c ∧ Reads w B (bv b) ∧ (B = none → c = 0) ∧ (b ≠ [] → ∀ ad, B = some ad → G ad.block)
/-- A slice of slices of bytes that is read. -/
structure ReadsL (w : World) (G : Nat → Prop) (A : Option Addr) (l : List (List UInt8)) : Prop where
 ex : ∃ vs : List Value, vs.length = l.length ∧ Reads w A vs ∧ ∀ (i : Nat) (v : Value) (b : List UInt8), vs[i]? = some v → l[i]? = some b → RecVal w G v b
 foot : l ≠ [] → ∀ ad, A = some ad → G ad.block
theorem RecVal.keep {w w' : World} {F G : Nat → Prop} {v : Value} {b : List UInt8} (h : RecVal w G v b) (hk : Keep F w w') (hd : Dj G F) : RecVal w' G v b := by
 obtain ⟨B, c, h1, h2, h3, h4⟩ := h
 refine ⟨B, c, h1, ?_, h3, h4⟩
 by_cases hb : b = []
 ·subst hb; exact Reads.nil _ _
 ·exact h2.keep hk (fun ad e hf => hd _ (h4 hb ad e) hf)
theorem ReadsL.keep {w w' : World} {F G : Nat → Prop} {A : Option Addr} {l : List (List UInt8)} (h : ReadsL w G A l) (hk : Keep F w w') (hd : Dj G F) : ReadsL w' G A l := by
 obtain ⟨⟨vs, h1, h2, h3⟩, h4⟩ := h
 refine ⟨⟨vs, h1, ?_, fun i v b a c => (h3 i v b a c).keep hk hd⟩, h4⟩
 by_cases hl : l = []
 ·subst hl
  obtain rfl : vs = [] := List.length_eq_zero_iff.1 h1
  exact Reads.nil _ _
 ·exact h2.keep hk (fun ad e hf => hd _ (h4 hl ad e) hf)
theorem ReadsL.mono {w : World} {G G' : Nat → Prop} {A : Option Addr} {l : List (List UInt8)} (h : ReadsL w G A l) (hG : ∀ q, G q → G' q) : ReadsL w G' A l := by
 obtain ⟨⟨vs, h1, h2, h3⟩, h4⟩ := h
 refine ⟨⟨vs, h1, h2, fun i v b a c => ?_⟩, fun hl ad e => hG _ (h4 hl ad e)⟩
 obtain ⟨B, c, k1, k2, k3, k4⟩ := h3 i v b a c
 exact ⟨B, c, k1, k2, k3, fun hb ad e => hG _ (k4 hb ad e)⟩
theorem flat_one {α : Type} (es : List α) : (es.map fun e => [e]).flatten = es := by induction es with
 | nil => rfl
 | cons x es ih => simp [ih]
theorem Rows.fst {w : World} {F : Nat → Prop} {e : TypeId} {size n c : Nat} {A : Option Addr} {xs : List (List Value)} (h : Rows w F e size (.slice A n c) xs) : (A = none → c = 0) ∧ ∀ ad, A = some ad → F ad.block := by
 refine ⟨fun hA => ?_, fun ad hA => h.foot _ (by subst hA; rfl)⟩
 subst hA
 rcases h.own.2 with ⟨h1, _⟩ | ⟨g', cap, cur, h1, _⟩
 ·injection h1
 ·cases h1
theorem Recs.reads {w : World} {F : Nat → Prop} {A : Option Addr} {n c : Nat} {l : List (List UInt8)} (h : Recs w F (.slice A n c) l) : ReadsL w F A l := by
 obtain ⟨es, h1, h2, h3⟩ := h
 refine ⟨⟨es.map (·.1), by rw [List.length_map, h1, List.length_map], ?_, fun i v b a e => ?_⟩, fun _ => h2.fst.2⟩
 ·have := rd_of_own h2
  rwa [show (es.map fun e => [e.1]) = (es.map (·.1)).map (fun e => [e]) by rw [List.map_map]; rfl, flat_one] at this
 ·rw [h1, List.getElem?_map] at e
  rw [List.getElem?_map] at a
  cases hx : es[i]? with
  | none => rw [hx] at a; cases a
  | some x =>
   rw [hx] at a e
   simp only [Option.map_some, Option.some.injEq] at a e
   subst a
   subst e
   have hB := h3 x (List.mem_of_getElem? hx)
   obtain ⟨B, c', hv⟩ := hB.valm
   rw [hv] at hB ⊢
   exact ⟨B, c', rfl, Bytes.same_as hB, hB.fst.1, fun _ => hB.fst.2⟩
/-- One element. -/
theorem ReadsL.at {w : World} {G : Nat → Prop} {A : Option Addr} {l : List (List UInt8)} (h : ReadsL w G A l) (i : Nat) (b : List UInt8) (hb : l[i]? = some b) : ∃ g o, A = some ⟨g, o, none⟩ ∧ ∃ B c, w.cell? ⟨g, o + i, none⟩ = some (.slice B b.length c) ∧ Reads w B (bv b) ∧ (B = none → c = 0) ∧ (b ≠ [] → ∀ ad, B = some ad → G ad.block) := by
 obtain ⟨⟨vs, h1, h2, h3⟩, h4⟩ := h
 have hi : i < vs.length := by rw [h1]; exact (List.getElem?_eq_some_iff.1 hb).1
 obtain ⟨g, o, rfl, hr, hg⟩ := h2.where (by omega)
 obtain ⟨B, c, rv, k2, k3, k4⟩ := h3 i vs[i] b (List.getElem?_eq_getElem hi) hb
 refine ⟨g, o, rfl, B, c, ?_, k2, k3, k4⟩
 rw [hr i vs[i] (List.getElem?_eq_getElem hi), rv]
structure RS where
 D : DS
 own : Hd
 slot : Int
 l : List (List UInt8)
 st : List (List UInt8)
 more : Nat
def rollCells (g : Nat) (S : RS) (vl vs : Value) : List Value := [.pointer (some ⟨g, 0, none⟩), .int .u64 (S.own.seq : Int), .int .i64 (S.own.area : Int), .int .i64 (S.own.used : Int), .int .i64 (S.own.count : Int), .int .i64 S.slot, vl, vs, .int .i64 (S.more : Int)]
structure RollAt (w : World) (F : Nat → Prop) (g r : Nat) (vl vs : Value) (S : RS) : Prop where
 lt : Lt F w
 here : F r
 blk : BlockIs w r (rollCells g S vl vs) 114
 dev : DevIs w F g S.D
 l : Recs w F vl S.l
 st : Recs w F vs S.st
 ne : ∀ q, vl.ownBlock = some q → vs.ownBlock ≠ some q
structure RS.ok (S : RS) : Prop where
 dok : S.D.ok
 four : 4 ≤ S.D.l.length
 area : S.own.area ≤ 1
 used : S.own.used + S.more ≤ S.D.half
 seq : S.own.seq < 18446744073709551616
 count : S.own.count < 4294967296
 slot : -1 ≤ S.slot ∧ S.slot ≤ 1
 ll : S.l.length ≤ 4294967296
 stl : S.st.length ≤ 4294967296
 l4 : ∀ b ∈ S.l, b.length ≤ 4000
 st4 : ∀ b ∈ S.st, b.length ≤ 4000
def RollIs (w : World) (F : Nat → Prop) (g r : Nat) (S : RS) : Prop := ∃ vl vs, RollAt w F g r vl vs S
theorem RollAt.keep {w w' : World} {F G : Nat → Prop} {g r : Nat} {vl vs : Value} {S : RS} (h : RollAt w F g r vl vs S) (hk : Keep G w w') (hd : Dj F G) : RollAt w' F g r vl vs S :=
 ⟨fun q hq => Nat.lt_of_lt_of_le (h.lt q hq) hk.size, h.here, h.blk.keep hk (fun e => hd r h.here e), h.dev.keep hk hd, h.l.keep hk hd, h.st.keep hk hd, h.ne⟩
theorem RollAt.mono {w : World} {F G : Nat → Prop} {g r : Nat} {vl vs : Value} {S : RS} (h : RollAt w F g r vl vs S) (hG : ∀ q, F q → G q) (hl : Lt G w) : RollAt w G g r vl vs S :=
 ⟨hl, hG _ h.here, h.blk, h.dev.mono hG hl, h.l.mono hG, h.st.mono hG, h.ne⟩
theorem RollIs.keep {w w' : World} {F G : Nat → Prop} {g r : Nat} {S : RS} (h : RollIs w F g r S) (hk : Keep G w w') (hd : Dj F G) : RollIs w' F g r S := by
 obtain ⟨vl, vs, h⟩ := h
 exact ⟨vl, vs, h.keep hk hd⟩
theorem RollIs.mono {w : World} {F G : Nat → Prop} {g r : Nat} {S : RS} (h : RollIs w F g r S) (hG : ∀ q, F q → G q) (hl : Lt G w) : RollIs w G g r S := by
 obtain ⟨vl, vs, h⟩ := h
 exact ⟨vl, vs, h.mono hG hl⟩
/-- Records lie in no block of a device. -/
theorem Recs.apart {w w' : World} {F : Nat → Prop} {v : Value} {l : List (List UInt8)} {g : Nat} {a b : Value} {D : DS} (h : Recs w F v l) (hD : DevAt w (Least g a b) g a b D) (K : Keep (Least g a b) w w') : Recs w' F v l := by
 obtain ⟨es, e1, e2, e3⟩ := h
 refine ⟨es, e1, e2.stay K (fun q hq e => ?_), fun e he => (e3 e he).stay K (fun q hq e' => ?_)⟩
 ·rcases e with rfl | e | e
  ·exact e2.ne hD.blk (by decide) hq
  ·exact e2.ne2 hD.l (by decide) q hq e
  ·exact e2.ne2 hD.row (by decide) q hq e
 ·rcases e' with rfl | e' | e'
  ·exact (e3 e he).ne hD.blk (by decide) hq
  ·exact (e3 e he).ne2 hD.l (by decide) q hq e'
  ·exact (e3 e he).ne2 hD.row (by decide) q hq e'
/-- Behind a call of the device. -/
theorem RollAt.dev' {w w' : World} {F : Nat → Prop} {g r : Nat} {vl vs a b : Value} {S : RS} {D' : DS} (h : RollAt w F g r vl vs S) (hD : DevAt w (Least g a b) g a b S.D) (hF : ∀ q, Least g a b q → F q) (K : Keep (Least g a b) w w') (hD' : DevIs w' (grow (Least g a b) w w') g D') :
  RollAt w' (grow F w w') g r vl vs { S with D := D' } ∧ Keep F w w' := by
 refine ⟨⟨grow_lt h.lt K.size, .inl h.here, h.blk.keep K (fun e => hD.apart h.blk (by decide) (by decide) (by decide) r e rfl), hD'.mono (fun q hq => hq.elim (fun e => .inl (hF q e)) .inr) (grow_lt h.lt K.size), (h.l.apart hD K).mono (fun q e => .inl e), (h.st.apart hD K).mono (fun q e => .inl e), h.ne⟩, K.mono (fun q _ e => hF q e)⟩
/-- The numbers that stand at the heads. -/
def seqsOf (D : DS) : List Nat := [getN ((D.at 0).take 8), getN (((D.at 0).drop 32).take 8), getN ((D.at 1).take 8), getN (((D.at 1).drop 32).take 8)]
def nextF (D : DS) : Nat := (seqsOf D).foldl (fun n x => if x < 1099511627776 then max n x else n) 0 + 1
theorem nextF_le (D : DS) : nextF D ≤ 1099511627776 := by
 have : ∀ (l : List Nat) (n : Nat), n < 1099511627776 → l.foldl (fun n x => if x < 1099511627776 then max n x else n) n < 1099511627776 := by
  intro l
  induction l with
  | nil => intro n h; exact h
  | cons x l ih => intro n h; simp only [List.foldl_cons]; exact ih _ (by split <;> omega)
 have := this (seqsOf D) 0 (by decide)
 unfold nextF
 omega
/-- What the first heads make of a roll. -/
def openP (D : DS) : Nat → RS
 | 0 => ⟨D, ⟨0, 0, 0, 0⟩, -1, [], [], 0⟩
 | k + 1 => match holdsF D k with
  | some (h, l) => if (openP D k).own.seq < h.seq then ⟨D, h, (k : Int), l, [], 0⟩ else openP D k
  | none => openP D k
def openS (D : DS) : RS := openP D 2
theorem openP_D (D : DS) : ∀ k, (openP D k).D = D
 | 0 => rfl
 | k + 1 => by
  simp only [openP]
  split
  ·split
   ·rfl
   ·exact openP_D D k
  ·exact openP_D D k
theorem openP_st (D : DS) : ∀ k, (openP D k).st = [] ∧ (openP D k).more = 0
 | 0 => ⟨rfl, rfl⟩
 | k + 1 => by
  simp only [openP]
  split
  ·split
   ·exact ⟨rfl, rfl⟩
   ·exact openP_st D k
  ·exact openP_st D k
theorem openP_none {D : DS} {k : Nat} (h : holdsF D k = none) : openP D (k + 1) = openP D k := by simp only [openP, h]
theorem openP_some {D : DS} {k : Nat} {h : Hd} {l : List (List UInt8)} (e : holdsF D k = some (h, l)) : openP D (k + 1) = if (openP D k).own.seq < h.seq then ⟨D, h, (k : Int), l, [], 0⟩ else openP D k := by simp only [openP, e]
end Go.Proofs.Ytffcglfepobdjaa
set_option maxRecDepth 100000
set_option maxHeartbeats 2000000
namespace Go.Proofs.Ytffcglfepobdjaa
open Go.RowKit
/-- copied (f67). -/
theorem copied_calls (w : World) (G : Nat → Prop) (A : Option Addr) (c : Nat) (l : List (List UInt8)) (H : ReadsL w G A l) (hl : ∀ b ∈ l, b.length ≤ 1099511627776) (hn : l.length ≤ 1099511627776) :
  Calls Try.prog 67 #[.slice A l.length c] w (fun e w' => ∃ v', e = .returned v' ∧ Recs w' (Fresh w w') v' l ∧ Keep Noth w w') := by
 have hn' : (l.length : Int) ≤ 1099511627776 := by omega
 have HA := hid H
 have Hl := hid hl
 clear H hl
 go_enter Try.func67, Try.ntmps67
 go_wp2_with fail
 go_loopw [3, 8] (fun v i wr => ∃ k : Nat, i = .int .i64 k ∧ k ≤ l.length ∧ Recs wr (Fresh w wr) v (l.take k) ∧ Keep Noth w wr) (fun _ i _ => l.length - (intOf i).toNat)
 case atStart => exact ⟨0, rfl, Nat.zero_le _, Recs.nil _ _, Keep.refl _ _⟩
 case round =>
  obtain ⟨k, rfl, hk, HR, HK⟩ := hrel
  by_cases hlt : k < l.length
  ·have hlt' : (k : Int) < l.length := by omega
   obtain ⟨b, hb⟩ : ∃ b, l[k]? = some b := ⟨_, List.getElem?_eq_getElem hlt⟩
   obtain ⟨g, o, rfl, B, c', hcell, hB, hBc, hBG⟩ := (HA.out.keep HK (Dj.noth _)).at k b hb
   have htk : l.take (k + 1) = l.take k ++ [b] := by rw [List.take_add_one, hb]; rfl
   have hlk : (l.take k).length ≤ 1099511627776 := by rw [List.length_take]; omega
   have hcl := clone75_calls wr B c' b hB hBc (Hl.out b (List.mem_of_getElem? hb))
   have Htk := hid htk
   have hs0 := HK.size
   clear htk hb
   go_wp2_with fail
   refine hcl.mono ?_
   rintro e w1 ⟨v1, rfl, HB1, K1⟩
   clear hcl
   have HR1 := HR.keep K1 (Dj.noth _)
   have hs1 := K1.size
   go_wp2_with (first
    | (guard_target = wpList _ _ _ (Oper.mk _ (Op.buildSlice _ _ _) _ _ _ _ :: _) _ _; refine wpList_slice1_v rfl 63 33 _ rfl sl63 [v1] (.slice none 0 0) info33 rfl (by decide) (by decide) (by simp [Act.eval]; exact HB1.one_val.2) rfl ?_; intro b8 w7 hb8 B8 K7)
    | (at_builtin; refine wpList_append_rec sl63 info33 rfl _ _ rfl (Fresh w wr) (Fresh wr w1) _ v1 (l.take k) b (by rfl) (HR1.keep K7 (Dj.noth _)) b8 (by rfl) B8 (HB1.keep K7 (Dj.noth _)) hlk ?_; intro v8 w8 HR8 K8 hF8))
   have hs7 := K7.size
   have hs8 := K8.size
   rw [← Htk.out] at HR8
   have HR9 : Recs w8 (Fresh w w8) v8 (l.take (k + 1)) := HR8.mono (fun q hq => by
    rcases hq with hq | hq | hq
    ·exact ⟨hq.1, by have := hq.2; omega⟩
    ·exact ⟨by have := hq.1; omega, by have := hq.2; omega⟩
    ·exact ⟨by omega, hq.2⟩)
   have K08 : Keep Noth w w8 := ((HK.trans K1 (fun _ _ h => h)).trans K7 (fun _ _ h => h)).own K8 (fun q e => (hF8 q e).1)
   clear HR8 K8 HR1 HB1 K7 B8 K1 HR hcell
   go_roundw
   case rel => exact ⟨k + 1, by go_num, hlt, HR9, K08⟩
   case measure => simp [intOf]; omega
  ·have hge : k = l.length := by omega
   subst hge
   rw [List.take_length] at HR
   go_wp2_with fail
   go_ret
   exact ⟨_, rfl, HR, HK⟩
/-- Records (f42). -/
theorem records_calls {w : World} {F : Nat → Prop} {g r : Nat} {vl vs : Value} {S : RS} (H : RollAt w F g r vl vs S) (hok : S.ok) :
  Calls Try.prog 42 #[.pointer (some ⟨r, 0, none⟩)] w (fun e w' => ∃ v', e = .returned v' ∧ Recs w' (Fresh w w') v' S.l ∧ Keep Noth w w') := by
 obtain ⟨A, c, rfl⟩ := H.l.val
 have hc := copied_calls w F A c S.l H.l.reads (fun b hb => by have := hok.l4 b hb; omega) (by have := hok.ll; omega)
 have c6 : w.cell? ⟨r, 6, none⟩ = some (.slice A S.l.length c) := H.blk.cell 6
 clear H hok
 go_enter Try.func42, Try.ntmps42
 go_wp2_with fail
 refine hc.mono ?_
 rintro e w' ⟨v', rfl, HR, K⟩
 go_wp2_with fail
 go_ret
 exact ⟨_, rfl, HR, K⟩
/-- Staged (f45). -/
theorem staged_calls {w : World} {F : Nat → Prop} {g r : Nat} {vl vs : Value} {S : RS} (H : RollAt w F g r vl vs S) :
  Calls Try.prog 45 #[.pointer (some ⟨r, 0, none⟩)] w (fun e w' => e = .returned (.int .i64 (S.st.length : Int)) ∧ w = w') := by
 obtain ⟨A, c, rfl⟩ := H.st.val
 have c7 : w.cell? ⟨r, 7, none⟩ = some (.slice A S.st.length c) := H.blk.cell 7
 clear H
 go_enter Try.func45, Try.ntmps45
 go_wp2_with fail
 go_ret
 exact ⟨rfl, rfl⟩
def RS.room (S : RS) : Int := (S.D.half : Int) - S.own.used - S.more
/-- Room (f39). -/
theorem room_calls {w : World} {F : Nat → Prop} {g r : Nat} {vl vs : Value} {S : RS} (H : RollAt w F g r vl vs S) (hok : S.ok) :
  Calls Try.prog 39 #[.pointer (some ⟨r, 0, none⟩)] w (fun e w' => e = .returned (.int .i64 S.room) ∧ Keep Noth w w') := by
 obtain ⟨a, b, hD⟩ := H.dev
 have ha := area_calls (hD.keep (Keep.refl Noth _).drew (Dj.noth _)) hok.dok
 have hu := hok.used
 have hm := hok.dok.most
 have hh : S.D.half * 2 + 2 ≤ S.D.l.length ∨ S.D.half = 0 := by unfold DS.half; omega
 have hB := H.blk
 unfold RS.room
 clear H hok hD
 go_enter Try.func39, Try.ntmps39
 go_wp2_with fail
 refine wp_region_ordL [(0, true), (1, true), (2, true), (3, true), (5, true), (6, true), (7, true), (8, true), (9, true), (11, true), (12, true), (13, true), (14, true), (4, false), (10, true), (15, true), (16, false)] (fun w' => BlockIs w' r (rollCells g S vl vs) 114) follows_mixed (by kernel_rfl) hB.drew ?_
 simp only [List.map_cons, List.map_nil, List.getElem?_cons_succ, List.getElem?_cons_zero, Option.getD_some]
 refine wpO_pure (v := .pointer (some ⟨r, 0, none⟩)) (by rfl) (fun w' hw' => by go_simp) ?_
 go_frame
 refine wpO_pure (v := .pointer (some ⟨r, 0, none⟩)) (by rfl) (fun w' hw' => by go_simp) ?_
 go_frame
 refine wpO_pure (v := .pointer (some ⟨r, 0, none⟩)) (by rfl) (fun w' hw' => by go_simp) ?_
 go_frame
 refine wpO_pure (v := .pointer (some ⟨g, 0, none⟩)) (by rfl) (fun w' hw' => by have hc : w'.cell? ⟨r, 0, none⟩ = some (.pointer (some ⟨g, 0, none⟩)) := hw'.cell 0; go_simp) ?_
 go_frame
 refine wpO_pure (v := .pointer (some ⟨r, 0, none⟩)) (by rfl) (fun w' hw' => by go_simp) ?_
 go_frame
 refine wpO_pure (v := .pointer (some ⟨r, 0, none⟩)) (by rfl) (fun w' hw' => by go_simp) ?_
 go_frame
 refine wpO_pure (v := .pointer (some ⟨r, 1, none⟩)) (by rfl) (fun w' hw' => by go_simp) ?_
 go_frame
 refine wpO_pure (v := .pointer (some ⟨r, 3, none⟩)) (by rfl) (fun w' hw' => by go_simp) ?_
 go_frame
 refine wpO_pure (v := .int .i64 (S.own.used : Int)) (by rfl) (fun w' hw' => by have hc : w'.cell? ⟨r, 3, none⟩ = some (.int .i64 (S.own.used : Int)) := hw'.cell 3; go_simp) ?_
 go_frame
 refine wpO_pure (v := .pointer (some ⟨r, 0, none⟩)) (by rfl) (fun w' hw' => by go_simp) ?_
 go_frame
 refine wpO_pure (v := .pointer (some ⟨r, 0, none⟩)) (by rfl) (fun w' hw' => by go_simp) ?_
 go_frame
 refine wpO_pure (v := .pointer (some ⟨r, 8, none⟩)) (by rfl) (fun w' hw' => by go_simp) ?_
 go_frame
 refine wpO_pure (v := .int .i64 (S.more : Int)) (by rfl) (fun w' hw' => by have hc : w'.cell? ⟨r, 8, none⟩ = some (.int .i64 (S.more : Int)) := hw'.cell 8; go_simp) ?_
 go_frame
 refine wpO_call (by rfl) (exec_call' 64 _ _ rfl Try.func64 (by kernel_rfl) (by rfl) #[.pointer (some ⟨g, 0, none⟩)] (by simp [Act.eval])) ?_
 refine (ha).mono ?_
 rintro e w' ⟨rfl, rfl⟩
 refine ⟨_, rfl, .inr hB.drew, ?_⟩
 go_frame
 refine wpO_pure (v := .int .i64 ((S.D.half : Int) - S.own.used)) (by rfl) (fun w' hw' => by go_simp; exact wrapI (by omega) (by omega)) ?_
 go_frame
 refine wpO_pure (v := .int .i64 ((S.D.half : Int) - S.own.used - S.more)) (by rfl) (fun w' hw' => by go_simp; exact wrapI (by omega) (by omega)) ?_
 go_frame
 refine wpO_run (v := .int .i64 ((S.D.half : Int) - S.own.used - S.more)) (w1 := w.drew) (by rfl) (by go_simp) (.inl rfl) (wpO_nil ?_)
 go_frame
 go_wp2_with fail
 go_ret
 exact ⟨rfl, (Keep.refl _ _).drew⟩
end Go.Proofs.Ytffcglfepobdjaa
set_option maxRecDepth 10000
set_option maxHeartbeats 1500000
namespace Go.Proofs.Ytffcglfepobdjaa
open Go.RowKit
section
variable {P : Program} {ops : Array Oper} {rest : List Oper} {o : Oper} {a : Act} {w : World}
theorem exec_buildSliceN (T E : TypeId) (n : Nat) (parts : Array (Nat × Operand)) (ho : o.op = .buildSlice T n parts) (hT : P.underlying T = some (.slice E)) {z : Value} {bytes : Nat} (hi : (P.info? E).map (fun i => (i.zero, i.size, i.bytes)) = some (some z, 1, bytes)) (hz : z.cells.size = 1)
  (vs : List Value) (hn : n = vs.length) (h0 : 0 < n) (hm : n ≤ 16777216) (hp : (parts.map fun (i, x) => (i, a.eval x)).toList = (vs.zipIdx 0).map fun x => (x.2, x.1)) (h1 : ∀ v ∈ vs, v.oneCell' = true) :
  (execOp a.eval o).run P w = .ok (.value (.slice (some ⟨w.heap.size, 0, none⟩) n n)) (w.alloc (.cells vs.toArray E)) := by
 cases hie : P.info? E with
 | none => simp [hie] at hi
 | some ie =>
  have hi' : ie.zero = some z ∧ ie.size = 1 := by
   simp [hie] at hi; exact ⟨hi.1, hi.2.1⟩
  unfold execOp
  simp only [ho, Sem.run_bind]
  rw [run_buildSlice w T E n _ vs.toArray ie z hT hie hi'.1 (by rw [hi'.2]; omega) (by rw [hi'.2]; omega) ?_]
  ·simp [Result.andThen]
  ·rw [hp, hi'.2]
   exact Great.fill_flat _ _ (fun v hv => by have := h1 v hv; cases v <;> first | rfl | cases this) (by simp [hn])
/-- Such a slice, the world abstract. -/
theorem wpList_sliceN {Q : Exit → Act → World → Prop} (hgd : o.guard = none) (T E : TypeId) (n : Nat) (parts : Array (Nat × Operand)) (ho : o.op = .buildSlice T n parts) (hT : P.underlying T = some (.slice E)) {z : Value} {bytes : Nat} (hi : (P.info? E).map (fun i => (i.zero, i.size, i.bytes)) = some (some z, 1, bytes)) (hz : z.cells.size = 1)
  (vs : List Value) (hn : n = vs.length) (h0 : 0 < n) (hm : n ≤ 16777216) (hp : (parts.map fun (i, x) => (i, a.eval x)).toList = (vs.zipIdx 0).map fun x => (x.2, x.1)) (h1 : ∀ v ∈ vs, v.oneCell' = true)
  (h : ∀ b w1, w.heap.size ≤ b → BlockIs w1 b vs E → Keep Noth w w1 → wpList P ops Q rest (a.put o.dst (.slice (some ⟨b, 0, none⟩) n n)) w1) : wpList P ops Q (o :: rest) a w :=
 wpList_run hgd _ _ (exec_buildSliceN T E n parts ho hT hi hz vs hn h0 hm hp h1) (h _ _ (Nat.le_refl _) (BlockIs.new w vs E) ((Keep.refl _ _).alloc _))
theorem wpO_sliceN {Q : Act → World → Prop} {S : World → Prop} {r : List (Oper × Bool)} (hg : Region.wanted o (yielded ops a.tmps) = true) (T E : TypeId) (n : Nat) (parts : Array (Nat × Operand)) (ho : o.op = .buildSlice T n parts) (hT : P.underlying T = some (.slice E)) {z : Value} {bytes : Nat} (hi : (P.info? E).map (fun i => (i.zero, i.size, i.bytes)) = some (some z, 1, bytes)) (hz : z.cells.size = 1)
  (vs : List Value) (hn : n = vs.length) (h0 : 0 < n) (hm : n ≤ 16777216) (hp : (parts.map fun (i, x) => (i, a.eval x)).toList = (vs.zipIdx 0).map fun x => (x.2, x.1)) (h1 : ∀ v ∈ vs, v.oneCell' = true)
  (h : ∀ b w1, w.heap.size ≤ b → BlockIs w1 b vs E → Keep Noth w w1 → (r = [] ∨ S w1) ∧ wpO P ops Q S r (a.put o.dst (.slice (some ⟨b, 0, none⟩) n n)) w1) : wpO P ops Q S ((o, false) :: r) a w := by
 have := h _ _ (Nat.le_refl _) (BlockIs.new w vs E) ((Keep.refl _ _).alloc _)
 exact wpO_run hg (exec_buildSliceN T E n parts ho hT hi hz vs hn h0 hm hp h1) this.1 this.2
end
/-- As 'wpOrd_of_O', with operations that are carried out, but for the last. -/
def lastT : List (Nat × Bool) → Bool
 | [] => true
 | [(_, b)] => b
 | _ :: q :: r => lastT (q :: r)
theorem wpOrd_of_M {P : Program} {ops : Array Oper} {Q : Act → World → Prop} {S : World → Prop} : ∀ (ord : List (Nat × Bool)) (a : Act) (w : World), (∀ p ∈ ord, p.1 < ops.size) → lastT ord = true → wpO P ops Q S (ord.map fun p => ((ops.toList[p.1]?).getD default, p.2)) a w → wpOrd P ops Q S ord a w
 | [], _, _, _, _, h => h
 | (i, true) :: r, a, w, hl, ht, h => by
  have hi : i < ops.size := hl (i, true) (by simp)
  have he : ops[i]? = some ((ops.toList[i]?).getD default) := by simp [hi]
  obtain ⟨v, hy, h'⟩ := h
  exact ⟨_, v, he, hy, wpOrd_of_M r _ _ (fun p hp => hl p (by simp [hp])) (by cases r with | nil => rfl | cons q r => exact ht) h'⟩
 | (i, false) :: r, a, w, hl, ht, h => by
  have hi : i < ops.size := hl (i, false) (by simp)
  have he : ops[i]? = some ((ops.toList[i]?).getD default) := by simp [hi]
  have hne : r ≠ [] := fun e => by subst e; cases ht
  have ht' : lastT r = true := by cases r with | nil => exact absurd rfl hne | cons q r => exact ht
  have hr := wpOrd_of_M (P := P) (ops := ops) (S := S) (Q := Q) r
  show wpOp _ _ _ _ _ _ _
  unfold wpOp
  rw [he]
  simp only [List.map_cons, wpO, List.map_eq_nil_iff] at h
  show if Region.wanted ((ops.toList[i]?).getD default) (yielded ops a.tmps) = true then _ else _
  split
  ·rename_i hw
   rw [if_pos hw] at h
   exact .inl (Oper.wp_mono (fun a' w' h' => ⟨h'.1.resolve_left hne, hr a' w' (fun p hp => hl p (by simp [hp])) ht' h'.2⟩) h)
  ·rename_i hw
   rw [if_neg hw] at h
   exact ⟨h.1.resolve_left hne, hr _ _ (fun p hp => hl p (by simp [hp])) ht' h.2⟩
theorem wp_region_ordM {P : Program} {id : Nat} {Q : Exit → Act → World → Prop} {a : Act} {w : World} {l : List Oper} (ord : List (Nat × Bool)) (S : World → Prop) (hm : P.follows .mixedOrders = true)
  (hB : (decide (ord.length = l.length) && Region.noSelect l.toArray && ordB .any l.toArray ord (Array.replicate l.toArray.size false) && ord.all (fun p => decide (p.1 < l.length)) && lastT ord) = true) (hS : S w.drew)
  (h : wpO P l.toArray (fun a' w' => Q .normal a' w') S (ord.map fun p => ((l[p.1]?).getD default, p.2)) a w.drew) : (Code.region id l.toArray true).wp P Q a w := by
 simp only [Bool.and_eq_true, decide_eq_true_eq, List.all_eq_true] at hB
 obtain ⟨⟨⟨⟨h1, h2⟩, h6⟩, h7⟩, h8⟩ := hB
 refine wp_mono (Q := Qn (fun a' w' => Q .normal a' w')) (wp_region_held (S := S) hm ?_) (fun e a w h => by cases e <;> first | exact h | exact h.elim)
 have h' := wpOrd_of_M (ops := l.toArray) ord a w.drew (fun p hp => by simpa using h7 p hp) h8 (by simpa using h)
 have := wpOrd_sound (md := .any) h2 ord _ a w.drew h6 hS h'
 rw [h1] at this
 simpa using this
end Go.Proofs.Ytffcglfepobdjaa
set_option maxRecDepth 100000
set_option maxHeartbeats 2000000
namespace Go.Proofs.Ytffcglfepobdjaa
open Go.RowKit
def maxF (n : Nat) (l : List Nat) : Nat := l.foldl (fun n x => if x < 1099511627776 then max n x else n) n
theorem maxF_snoc (n : Nat) (l : List Nat) (x : Nat) : maxF n (l ++ [x]) = if x < 1099511627776 then max (maxF n l) x else maxF n l := by simp [maxF, List.foldl_append]
theorem maxF_lt : ∀ (l : List Nat) (n : Nat), n < 1099511627776 → maxF n l < 1099511627776
 | [], n, h => h
 | x :: l, n, h => by
  unfold maxF
  simp only [List.foldl_cons]
  exact maxF_lt l _ (by split <;> omega)
theorem maxF_app (n : Nat) (l m : List Nat) : maxF n (l ++ m) = maxF (maxF n l) m := by simp [maxF, List.foldl_append]
def pairOf (b : Bk) : List Nat := [getN (b.take 8), getN ((b.drop 32).take 8)]
def pairs (D : DS) (k : Nat) : List Nat := ((List.range k).map fun j => pairOf (D.at j)).flatten
theorem pairs_succ (D : DS) (k : Nat) : pairs D (k + 1) = pairs D k ++ pairOf (D.at k) := by simp [pairs, List.range_succ]
theorem nextF_pairs (D : DS) : nextF D = maxF 0 (pairs D 2) + 1 := by rfl
theorem pairOf_two (b : Bk) : (pairOf b).length = 2 := rfl
theorem pairOf_lt {b : Bk} (h : b.length = 64) : ∀ x ∈ pairOf b, x < 18446744073709551616 := by
 intro x hx
 simp only [pairOf, List.mem_cons, List.not_mem_nil, or_false] at hx
 rcases hx with rfl | rfl
 ·have := getN_lt (b.take 8); rwa [show (b.take 8).length = 8 by rw [List.length_take]; omega] at this
 ·have := getN_lt ((b.drop 32).take 8); rwa [show ((b.drop 32).take 8).length = 8 by rw [List.length_take, List.length_drop]; omega] at this
theorem sl143 : Try.prog.underlying 143 = some (.slice 110) := by kernel_rfl
theorem next_calls {w : World} {F : Nat → Prop} {g r : Nat} {vl vs : Value} {S : RS} (H : RollAt w F g r vl vs S) (hok : S.ok) (hd : S.D.down = false) (hr : S.D.row.length ≤ 1099511627776) :
  Calls Try.prog 71 #[.pointer (some ⟨r, 0, none⟩)] w (fun e w' => e = .returned (.int .u64 (nextF S.D : Int)) ∧ Keep Noth w w') := by
 obtain ⟨va, vb, hD⟩ := H.dev
 have hB := H.blk
 have hl4 := hok.four
 have hdok := hok.dok
 have HD := hid hD
 have HB := hid hB
 clear H hD hok hB
 go_enter Try.func71, Try.ntmps71
 go_wp2_with fail
 go_loopw [3, 9] (fun n k wr => ∃ i : Nat, k = .int .i64 i ∧ i ≤ 2 ∧ n = .int .u64 (maxF 0 (pairs S.D i) : Int) ∧ Keep Noth w wr) (fun _ k _ => 2 - (intOf k).toNat)
 case atStart => exact ⟨0, rfl, by omega, rfl, Keep.refl _ _⟩
 case round =>
  obtain ⟨i, rfl, hi, rfl, HK⟩ := hrel
  by_cases hlt : i < 2
  ·have hlt' : (i : Int) < 2 := by omega
   have hDr := HD.out.keep HK (Dj.noth _)
   have c0 : wr.cell? ⟨r, 0, none⟩ = some (.pointer (some ⟨g, 0, none⟩)) := (HB.out.keep HK id).cell 0
   have hrd := read_ok hDr hd hdok hr i (by omega)
   have h64 := at_64 hdok i (by omega)
   have hps := pairs_succ S.D i
   obtain ⟨B, hBB⟩ : ∃ B, B = S.D.at i := ⟨_, rfl⟩
   rw [← hBB] at hrd h64 hps
   obtain ⟨n0, hn0⟩ : ∃ n0, n0 = maxF 0 (pairs S.D i) := ⟨_, rfl⟩
   have hn0l : n0 < 1099511627776 := by rw [hn0]; exact maxF_lt _ _ (by decide)
   rw [← hn0]
   have q1 := fun b7 => @get_part b7 B h64
   have Q1 : Hid (∀ (b7 : Nat) W, BlockIs W b7 (bv B) 103 → Calls Try.prog 90 #[.slice (some ⟨b7, 0, none⟩) 8 64] W (fun e w' => e = .returned (.int .u64 (getN (B.take 8) : Int)) ∧ W = w')) := hid (fun b7 W HB => by have := q1 b7 0 8 64 (by decide) (by decide) W HB; rw [List.drop_zero] at this; exact this)
   have Q2 : Hid (∀ (b7 : Nat) W, BlockIs W b7 (bv B) 103 → Calls Try.prog 90 #[.slice (some ⟨b7, 32, none⟩) 8 32] W (fun e w' => e = .returned (.int .u64 (getN ((B.drop 32).take 8) : Int)) ∧ W = w')) := hid (fun b7 W HB => q1 b7 32 8 32 (by decide) (by decide) W HB)
   have hpl := pairOf_lt h64
   have Hps := hid hps
   have Hn0 := hid hn0
   have Hpl := hid hpl
   have hs0 := HK.size
   have Hi := hid hlt
   clear q1 h64 hps hBB hn0 hpl hDr hi hlt
   go_wp2_with fail
   refine hrd.mono ?_
   rintro e w2 ⟨b7, rfl, hb7, B7, K2⟩
   clear hrd
   have K02 := HK.trans K2 (fun _ _ h => h)
   clear c0
   go_wp2_with fail
   refine wp_region_ordM [(8, true), (0, true), (1, true), (3, true), (4, true), (2, false), (5, false), (6, false), (7, true)] (fun w' => BlockIs w' b7 (bv B) 103) follows_mixed (by kernel_rfl) B7.drew ?_
   simp only [List.map_cons, List.map_nil, List.getElem?_cons_succ, List.getElem?_cons_zero, Option.getD_some]
   refine wpO_pure (v := .int .i64 0) (by rfl) (fun w' hw' => by go_simp) ?_
   go_frame
   refine wpO_pure (v := .slice (some ⟨b7, 0, none⟩) 64 64) (by rfl) (fun w' hw' => by rfl) ?_
   go_frame
   refine wpO_pure (v := .slice (some ⟨b7, 0, none⟩) 8 64) (by rfl) (fun w' hw' => by go_simp) ?_
   go_frame
   refine wpO_pure (v := .slice (some ⟨b7, 0, none⟩) 64 64) (by rfl) (fun w' hw' => by rfl) ?_
   go_frame
   refine wpO_pure (v := .slice (some ⟨b7, 32, none⟩) 8 32) (by rfl) (fun w' hw' => by go_simp) ?_
   go_frame
   refine wpO_call (by rfl) (exec_call' 90 _ _ rfl Try.func90 (by kernel_rfl) (by rfl) #[.slice (some ⟨b7, 0, none⟩) 8 64] (by simp [Act.eval])) ?_
   refine (Q1.out b7 _ B7.drew).mono ?_
   rintro e w' ⟨rfl, rfl⟩
   refine ⟨_, rfl, .inr B7.drew, ?_⟩
   go_frame
   refine wpO_call (by rfl) (exec_call' 90 _ _ rfl Try.func90 (by kernel_rfl) (by rfl) #[.slice (some ⟨b7, 32, none⟩) 8 32] (by simp [Act.eval])) ?_
   refine (Q2.out b7 _ B7.drew).mono ?_
   rintro e w' ⟨rfl, rfl⟩
   refine ⟨_, rfl, .inr B7.drew, ?_⟩
   go_frame
   refine wpO_sliceN (by rfl) 143 110 2 _ rfl sl143 info110 rfl [.int .u64 (getN (B.take 8) : Int), .int .u64 (getN ((B.drop 32).take 8) : Int)] rfl (by decide) (by decide) (by simp [Act.eval]) (by intro v hv; simp at hv; rcases hv with rfl | rfl <;> rfl) ?_
   intro b8 w8 hb8 B8 K8
   refine ⟨.inr (B7.drew.keep K8 id), ?_⟩
   have K08 : Keep Noth w w8 := K02.drew.trans K8 (fun _ _ h => h)
   clear K8 K02 K2 B7
   go_frame
   refine wpO_pure (v := .int .i64 2) (by rfl) (fun w' hw' => by go_simp) (wpO_nil ?_)
   go_frame
   go_wp2_with fail
   go_loopw [3, 29] (fun n k wq => ∃ j : Nat, k = .int .i64 j ∧ j ≤ 2 ∧ n = .int .u64 (maxF n0 ((pairOf B).take j) : Int) ∧ wq = w8) (fun _ k _ => 2 - (intOf k).toNat)
   case atStart => exact ⟨0, rfl, by omega, rfl, rfl⟩
   case round =>
    obtain ⟨j, rfl, hj, rfl, rfl⟩ := hrel
    by_cases hjt : j < 2
    ·have hjt' : (j : Int) < 2 := by omega
     obtain ⟨x, hx⟩ : ∃ x, (pairOf B)[j]? = some x := ⟨_, List.getElem?_eq_getElem (by rw [pairOf_two]; exact hjt)⟩
     have htk : (pairOf B).take (j + 1) = (pairOf B).take j ++ [x] := by rw [List.take_add_one, hx]; rfl
     have hms := maxF_snoc n0 ((pairOf B).take j) x
     rw [← htk] at hms
     have hcell : wr.cell? ⟨b8, j, none⟩ = some (.int .u64 (x : Int)) := by
      rw [B8.cell]
      rcases (show j = 0 ∨ j = 1 by omega) with rfl | rfl
      ·simp [pairOf] at hx; subst hx; rfl
      ·simp [pairOf] at hx; subst hx; rfl
     obtain ⟨m, hm⟩ : ∃ m, m = maxF n0 ((pairOf B).take j) := ⟨_, rfl⟩
     rw [← hm] at hms ⊢
     have hxl := Hpl.out x (List.mem_of_getElem? hx)
     have Hms := hid hms
     have Hm := hid hm
     have Hj := hid hjt
     clear hms hm htk hx hj hjt
     by_cases hfar : (x : Int) < 1099511627776
     ·by_cases hmx : m < x
      ·go_wp2_with fail
       go_roundw
       case rel => exact ⟨j + 1, rfl, Hj.out, by rw [Hms.out, if_pos (by omega), Nat.max_eq_right (by omega)], trivial⟩
       case measure => simp [intOf]; omega
      ·go_wp2_with fail
       go_roundw
       case rel => exact ⟨j + 1, rfl, Hj.out, by rw [Hms.out, if_pos (by omega), Nat.max_eq_left (by omega)], trivial⟩
       case measure => simp [intOf]; omega
     ·go_wp2_with fail
      go_roundw
      case rel => exact ⟨j + 1, rfl, Hj.out, by rw [Hms.out, if_neg (by omega)], trivial⟩
      case measure => simp [intOf]; omega
    ·obtain rfl : j = 2 := by omega
     have HP : ∃ i' : Nat, Value.int .i64 ((i : Int) + 1) = .int .i64 (i' : Int) ∧ i' ≤ 2 ∧ Value.int .u64 (maxF n0 ((pairOf B).take 2) : Int) = .int .u64 (maxF 0 (pairs S.D i') : Int) ∧ Keep Noth w wr := ⟨i + 1, rfl, Hi.out, by rw [Hps.out, maxF_app, ← Hn0.out, List.take_of_length_le (by rw [pairOf_two]; exact Nat.le_refl _)], K08⟩
     go_wp2_with fail
     go_roundw
     case rel => exact HP
     case measure => simp [intOf]; omega
  ·obtain rfl : i = 2 := by omega
   have hnp := nextF_pairs S.D
   obtain ⟨m, hm⟩ : ∃ m, m = maxF 0 (pairs S.D 2) := ⟨_, rfl⟩
   have hml : m < 1099511627776 := by rw [hm]; exact maxF_lt _ _ (by decide)
   rw [← hm] at hnp ⊢
   have Hnp := hid hnp
   clear hnp hm hi hlt
   go_wp2_with fail
   go_ret
   rw [Hnp.out]
   exact ⟨by push_cast; rfl, HK⟩
theorem build114 (p : Option Addr) (W : World) : (Instr.build 114 #[(0, .pointer p), (2, .int .i64 (-1))]).run Try.prog W = .ok (.agg [.pointer p, .int .u64 0, .int .i64 0, .int .i64 0, .int .i64 0, .int .i64 (-1), .slice none 0 0, .slice none 0 0, .int .i64 0].toArray) W := by kernel_rfl
theorem exec_build114 {a : Act} {w : World} {o : Oper} (x : Operand) (ho : o.op = .build 114 #[(0, x), (2, .const (.int .i64 (-1)))]) (p : Option Addr) (hx : a.eval x = .pointer p) :
  (execOp a.eval o).run Try.prog w = .ok (.value (.agg [.pointer p, .int .u64 0, .int .i64 0, .int .i64 0, .int .i64 0, .int .i64 (-1), .slice none 0 0, .slice none 0 0, .int .i64 0].toArray)) w := by
 have hc : ∀ v, a.eval (.const v) = v := fun v => rfl
 unfold execOp
 simp only [ho, List.map_toArray, List.map_cons, List.map_nil, hx, hc, Sem.run_bind, Sem.run_pure, Result.andThen_ok, build114 p]
section
variable {P : Program} {ops : Array Oper} {rest : List Oper} {o : Oper} {a : Act} {w : World} {Q : Exit → Act → World → Prop}
/-- A part of a variable is stored into. -/
theorem wpList_store_part (hgd : o.guard = none) (ty : TypeId) (x y : Operand) (ho : o.op = .store ty x y) (b k : Nat) (zs cs : List Value) (t : TypeId) {z : Option Value} {bytes : Nat}
  (hx : a.eval x = .pointer (some ⟨b, k, none⟩)) (hy : a.eval y = .agg cs.toArray) (hb : BlockIs w b zs t) (hl : k + cs.length ≤ zs.length) (hi : (P.info? ty).map (fun i => (i.zero, i.size, i.bytes)) = some (z, cs.length, bytes)) (h1 : ∀ u ∈ cs, u.oneCell' = true)
  (h : ∀ w1, BlockIs w1 b (splice zs k cs) t → Keep (Only b) w w1 → wpList P ops Q rest (a.put o.dst undef) w1) : wpList P ops Q (o :: rest) a w :=
 wpList_store_there hgd ty x y ho b k cs hx hy (hb.there k _ (by omega)) hi h1 (h _ (BlockIs.setCells cs k w zs hb hl) (Keep.setCells _ _ (Keep.refl _ _) (fun _ => rfl)))
end
theorem open_nil (w : World) : Calls Try.prog 47 #[.pointer none] w (fun e w' => e = .returned (.tuple #[.pointer none, .int .i64 1]) ∧ w = w') := by
 go_enter Try.func47, Try.ntmps47
 go_wp2_with fail
 go_ret2
 exact ⟨rfl, rfl⟩
theorem open_down {w : World} {F : Nat → Prop} {g : Nat} {vl vr : Value} {D : DS} (hD : DevAt w F g vl vr D) (hd : D.down = true) : Calls Try.prog 47 #[.pointer (some ⟨g, 0, none⟩)] w (fun e w' => e = .returned (.tuple #[.pointer none, .int .i64 100]) ∧ w = w') := by
 have h := down_calls hD
 rw [hd] at h
 clear hD
 go_enter Try.func47, Try.ntmps47
 go_wp2_with fail
 refine h.mono ?_
 rintro e w' ⟨rfl, rfl⟩
 go_wp2_with fail
 go_ret2
 exact ⟨rfl, rfl⟩
theorem open_form {w : World} {F : Nat → Prop} {g : Nat} {vl vr : Value} {D : DS} (hD : DevAt w F g vl vr D) (hd : D.down = false) (hok : D.ok) (hs : D.l.length < 4) : Calls Try.prog 47 #[.pointer (some ⟨g, 0, none⟩)] w (fun e w' => e = .returned (.tuple #[.pointer none, .int .i64 110]) ∧ w = w') := by
 have h := down_calls hD
 have hc := count_calls hD
 have ha := area_calls hD hok
 have hh : D.half = 0 := by unfold DS.half; omega
 rw [hd] at h
 rw [hh] at ha
 clear hD hh
 by_cases h2 : D.l.length < 2
 ·have h2' : (D.l.length : Int) < 2 := by omega
  generalize D.l.length = n at *
  clear hs h2
  go_enter Try.func47, Try.ntmps47
  go_wp2_with fail
  refine h.mono ?_
  rintro e w' ⟨rfl, rfl⟩
  go_wp2_with fail
  refine hc.mono ?_
  rintro e w' ⟨rfl, rfl⟩
  go_wp2_with fail
  go_ret2
  exact ⟨rfl, rfl⟩
 ·have h2' : ¬ (D.l.length : Int) < 2 := by omega
  generalize D.l.length = n at *
  clear hs h2
  go_enter Try.func47, Try.ntmps47
  go_wp2_with fail
  refine h.mono ?_
  rintro e w' ⟨rfl, rfl⟩
  go_wp2_with fail
  refine hc.mono ?_
  rintro e w' ⟨rfl, rfl⟩
  go_wp2_with fail
  refine ha.mono ?_
  rintro e w' ⟨rfl, rfl⟩
  go_wp2_with fail
  go_ret2
  exact ⟨rfl, rfl⟩
theorem open_ok {w : World} {F : Nat → Prop} {g : Nat} {va vr : Value} {D : DS} (hD : DevAt w F g va vr D) (hd : D.down = false) (hok : D.ok) (hr : D.row.length ≤ 1099511627776) (h4 : 4 ≤ D.l.length) :
  Calls Try.prog 47 #[.pointer (some ⟨g, 0, none⟩)] w (fun e w' => ∃ r, e = .returned (.tuple #[.pointer (some ⟨r, 0, none⟩), .int .i64 0]) ∧ w.heap.size ≤ r ∧ (∃ vl vs, RollAt w' (grow F w w') g r vl vs (openS D)) ∧ Keep Noth w w') := by
 have h := down_calls hD
 have hc := count_calls hD
 have ha := area_calls hD hok
 have hh : 1 ≤ D.half := by unfold DS.half; omega
 have hh1 : ¬ ((D.half : Int) < 1) := by omega
 have h2' : ¬ (D.l.length : Int) < 2 := by omega
 rw [hd] at h
 have HD := hid hD
 have H4 := hid h4
 clear hD hh h4
 go_enter Try.func47, Try.ntmps47
 go_wp2_with fail
 refine h.mono ?_
 rintro e w' ⟨rfl, rfl⟩
 go_wp2_with fail
 refine hc.mono ?_
 rintro e w' ⟨rfl, rfl⟩
 go_wp2_with fail
 refine ha.mono ?_
 rintro e w' ⟨rfl, rfl⟩
 clear h hc ha
 go_wp2_with (first
  | (guard_target = wpList _ _ _ (Oper.mk _ (Op.build 114 _) _ _ _ _ :: _) _ _; refine wpList_run rfl _ _ (exec_build114 _ rfl _ (by rfl)) ?_)
  | (guard_target = wpList _ _ _ (Oper.mk _ (Op.box 114 _) _ _ _ _ :: _) _ _; refine wpList_box_v rfl 114 _ rfl (rollCells g (openP D 0) (.slice none 0 0) (.slice none 0 0)) (by rfl) ?_; intro r w1 hr1 B1 K1))
 have hst : ∃ vl, RollAt w1 (grow F w w1) g r vl (.slice none 0 0) (openP D 0) :=
  ⟨_, grow_lt HD.out.lt K1.size, .inr ⟨hr1, B1.lt⟩, B1, DevIs.mono ⟨_, _, HD.out.keep K1 (Dj.noth _)⟩ (fun q hq => .inl hq) (grow_lt HD.out.lt K1.size), Recs.nil _ _, Recs.nil _ _, fun q e => by cases e⟩
 clear B1 hh1 h2'
 go_loopw [27] (fun k wr => ∃ i : Nat, k = .int .i64 i ∧ i ≤ 2 ∧ (∃ vl, RollAt wr (grow F w wr) g r vl (.slice none 0 0) (openP D i)) ∧ Keep Noth w wr) (fun k _ => 2 - (intOf k).toNat)
 case atStart => exact ⟨0, rfl, by omega, hst, K1⟩
 case round =>
  obtain ⟨i, rfl, hi, ⟨vl, HR⟩, HK⟩ := hrel
  clear hst K1
  by_cases hlt : i < 2
  ·have hlt' : (i : Int) < 2 := by omega
   have hho := holds_calls (HD.out.keep HK (Dj.noth _)) hd hok hr i (by have := H4.out; omega) H4.out
   have hHR := hid HR
   have Hi := hid hlt
   clear HR hi hlt
   go_wp2_with fail
   refine hho.mono ?_
   rintro e w2 ⟨h, v2, rfl, ⟨A2, n2, c2, rfl⟩, hP, K2⟩
   clear hho
   have hP' := hid hP
   have hs0 := HK.size
   have hs2 := K2.size
   clear hP
   go_wp2_with (first
    | (guard_target = wpList _ _ _ (Oper.mk _ (Op.alloc 112) _ _ _ _ :: _) _ _; refine wpList_alloc_v rfl 112 rfl (.agg zhead.toArray) info112 zhead rfl ?_; intro b6 w3 hb6 B6 K3)
    | (guard_target = wpList _ _ _ (Oper.mk _ (Op.store 112 _ _) _ _ _ _ :: _) _ _; refine wpList_store_whole rfl 112 _ _ rfl b6 _ h.cells 112 (by rfl) (by rfl) B6 rfl info112 (hd_one h) ?_; intro w4 B4 K4))
   have hs3 := K3.size
   have hs4 := K4.size
   have K24 : Keep Noth w2 w4 := K3.own K4 (fun q e => by unfold Only at e; subst e; exact hb6)
   have K04 : Keep Noth w w4 := (HK.trans K2 (fun _ _ h => h)).trans K24 (fun _ _ h => h)
   have HR4 : RollAt w4 (grow F w wr) g r vl (.slice none 0 0) (openP D i) := ((hHR.out.keep K2 (Dj.noth _)).keep K24 (Dj.noth _))
   have hrne : r ≠ b6 := fun e => by have := hHR.out.lt r hHR.out.here; omega
   have hPP : ∀ h' l, holdsF D i = some (h', l) → h = h' ∧ Recs w4 (grow F w w4) (.slice A2 n2 c2) l := fun h' l e => ⟨(hP'.out h' l e).1, ((((hP'.out h' l e).2).keep K24 (Dj.noth _)).mono (fun q hq => .inr ⟨by have := hq.1; omega, by have := hq.2; omega⟩))⟩
   have HPP := hid hPP
   clear K3 K4 B6 K2 HK hPP hHR hP'
   have HRB := HR4.blk
   obtain ⟨S, hS⟩ : ∃ S, S = openP D i := ⟨_, rfl⟩
   rw [← hS] at HR4 HRB
   have HS := hid hS
   clear hS
   cases hf : holdsF D i with
   | none =>
    have hPn : RollAt w4 (grow F w w4) g r vl (.slice none 0 0) (openP D (i + 1)) := by rw [openP_none hf, ← HS.out]; exact HR4.mono (fun q hq => hq.elim .inl (fun h => .inr ⟨h.1, by have := h.2; omega⟩)) (grow_lt HD.out.lt K04.size)
    rw [Option.isSome_none]
    clear hf HR4
    go_wp2_with fail
    refine wp_region_ordQ [(0, true), (1, true), (2, true), (3, true), (4, true), (5, true), (6, true), (7, true), (8, true), (9, true), (10, true)] (fun w' => BlockIs w' b6 h.cells 112 ∧ BlockIs w' r (rollCells g S vl (.slice none 0 0)) 114) follows_mixed (by kernel_rfl) ⟨B4.drew, HRB.drew⟩ ?_
    simp only [List.map_cons, List.map_nil, List.getElem?_cons_succ, List.getElem?_cons_zero, Option.getD_some]
    refine wpO_pure (v := .bool false) (by rfl) (fun w' hw' => by rfl) ?_
    go_frame
    refine wpO_pure (v := .bool false) (by rfl) (fun w' hw' => by rfl) ?_
    go_frame
    refine wpO_skip (by rfl) ?_
    go_frame
    refine wpO_skip (by rfl) ?_
    go_frame
    refine wpO_skip (by rfl) ?_
    go_frame
    refine wpO_skip (by rfl) ?_
    go_frame
    refine wpO_skip (by rfl) ?_
    go_frame
    refine wpO_skip (by rfl) ?_
    go_frame
    refine wpO_skip (by rfl) ?_
    go_frame
    refine wpO_skip (by rfl) ?_
    go_frame
    refine wpO_pure (v := .bool false) (by rfl) (fun w' hw' => by go_simp) (wpO_nil ?_)
    go_frame
    go_wp2_with fail
    go_roundw
    case rel => exact ⟨i + 1, rfl, Hi.out, ⟨vl, hPn.keep (Keep.refl Noth _).drew (Dj.noth _)⟩, K04.drew⟩
    case measure => simp [intOf]; omega
   | some p =>
    obtain ⟨h', l⟩ := p
    obtain ⟨rfl, hl⟩ := HPP.out h' l hf
    have hop := openP_some hf
    rw [← HS.out] at hop
    rw [Option.isSome_some]
    have Hl := hid hl
    clear hf hl
    by_cases hgt : S.own.seq < h.seq
    ·rw [if_pos hgt] at hop
     have Hop := hid hop
     have hgt' : (S.own.seq : Int) < h.seq := by omega
     clear hgt hop
     go_wp2_with fail
     refine wp_region_ordQ [(0, true), (1, true), (2, true), (3, true), (4, true), (5, true), (6, true), (7, true), (8, true), (9, true), (10, true)] (fun w' => BlockIs w' b6 h.cells 112 ∧ BlockIs w' r (rollCells g S vl (.slice none 0 0)) 114) follows_mixed (by kernel_rfl) ⟨B4.drew, HRB.drew⟩ ?_
     simp only [List.map_cons, List.map_nil, List.getElem?_cons_succ, List.getElem?_cons_zero, Option.getD_some]
     refine wpO_pure (v := .bool true) (by rfl) (fun w' hw' => by rfl) ?_
     go_frame
     refine wpO_pure (v := .bool true) (by rfl) (fun w' hw' => by rfl) ?_
     go_frame
     refine wpO_pure (v := .pointer (some ⟨b6, 0, none⟩)) (by rfl) (fun w' hw' => by go_simp) ?_
     go_frame
     refine wpO_pure (v := .int .u64 (h.seq : Int)) (by rfl) (fun w' hw' => by have hc : w'.cell? ⟨b6, 0, none⟩ = some (.int .u64 (h.seq : Int)) := hw'.1.cell 0; go_simp) ?_
     go_frame
     refine wpO_pure (v := .pointer (some ⟨r, 0, none⟩)) (by rfl) (fun w' hw' => by rfl) ?_
     go_frame
     refine wpO_pure (v := .pointer (some ⟨r, 0, none⟩)) (by rfl) (fun w' hw' => by go_simp) ?_
     go_frame
     refine wpO_pure (v := .pointer (some ⟨r, 1, none⟩)) (by rfl) (fun w' hw' => by go_simp) ?_
     go_frame
     refine wpO_pure (v := .pointer (some ⟨r, 1, none⟩)) (by rfl) (fun w' hw' => by go_simp) ?_
     go_frame
     refine wpO_pure (v := .int .u64 (S.own.seq : Int)) (by rfl) (fun w' hw' => by have hc : w'.cell? ⟨r, 1, none⟩ = some (.int .u64 (S.own.seq : Int)) := hw'.2.cell 1; go_simp) ?_
     go_frame
     refine wpO_pure (v := .bool true) (by rfl) (fun w' hw' => by go_simp) ?_
     go_frame
     refine wpO_pure (v := .bool true) (by rfl) (fun w' hw' => by go_simp) (wpO_nil ?_)
     go_frame
     go_wp2_with (first
      | (guard_target = wpList _ _ _ (Oper.mk _ (Op.load 112 _) _ _ _ _ :: _) _ _; refine wpList_load_blk rfl 112 _ rfl b6 0 h.cells h.cells 112 _ (by rfl) B4.drew (part0 _) Try.underlying112 rfl info112 ?_)
      | (guard_target = wpList _ _ _ (Oper.mk _ (Op.store 112 _ _) _ _ _ _ :: _) _ _; refine wpList_store_part rfl 112 _ _ rfl r 1 _ h.cells 114 (by rfl) (by rfl) HRB.drew (Nat.le_of_ble_eq_true rfl) info112 (hd_one h) ?_; intro w5 B5 K5)
      | (guard_target = wpList _ _ _ (Oper.mk _ (Op.store 63 _ _) _ _ _ _ :: _) _ _; refine wpList_store_blk rfl 63 _ _ rfl r 6 _ 114 (.slice A2 n2 c2) (by rfl) (by rfl) B5 (Nat.le_of_ble_eq_true rfl) rfl rfl info63 ?_; intro w6 B6 K6)
      | (guard_target = wpList _ _ _ (Oper.mk _ (Op.store 3 _ _) _ _ _ _ :: _) _ _; refine wpList_store_blk rfl 3 _ _ rfl r 5 _ 114 (.int .i64 (i : Int)) (by rfl) (by rfl) B6 (Nat.le_of_ble_eq_true rfl) rfl rfl info3 ?_; intro w7 B7 K7))
     have hB7 : BlockIs w7 r (rollCells g ⟨D, h, (i : Int), l, [], 0⟩ (.slice A2 n2 c2) (.slice none 0 0)) 114 := by
      have hsm : S.more = 0 := by rw [HS.out]; exact (openP_st D i).2
      have hq := B7
      unfold rollCells at hq ⊢
      rw [hsm] at hq
      exact hq
     have KO : Keep (Only r) w4 w7 := (((Keep.refl _ w4).drew.trans K5 (fun _ _ h => h)).trans K6 (fun _ _ h => h)).trans K7 (fun _ _ h => h)
     have K07 : Keep Noth w w7 := K04.own KO (fun q e => by unfold Only at e; subst e; exact hr1)
     have hs7 := KO.size
     have hgr : ∀ q, grow F w w4 q → grow F w w7 q := fun q hq => hq.elim .inl (fun h => .inr ⟨h.1, by have := h.2; omega⟩)
     have hPn : RollAt w7 (grow F w w7) g r (.slice A2 n2 c2) (.slice none 0 0) (openP D (i + 1)) := by
      rw [Hop.out]
      exact ⟨grow_lt HD.out.lt K07.size, .inr ⟨hr1, hB7.lt⟩, hB7, DevIs.mono ⟨_, _, HD.out.keep K07 (Dj.noth _)⟩ (fun q hq => .inl hq) (grow_lt HD.out.lt K07.size), (Hl.out.stay HRB (by decide) (by decide) KO).mono hgr, Recs.nil _ _, fun q _ e => by cases e⟩
     clear B7 hB7 KO B5 B6 K5 K6 K7
     go_roundw
     case rel => exact ⟨i + 1, rfl, Hi.out, ⟨_, hPn⟩, K07⟩
     case measure => simp [intOf]; omega
    ·rw [if_neg hgt] at hop
     have hgt' : ¬ (S.own.seq : Int) < h.seq := by omega
     have hPn : RollAt w4 (grow F w w4) g r vl (.slice none 0 0) (openP D (i + 1)) := by rw [hop]; exact HR4.mono (fun q hq => hq.elim .inl (fun h => .inr ⟨h.1, by have := h.2; omega⟩)) (grow_lt HD.out.lt K04.size)
     clear hgt hop HR4
     go_wp2_with fail
     refine wp_region_ordQ [(0, true), (1, true), (2, true), (3, true), (4, true), (5, true), (6, true), (7, true), (8, true), (9, true), (10, true)] (fun w' => BlockIs w' b6 h.cells 112 ∧ BlockIs w' r (rollCells g S vl (.slice none 0 0)) 114) follows_mixed (by kernel_rfl) ⟨B4.drew, HRB.drew⟩ ?_
     simp only [List.map_cons, List.map_nil, List.getElem?_cons_succ, List.getElem?_cons_zero, Option.getD_some]
     refine wpO_pure (v := .bool true) (by rfl) (fun w' hw' => by rfl) ?_
     go_frame
     refine wpO_pure (v := .bool true) (by rfl) (fun w' hw' => by rfl) ?_
     go_frame
     refine wpO_pure (v := .pointer (some ⟨b6, 0, none⟩)) (by rfl) (fun w' hw' => by go_simp) ?_
     go_frame
     refine wpO_pure (v := .int .u64 (h.seq : Int)) (by rfl) (fun w' hw' => by have hc : w'.cell? ⟨b6, 0, none⟩ = some (.int .u64 (h.seq : Int)) := hw'.1.cell 0; go_simp) ?_
     go_frame
     refine wpO_pure (v := .pointer (some ⟨r, 0, none⟩)) (by rfl) (fun w' hw' => by rfl) ?_
     go_frame
     refine wpO_pure (v := .pointer (some ⟨r, 0, none⟩)) (by rfl) (fun w' hw' => by go_simp) ?_
     go_frame
     refine wpO_pure (v := .pointer (some ⟨r, 1, none⟩)) (by rfl) (fun w' hw' => by go_simp) ?_
     go_frame
     refine wpO_pure (v := .pointer (some ⟨r, 1, none⟩)) (by rfl) (fun w' hw' => by go_simp) ?_
     go_frame
     refine wpO_pure (v := .int .u64 (S.own.seq : Int)) (by rfl) (fun w' hw' => by have hc : w'.cell? ⟨r, 1, none⟩ = some (.int .u64 (S.own.seq : Int)) := hw'.2.cell 1; go_simp) ?_
     go_frame
     refine wpO_pure (v := .bool false) (by rfl) (fun w' hw' => by go_simp; omega) ?_
     go_frame
     refine wpO_pure (v := .bool false) (by rfl) (fun w' hw' => by go_simp) (wpO_nil ?_)
     go_frame
     go_wp2_with fail
     go_roundw
     case rel => exact ⟨i + 1, rfl, Hi.out, ⟨vl, hPn.keep (Keep.refl Noth _).drew (Dj.noth _)⟩, K04.drew⟩
     case measure => simp [intOf]; omega
  ·obtain rfl : i = 2 := by omega
   clear hi hlt
   go_wp2_with fail
   go_ret2
   exact ⟨r, rfl, hr1, ⟨vl, _, HR⟩, HK⟩
end Go.Proofs.Ytffcglfepobdjaa
