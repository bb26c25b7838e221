/- The reference's New. -/
import Derived.Test.YtffcglfepobdjaaG2
import Derived.Test.YtffcglfepobdjaaB5
set_option linter.unusedVariables false
set_option linter.unusedSimpArgs false
set_option maxRecDepth 10000
set_option maxHeartbeats 1500000
namespace Go.Proofs.Ytffcglfepobdjaa
open Go.RowKit

section
variable {P : Program} {w : World} {ops : Array Oper} {rest : List Oper} {o : Oper} {a : Act} {Q : Exit → Act → World → Prop}
/-- A slice of one element, built. -/
theorem wpList_slice1_v (hgd : o.guard = none) (T E : TypeId) (x : Operand) (ho : o.op = .buildSlice T 1 #[(0, x)]) (hT : P.underlying T = some (.slice E)) (cs : List Value) (z : Value) {size bytes : Nat} (hi : (P.info? E).map (fun i => (i.zero, i.size, i.bytes)) = some (some z, size, bytes)) (hz : z.cells.size = size) (h0 : 0 < size) (hm : size ≤ 16777216)
    (hx : (a.eval x).cells = cs.toArray) (hl : cs.length = size)
    (h : ∀ b w1, w.heap.size ≤ b → BlockIs w1 b cs E → Keep Noth w w1 → wpList P ops Q rest (a.put o.dst (.slice (some ⟨b, 0, none⟩) 1 1)) w1) : wpList P ops Q (o :: rest) a w :=
  wpList_run hgd _ _ (exec_buildSlice1 T E x ho hT cs z hi hz h0 hm hx hl) (h _ _ (Nat.le_refl _) (BlockIs.new w cs E) ((Keep.refl _ _).alloc _))
/-- A zero value, built. -/
theorem wpList_build0 (hgd : o.guard = none) (T : TypeId) (ho : o.op = .build T #[]) (v : Value) (hb : ∀ W, (Instr.build T #[]).run P W = .ok v W) (h : wpList P ops Q rest (a.put o.dst v) w) : wpList P ops Q (o :: rest) a w := by
  refine wpList_run hgd v w ?_ h
  unfold execOp
  simp only [ho, List.map_toArray, List.map_nil, Sem.run_bind, Sem.run_pure, Result.andThen_ok, hb]
end

def stn : List Value := [.slice none 0 0, .slice none 0 0, .int .i64 0, .int .i64 (-1), .bool false]
theorem build30 (W : World) : (Instr.build 30 #[(3, .int .i64 (-1))]).run Try.prog W = .ok (.agg stn.toArray) W := by kernel_rfl
theorem build52 (W : World) : (Instr.build 52 #[]).run Try.prog W = .ok zv W := by kernel_rfl

def lenOf : Option Value → Nat
  | some (.slice _ n _) => n
  | _ => 0
/-- Blocks that the call heaps up, told in cell 0 of its variable b. -/
structure Heap0 (w2 wr : World) (b b' : Nat) (v : Value) (row : List Value) (xs : List (List Value)) : Prop where
  rows : Rows wr (fun q => w2.heap.size ≤ q ∧ q < wr.heap.size) 52 64 v xs
  var : BlockIs wr b (v :: row) 30
  out : BlockIs wr b' stz 30
  kept : Keep (Only b) w2 wr
theorem zv_size : zv.cells.size = 64 := by rw [zv_cells, List.size_toArray]; exact bvz_length

theorem Heap0.next {w2 wr wA w3 w4 : World} {b3 b2 : Nat} {v v3 : Value} {row : List Value} {xs : List (List Value)} {x : List Value} (H : Heap0 w2 wr b3 b2 v row xs) (h22 : b2 < w2.heap.size) (h32 : b3 < w2.heap.size) (hb23 : b2 ≠ b3) (KA : Keep Noth wr wA)
    (HR3 : Rows w3 (fun q => v.ownBlock = some q ∨ (wA.heap.size ≤ q ∧ q < w3.heap.size)) 52 64 v3 (xs ++ [x])) (K3 : Keep (fun q => v.ownBlock = some q) wA w3) (B4 : BlockIs w4 b3 (v3 :: row) 30) (K4 : Keep (Only b3) w3 w4) :
    Heap0 w2 w4 b3 b2 v3 row (xs ++ [x]) := by
  have hno : ∀ q, v.ownBlock = some q → w2.heap.size ≤ q ∧ q < wr.heap.size := H.rows.foot
  have hs := H.kept.size
  have hsA := KA.size
  have hs3 := K3.size
  have hs4 := K4.size
  refine ⟨?_, B4, ((H.out.keep KA id).keep K3 (fun e => by have := (hno b2 e).1; omega)).keep K4 hb23, ?_⟩
  · have h := HR3.mono (G := fun q => w2.heap.size ≤ q ∧ q < w3.heap.size) (fun q hq => by
      rcases hq with hq | hq
      · have := hno q hq; omega
      · have := hq.1; omega)
    exact (h.keep K4 (fun q h1 h2 => by unfold Only at h2; subst h2; omega)).mono (fun q hq => ⟨hq.1, Nat.lt_of_lt_of_le hq.2 hs4⟩)
  · exact ((H.kept.trans KA (fun _ _ h => h.elim)).trans K3 (fun q hq e => by have h3 := (hno q e).1; omega)).trans K4 (fun _ _ h => h)
theorem Heap0.lenOf {w2 wr : World} {b b' : Nat} {v : Value} {row : List Value} {xs : List (List Value)} (H : Heap0 w2 wr b b' v row xs) : Go.Proofs.Ytffcglfepobdjaa.lenOf (wr.cell? ⟨b, 0, none⟩) = xs.length := by
  obtain ⟨A, c, hv⟩ := H.rows.val
  rw [H.var.cell 0, List.getElem?_cons_zero, hv]; rfl

theorem new_st {w w2 wr w6 : World} {b2 b3 k c : Nat} {A : Option Addr} {count : Int} (hn : k = clampN count) (HH : Heap0 w2 wr b3 b2 (.slice A k c) [.slice none 0 0, .int .i64 0, .int .i64 (-1), .bool false] (List.replicate k (bv zb))) (K02 : Keep Noth w w2) (hb2 : w.heap.size ≤ b2) (h22 : b2 < w2.heap.size) (hb3 : w.heap.size ≤ b3) (K6 : Keep (Only b2) wr w6) :
    ∃ vl, Ending.returned (.agg [.slice A k c, .slice none 0 0, .int .i64 0, .int .i64 (-1), .bool false].toArray) = .returned (.agg (stv vl (.slice none 0 0) (DS.new (clampN count))).toArray) ∧ StAt w6 (Fresh w w6) vl (.slice none 0 0) (DS.new (clampN count)) ∧ Keep Noth w w6 := by
  have hs := K02.size
  have hs6 := K6.size
  refine ⟨.slice A k c, rfl, ⟨?_, Rows.nil _ _ _ _⟩, (K02.own HH.kept (fun q e => by unfold Only at e; subst e; exact hb3)).own K6 (fun q e => by unfold Only at e; subst e; exact hb2)⟩
  have h := (HH.rows.keep K6 (fun q h1 h2 => by unfold Only at h2; subst h2; omega)).mono (G := Fresh w w6) (fun q hq => ⟨by have := hq.1; omega, by have := hq.2; omega⟩)
  rw [← hn]
  simpa [DS.new] using h

theorem st_new (w : World) (count : Int) :
    Calls Try.prog 18 #[.int .i64 count] w (fun e w' => ∃ vl, e = .returned (.agg (stv vl (.slice none 0 0) (DS.new (clampN count))).toArray) ∧ StAt w' (Fresh w w') vl (.slice none 0 0) (DS.new (clampN count)) ∧ Keep Noth w w') := by
  have hb30 := build30
  obtain ⟨Z, hZ, hZc⟩ : ∃ Z, (∀ W : World, (Instr.build 52 #[]).run Try.prog W = .ok Z W) ∧ Z.cells = (bv zb).toArray := ⟨zv, build52, zv_cells⟩
  have HZ := hid hZ
  clear hZ
  go_enter Try.func18, Try.ntmps18
  go_wp2_with (first | (refine wpList_alloc_store rfl 30 rfl 3 _ rfl (by rfl) rfl rfl (by decide) zst stn info30 stz zst_cells (by rfl) (by rfl) (by decide) ?_; intro b3 w2 hb3 B2 K2; have B12 := B1.keep K2 id) | (refine wpList_alloc_v rfl 30 rfl zst info30 stz zst_cells ?_; intro b2 w1 hb2 B1 K1))
  obtain ⟨n, hn⟩ : ∃ n, n = clampN count := ⟨_, rfl⟩
  have hnc : (n : Int) = min (max count 1) 4096 := by rw [hn]; unfold clampN; omega
  have hn1 : 1 ≤ n := by omega
  have hn2 : n ≤ 4096 := by omega
  have hb23 : b2 ≠ b3 := by have := B1.lt; omega
  have h32 : b3 < w2.heap.size := B2.lt
  have h22 : b2 < w2.heap.size := B12.lt
  have K02 : Keep Noth w w2 := K1.trans K2 (fun _ _ h => h)
  have hw2 := K02.size
  have hw3 : w.heap.size ≤ b3 := Nat.le_trans K1.size hb3
  have Hn := hid hn
  clear hn
  go_frame
  go_loopw [] (fun wr => ∃ (k : Nat) (v : Value), k ≤ n ∧ Heap0 w2 wr b3 b2 v [.slice none 0 0, .int .i64 0, .int .i64 (-1), .bool false] (List.replicate k (bv zb))) (fun wr => 4096 - lenOf (wr.cell? ⟨b3, 0, none⟩))
  case atStart => exact ⟨0, .slice none 0 0, Nat.zero_le _, ⟨Rows.nil _ _ _ _, B2, B12, Keep.refl _ _⟩⟩
  case round =>
    obtain ⟨k, v, hkn, HH⟩ := hrel
    obtain ⟨A, c, hv⟩ := HH.rows.val
    rw [List.length_replicate] at hv
    have hl0 := HH.lenOf
    rw [List.length_replicate] at hl0
    by_cases hlt : k < n
    · have hone := HH.rows.one_val
      subst hv
      have hkk : (k : Int) < 4096 := by omega
      have hor : k = 0 ∨ (1 ≤ k ∧ (k : Int) < count) := by omega
      have hno : ∀ q, (Value.slice A k c).ownBlock = some q → w2.heap.size ≤ q ∧ q < wr.heap.size := HH.rows.foot
      have hs := HH.kept.size
      have c0 := HH.var.cell 0
      simp only [List.getElem?_cons_zero] at c0
      rcases hor with h0 | ⟨h1, h2⟩
      · have hk1 : (k : Int) < 1 := by omega
        clear h0
        go_wp2_with (first
        | (guard_target = wpList _ _ _ (Oper.mk _ (Op.build _ _) _ _ _ _ :: _) _ _; refine wpList_build0 rfl 52 rfl Z HZ.out ?_)
        | (guard_target = wpList _ _ _ (Oper.mk _ (Op.buildSlice _ _ _) _ _ _ _ :: _) _ _; refine wpList_slice1_v rfl 27 52 _ rfl sl27 (bv zb) zv info52 zv_size (by decide) (by decide) (by exact hZc) bvz_length ?_; intro bA wA hbA BA KA; clear c0)
        | (at_builtin; refine wpList_append_rows rfl _ _ 27 rfl 52 zv 64 64 sl27 info52 zv_size (by decide) (by decide) _ _ (List.replicate k (bv zb)) [bv zb] (by rfl) (HH.rows.keep KA (Dj.noth _)) (some ⟨bA, 0, none⟩) 1 1 (by rfl) rfl (fun h => by cases h) (by intro x hx; rw [List.mem_singleton.1 hx]; exact bvz_length) (by rw [List.flatten_singleton]; exact Reads.of_range BA.rangeAll) (by rw [List.flatten_singleton]; exact bv_one _) (by rw [List.length_replicate]; omega) ?_; intro v3 w3 HR3 K3)
        | (guard_target = wpList _ _ _ (Oper.mk _ (Op.store _ _ _) _ _ _ _ :: _) _ _; refine wpList_store_blk rfl 27 _ _ rfl b3 0 _ 30 v3 (by rfl) (by rfl) ((HH.var.keep KA id).keep K3 (fun e => by have h3 := (hno b3 e).1; omega)) (by simp) HR3.one_val.1 HR3.one_val.2 info27 ?_; intro w4 B4 K4; simp only [List.set_cons_zero] at B4))
        have HN := HH.next h22 h32 hb23 KA HR3 K3 B4 K4
        rw [← List.replicate_succ'] at HN
        have hl1 := HN.lenOf
        rw [List.length_replicate] at hl1
        clear HH HR3 K3 B4 K4 KA BA
        go_frame
        go_roundw
        case rel => exact ⟨k + 1, v3, hlt, HN⟩
        case measure => rw [hl0, hl1]; omega
      · have h1' : (1 : Int) ≤ k := by omega
        go_wp2_with (first
        | (guard_target = wpList _ _ _ (Oper.mk _ (Op.build _ _) _ _ _ _ :: _) _ _; refine wpList_build0 rfl 52 rfl Z HZ.out ?_)
        | (guard_target = wpList _ _ _ (Oper.mk _ (Op.buildSlice _ _ _) _ _ _ _ :: _) _ _; refine wpList_slice1_v rfl 27 52 _ rfl sl27 (bv zb) zv info52 zv_size (by decide) (by decide) (by exact hZc) bvz_length ?_; intro bA wA hbA BA KA; clear c0)
        | (at_builtin; refine wpList_append_rows rfl _ _ 27 rfl 52 zv 64 64 sl27 info52 zv_size (by decide) (by decide) _ _ (List.replicate k (bv zb)) [bv zb] (by rfl) (HH.rows.keep KA (Dj.noth _)) (some ⟨bA, 0, none⟩) 1 1 (by rfl) rfl (fun h => by cases h) (by intro x hx; rw [List.mem_singleton.1 hx]; exact bvz_length) (by rw [List.flatten_singleton]; exact Reads.of_range BA.rangeAll) (by rw [List.flatten_singleton]; exact bv_one _) (by rw [List.length_replicate]; omega) ?_; intro v3 w3 HR3 K3)
        | (guard_target = wpList _ _ _ (Oper.mk _ (Op.store _ _ _) _ _ _ _ :: _) _ _; refine wpList_store_blk rfl 27 _ _ rfl b3 0 _ 30 v3 (by rfl) (by rfl) ((HH.var.keep KA id).keep K3 (fun e => by have h3 := (hno b3 e).1; omega)) (by simp) HR3.one_val.1 HR3.one_val.2 info27 ?_; intro w4 B4 K4; simp only [List.set_cons_zero] at B4))
        have HN := HH.next h22 h32 hb23 KA HR3 K3 B4 K4
        rw [← List.replicate_succ'] at HN
        have hl1 := HN.lenOf
        rw [List.length_replicate] at hl1
        clear HH HR3 K3 B4 K4 KA BA
        go_frame
        go_roundw
        case rel => exact ⟨k + 1, v3, hlt, HN⟩
        case measure => rw [hl0, hl1]; omega
    · have hge : k = n := by omega
      have hnk : ¬ (k : Int) < 1 := by omega
      have hor : ¬ ((k : Int) < count) ∨ (((k : Int) < count) ∧ ¬ ((k : Int) < 4096)) := by omega
      subst hv
      subst hge
      have c0 := HH.var.cell 0
      simp only [List.getElem?_cons_zero] at c0
      clear hn2 hnc hl0
      rcases hor with h1 | ⟨h1, h2⟩
      · go_wp2_with (first
        | (guard_target = wpList _ _ _ (Oper.mk _ (Op.load _ _) _ _ _ _ :: _) _ _; refine wpList_load_blk rfl 30 _ rfl b3 0 [.slice A k c, .slice none 0 0, .int .i64 0, .int .i64 (-1), .bool false] _ 30 _ (by rfl) HH.var (fun j v h => by simpa using h) Try.underlying30 rfl info30 ?_)
        | (guard_target = wpList _ _ _ (Oper.mk _ (Op.store _ _ _) _ _ _ _ :: _) _ _; refine wpList_store_whole rfl 30 _ _ rfl b2 stz [.slice A k c, .slice none 0 0, .int .i64 0, .int .i64 (-1), .bool false] 30 (by rfl) (by rfl) HH.out (by rfl) info30 (st5_one rfl rfl _ _ _) ?_; intro w6 B6 K6))
        refine ret_cell rfl b2 _ 30 _ (by rfl) B6 Try.underlying30 rfl info30 rfl ?_
        exact new_st Hn.out HH K02 hb2 h22 hw3 K6
      · go_wp2_with (first
        | (guard_target = wpList _ _ _ (Oper.mk _ (Op.load _ _) _ _ _ _ :: _) _ _; refine wpList_load_blk rfl 30 _ rfl b3 0 [.slice A k c, .slice none 0 0, .int .i64 0, .int .i64 (-1), .bool false] _ 30 _ (by rfl) HH.var (fun j v h => by simpa using h) Try.underlying30 rfl info30 ?_)
        | (guard_target = wpList _ _ _ (Oper.mk _ (Op.store _ _ _) _ _ _ _ :: _) _ _; refine wpList_store_whole rfl 30 _ _ rfl b2 stz [.slice A k c, .slice none 0 0, .int .i64 0, .int .i64 (-1), .bool false] 30 (by rfl) (by rfl) HH.out (by rfl) info30 (st5_one rfl rfl _ _ _) ?_; intro w6 B6 K6))
        refine ret_cell rfl b2 _ 30 _ (by rfl) B6 Try.underlying30 rfl info30 rfl ?_
        exact new_st Hn.out HH K02 hb2 h22 hw3 K6
end Go.Proofs.Ytffcglfepobdjaa
