/- The reference's fill. -/
import Derived.Test.YtffcglfepobdjaaG1
import Derived.Test.YtffcglfepobdjaaF0
set_option linter.unusedVariables false
set_option linter.unusedSimpArgs false
set_option maxRecDepth 10000
set_option maxHeartbeats 1500000
namespace Go.Proofs.Ytffcglfepobdjaa
open Go.RowKit

theorem info5' : (Try.prog.info? 5).map (fun i => (i.zero, i.size, i.bytes)) = some (some (.int .u8 0), 1, 1) := info5
theorem fillz_set (x : List UInt8) (y : UInt8) (hx : x.length < 64) : (fillz x).set x.length y = fillz (x ++ [y]) := by
  have h0 : zb.length = 64 := zb_length
  unfold fillz splice
  apply List.ext_getElem?
  intro i
  simp only [List.take_zero, List.nil_append, Nat.zero_add, List.length_append, List.length_singleton]
  rw [List.getElem?_set]
  split
  · rename_i h
    subst h
    simp [h0]
    omega
  · rename_i h
    rcases Nat.lt_or_ge i x.length with h1 | h1
    · rw [List.getElem?_append_left h1, List.append_assoc, List.getElem?_append_left h1]
    · rw [List.getElem?_append_right h1, List.append_assoc, List.getElem?_append_right h1, List.singleton_append, List.getElem?_drop]
      have : i - x.length = (i - x.length - 1) + 1 := by omega
      rw [this, List.getElem?_cons_succ, List.getElem?_drop]
      congr 1
      omega
theorem bv_set (l : List UInt8) (k : Nat) (y : UInt8) : (bv l).set k (u8 y) = bv (l.set k y) := by simp [bv, List.map_set]

theorem st_fill (w : World) (A : Option Addr) (c : Nat) (b : List UInt8) (fr : Nat) (hA : Reads w A (bv b)) (hb : b.length ≤ 140737488355328) (hf : fr ≤ 140737488355328) :
    Calls Try.prog 56 #[.slice A b.length c, .int .i64 (fr : Int)] w (fun e w' => e = .returned (.agg (bv (fillz ((b.drop fr).take 64))).toArray) ∧ Keep Noth w w') := by
  have hb' : (b.length : Int) ≤ 140737488355328 := by omega
  have hf' : (fr : Int) ≤ 140737488355328 := by omega
  have hfz : ∀ k, k ≤ 64 → (fillz ((b.drop fr).take k)).length = 64 := fun k hk => fillz_length _ (by rw [List.length_take]; omega)
  have HA := hid hA
  have Hfz := hid hfz
  clear hA hfz
  go_enter Try.func56, Try.ntmps56
  go_wp2_with (first | (have := B1; refine wpList_alloc_v rfl 52 rfl zv info52 (bv zb) zv_cells ?_; intro b5 w2 hb5 B2 K2; have B12 := B1.keep K2 id) | (refine wpList_alloc_v rfl 52 rfl zv info52 (bv zb) zv_cells ?_; intro b4 w1 hb4 B1 K1))
  have K02 : Keep Noth w w2 := K1.trans K2 (fun _ _ h => h)
  have hb45 : b4 ≠ b5 := by have := B1.lt; omega
  have hs := K1.size
  go_loopw [6] (fun i wr => ∃ k : Nat, i = .int .i64 k ∧ k ≤ 64 ∧ (k = 0 ∨ fr + k ≤ b.length) ∧ BlockIs wr b5 (bv (fillz ((b.drop fr).take k))) 52 ∧ BlockIs wr b4 (bv zb) 52 ∧ Keep Noth w wr) (fun i _ => 64 - (intOf i).toNat)
  case atStart => exact ⟨0, rfl, Nat.zero_le _, .inl rfl, by rw [List.take_zero]; exact B2, B12, K02⟩
  case round =>
    obtain ⟨k, rfl, hk64, hkb, B5, B4, HK⟩ := hrel
    clear B1 B2 B12
    by_cases hlt : k < 64 ∧ fr + k < b.length
    · obtain ⟨h1, h2⟩ := hlt
      have h1' : (k : Int) < 64 := by omega
      have h2' : (fr : Int) + k < b.length := by omega
      have hRw := HA.out.keep HK (fun _ _ => id)
      obtain ⟨g, o, hAo, hr, hg⟩ := hRw.where (by rw [bv_length]; omega)
      subst hAo
      obtain ⟨y, hy⟩ : ∃ y, b[fr + k]? = some y := ⟨_, List.getElem?_eq_getElem h2⟩
      have hcell : wr.cell? ⟨g, o + (fr + k), none⟩ = some (.int .u8 (y.toNat : Int)) := hr (fr + k) (Go.Proofs.Ytffcglfepobdjaa.u8 y) (by simp [bv, hy])
      have htk : (b.drop fr).take (k + 1) = (b.drop fr).take k ++ [y] := by
        rw [List.take_add_one, List.getElem?_drop, hy]; rfl
      have hxl : ((b.drop fr).take k).length = k := by rw [List.length_take, List.length_drop]; omega
      have hset : (bv (fillz ((b.drop fr).take k))).set k (Go.Proofs.Ytffcglfepobdjaa.u8 y) = bv (fillz ((b.drop fr).take (k + 1))) := by
        rw [bv_set, htk]
        have := fillz_set ((b.drop fr).take k) y (by omega)
        rw [hxl] at this
        rw [this]
      have Hset := hid hset
      have Hl := hid (show (bv (fillz ((b.drop fr).take k))).length = 64 by rw [bv_length]; exact Hfz.out k hk64)
      clear hr htk hset hxl hy
      go_wp2_with (refine wpList_store_blk rfl 5 _ _ rfl b5 k _ 52 (.int .u8 (y.toNat : Int)) (by rfl) (by rfl) B5 (by rw [Hl.out]; exact h1) rfl rfl info5' ?_; intro w7 B7 K7)
      go_roundw
      case rel => exact ⟨k + 1, by go_num, h1, .inr h2, by rw [← Hset.out]; exact B7, B4.keep K7 hb45, HK.own K7 (fun q e => by unfold Only at e; subst e; omega)⟩
      case measure => simp [intOf]; omega
    · have hfin : (b.drop fr).take k = (b.drop fr).take 64 := by
        rcases Nat.lt_or_ge k 64 with h | h
        · rw [List.take_of_length_le (by rw [List.length_drop]; omega), List.take_of_length_le (by rw [List.length_drop]; omega)]
        · rw [show k = 64 by omega]
      rw [hfin] at B5
      have Hl := hid (show (bv (fillz ((b.drop fr).take 64))).length = 64 by rw [bv_length]; exact Hfz.out 64 (Nat.le_refl _))
      have hor : 64 ≤ k ∨ (k < 64 ∧ b.length ≤ fr + k) := by omega
      clear hfin
      rcases hor with h | ⟨h, h'⟩
      · have h64 : k = 64 := by omega
        subst h64
        go_wp2_with (first | (refine wpList_store_whole rfl 52 _ _ rfl b4 (bv zb) (bv (fillz ((b.drop fr).take 64))) 52 (by rfl) (by rfl) B4 (by rw [Hl.out, bvz_length]) (by rw [Hl.out]; exact info52) (bv_one _) ?_; intro w7 B7 K7) | (refine wpList_load_blk rfl 52 _ rfl b5 0 (bv (fillz ((b.drop fr).take 64))) (bv (fillz ((b.drop fr).take 64))) 52 _ (by rfl) B5 (fun j v h => by simpa using h) Try.underlying52 rfl (by rw [Hl.out]; exact info52) ?_))
        refine ret_cell rfl b4 _ 52 _ (by rfl) B7 Try.underlying52 rfl (by rw [Hl.out]; exact info52) rfl ?_
        exact ⟨rfl, HK.own K7 (fun q e => by unfold Only at e; subst e; omega)⟩
      · have h1' : (k : Int) < 64 := by omega
        have h2' : (b.length : Int) ≤ (fr : Int) + k := by omega
        go_wp2_with (first | (refine wpList_store_whole rfl 52 _ _ rfl b4 (bv zb) (bv (fillz ((b.drop fr).take 64))) 52 (by rfl) (by rfl) B4 (by rw [Hl.out, bvz_length]) (by rw [Hl.out]; exact info52) (bv_one _) ?_; intro w7 B7 K7) | (refine wpList_load_blk rfl 52 _ rfl b5 0 (bv (fillz ((b.drop fr).take 64))) (bv (fillz ((b.drop fr).take 64))) 52 _ (by rfl) B5 (fun j v h => by simpa using h) Try.underlying52 rfl (by rw [Hl.out]; exact info52) ?_))
        refine ret_cell rfl b4 _ 52 _ (by rfl) B7 Try.underlying52 rfl (by rw [Hl.out]; exact info52) rfl ?_
        exact ⟨rfl, HK.own K7 (fun q e => by unfold Only at e; subst e; omega)⟩
end Go.Proofs.Ytffcglfepobdjaa
