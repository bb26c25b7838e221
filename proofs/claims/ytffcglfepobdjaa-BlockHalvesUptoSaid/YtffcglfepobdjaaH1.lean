/- A device of an image: the plain law. -/
import Derived.Test.YtffcglfepobdjaaG6
import Derived.Test.YtffcglfepobdjaaD5
set_option linter.unusedVariables false
set_option linter.unusedSimpArgs false
namespace Go.Proofs.Ytffcglfepobdjaa
open Go.RowKit

theorem fillz_full (b : List UInt8) (h : b.length = 64) : fillz b = b := by
  unfold fillz splice
  simp [zb, h]
theorem of_l (im : List UInt8) : (DS.of im).l = (List.range (ofN im)).map fun j => chunk im (64 * j) := by
  show ofL im _ _ = _
  unfold ofL
  refine List.map_congr_left fun j hj => ?_
  simp [List.mem_range.1 hj]
theorem ofN_one (im : List UInt8) : 1 ≤ ofN im := by unfold ofN clampN; omega
theorem ofN_most (im : List UInt8) : ofN im ≤ 4096 := by unfold ofN clampN; omega
theorem of_len (im : List UInt8) : (DS.of im).l.length = ofN im := ofL_length _ _ _
theorem of_ok (im : List UInt8) : (DS.of im).ok :=
  ⟨fun b hb => by rw [of_l] at hb; simp only [List.mem_map] at hb; obtain ⟨j, _, rfl⟩ := hb; exact chunk_length _ _, fun p hp => by simp [DS.of] at hp, by rw [of_len]; exact ofN_one im, by rw [of_len]; exact ofN_most im, by simp [DS.of], by simp [DS.of]⟩
theorem of_all (im : List UInt8) : (DS.of im).all = (DS.of im).l := rfl
theorem of_image_length (im : List UInt8) : (DS.of im).image.length = ofN im * 64 := by
  unfold DS.image
  rw [flatten_length64 _ (all_64 (of_ok im)), of_all, of_len]
theorem of_block (im : List UInt8) (j : Nat) (hj : j < ofN im) : ((DS.of im).image.drop (64 * j)).take 64 = chunk im (64 * j) := by
  unfold DS.image
  rw [Nat.mul_comm, flatten_block _ _ (all_64 (of_ok im)) (by rw [of_all, of_len]; exact hj), of_all, of_l]
  simp [hj, Nat.mul_comm]
/-- The image's bytes stand first. -/
theorem of_prefix (im : List UInt8) (hl : im.length ≤ 262144) : (DS.of im).image.take im.length = im := by
  have hn : im.length ≤ ofN im * 64 := by unfold ofN clampN; omega
  apply List.ext_getElem?
  intro i
  rw [List.getElem?_take]
  split
  · rename_i h
    have hj : i / 64 < ofN im := by omega
    have hb := of_block im (i / 64) hj
    have h1 : (((DS.of im).image.drop (64 * (i / 64))).take 64)[i % 64]? = (DS.of im).image[i]? := by
      rw [List.getElem?_take, if_pos (by omega), List.getElem?_drop]
      congr 1
      omega
    rw [← h1, hb]
    unfold chunk fillz splice
    rw [List.take_zero, List.nil_append, Nat.zero_add, List.getElem?_append_left (by rw [List.length_take, List.length_drop]; omega), List.getElem?_take, if_pos (by omega), List.getElem?_drop]
    congr 1
    omega
  · rename_i h
    rw [List.getElem?_eq_none (by omega)]
theorem of_again_n (im : List UInt8) : ofN (DS.of im).image = ofN im := by
  have h1 := ofN_one im
  have h2 := ofN_most im
  have h3 := of_image_length im
  have h4 : ofN (DS.of im).image = clampN ((((DS.of im).image.length + 63) / 64 : Nat) : Int) := rfl
  rw [h4, h3]
  unfold clampN
  omega
theorem of_again (im : List UInt8) : DS.of (DS.of im).image = DS.of im := by
  have hl : (DS.of (DS.of im).image).l = (DS.of im).l := by
    rw [of_l, of_l, of_again_n]
    refine List.map_congr_left fun j hj => ?_
    have := of_block im j (List.mem_range.1 hj)
    show fillz _ = _
    rw [this]
    exact fillz_full _ (chunk_length _ _)
  have h1 : DS.of (DS.of im).image = ⟨(DS.of (DS.of im).image).l, [], 0, -1, false⟩ := rfl
  rw [h1, hl]
  rfl
end Go.Proofs.Ytffcglfepobdjaa
