/- A crash. -/
import Derived.Test.YtffcglfepobdjaaB10
set_option linter.unusedVariables false
set_option linter.unusedSimpArgs false
set_option maxRecDepth 10000
set_option maxHeartbeats 4000000
namespace Go.Proofs.Ytffcglfepobdjaa
open Go.RowKit

/-- What becomes of the k-th write. -/
def formOf (fs : List Int) (k : Nat) : Nat := if fs.length = 0 then 0 else ((max (fs.getD (k % fs.length) 0) 0) % 4).toNat
theorem formOf_lt (fs : List Int) (k : Nat) : formOf fs k < 4 := by unfold formOf; split <;> omega
/-- The half of a block. -/
def mix (f : Nat) (a b : Bk) : Bk := (if f = 1 ∨ f = 2 then b.take 32 else a.take 32) ++ (if f = 1 ∨ f = 3 then b.drop 32 else a.drop 32)
def crash1 (fs : List Int) (l : List Bk) (k : Nat) (p : Nat × Bk) : List Bk := l.set p.1 (mix (formOf fs k) (l.getD p.1 []) p.2)
def crashK (fs : List Int) (l : List Bk) (row : List (Nat × Bk)) : Nat → List Bk
  | 0 => l
  | k + 1 => crash1 fs (crashK fs l row k) k (row.getD k (0, []))
def DS.crash (D : DS) (fs : List Int) : DS := { D with l := crashK fs D.l D.row D.row.length, row := [], fuse := -1, down := false }
theorem crashK_length (fs : List Int) (l : List Bk) (row : List (Nat × Bk)) : ∀ k, (crashK fs l row k).length = l.length
  | 0 => rfl
  | k + 1 => by simp [crashK, crash1, crashK_length fs l row k]
theorem mix_length (f : Nat) (a b : Bk) (ha : a.length = 64) (hb : b.length = 64) : (mix f a b).length = 64 := by
  unfold mix
  rw [List.length_append]
  split <;> split <;> simp [ha, hb]
theorem crashK_64 (fs : List Int) {l : List Bk} {row : List (Nat × Bk)} (hl : ∀ b ∈ l, b.length = 64) (hr : ∀ p ∈ row, p.1 < l.length ∧ p.2.length = 64) : ∀ k, k ≤ row.length → ∀ b ∈ crashK fs l row k, b.length = 64
  | 0, _ => hl
  | k + 1, hk => by
    have ih := crashK_64 fs hl hr k (by omega)
    intro b hb
    have hp := hr row[k] (List.getElem_mem (by omega))
    have e : row.getD k (0, []) = row[k] := by simp [List.getD_eq_getElem?_getD, show k < row.length by omega]
    simp only [crashK, crash1, e] at hb
    rcases List.mem_or_eq_of_mem_set hb with h | rfl
    · exact ih b h
    · have hlt : row[k].1 < (crashK fs l row k).length := by rw [crashK_length]; exact hp.1
      refine mix_length _ _ _ ?_ hp.2
      rw [List.getD_eq_getElem?_getD, List.getElem?_eq_getElem hlt]
      exact ih _ (List.getElem_mem hlt)
theorem crash_ok {D : DS} (h : D.ok) (fs : List Int) : (D.crash fs).ok :=
  ⟨crashK_64 fs h.l64 h.row64 _ (Nat.le_refl _), fun _ hp => by simp [DS.crash] at hp, by show 1 ≤ (crashK _ _ _ _).length; rw [crashK_length]; exact h.one, by show (crashK _ _ _ _).length ≤ _; rw [crashK_length]; exact h.most, by simp [DS.crash], by simp [DS.crash]⟩

def ints (l : List Int) : List Value := l.map (Value.int .i64)

/-- A part of a block is written over. -/
def patch (L : List Bk) (i o : Nat) (cs : List UInt8) : List Bk := L.set i (splice (L.getD i []) o cs)
theorem patch_length (L : List Bk) (i o : Nat) (cs : List UInt8) : (patch L i o cs).length = L.length := by simp [patch]
theorem mix_none {L : List Bk} {i : Nat} {b : Bk} (hL : ∀ x ∈ L, x.length = 64) (hi : i < L.length ∧ b.length = 64) : L.set i (mix 0 (L.getD i []) b) = L := by
  have e : L.getD i [] = L[i] := by simp [List.getD_eq_getElem?_getD, hi.1]
  rw [e]
  unfold mix
  simp
theorem getD_set_same {L : List Bk} {i : Nat} (h : i < L.length) (x : Bk) : (L.set i x).getD i [] = x := by simp [List.getD_eq_getElem?_getD, h]
theorem mix_front {L : List Bk} {i : Nat} {b : Bk} (hL : ∀ x ∈ L, x.length = 64) (hi : i < L.length ∧ b.length = 64) : L.set i (mix 2 (L.getD i []) b) = patch L i 0 (b.take 32) := by
  have ht : (b.take 32).length = 32 := by rw [List.length_take, hi.2]; rfl
  unfold patch mix splice
  simp [ht, hi.2]
theorem mix_back {L : List Bk} {i : Nat} {b : Bk} (hL : ∀ x ∈ L, x.length = 64) (hi : i < L.length ∧ b.length = 64) : L.set i (mix 3 (L.getD i []) b) = patch L i 32 (b.drop 32) := by
  have e : L.getD i [] = L[i] := by simp [List.getD_eq_getElem?_getD, hi.1]
  have h64 : L[i].length = 64 := hL _ (List.getElem_mem hi.1)
  have ht : (b.drop 32).length = 32 := by rw [List.length_drop, hi.2]
  have hz : L[i].drop 64 = [] := List.drop_eq_nil_of_le (by omega)
  unfold patch mix splice
  rw [e]
  simp [ht, h64, hi.2, hz]
theorem mix_both {L : List Bk} {i : Nat} {b : Bk} (hL : ∀ x ∈ L, x.length = 64) (hi : i < L.length ∧ b.length = 64) : L.set i (mix 1 (L.getD i []) b) = patch (patch L i 0 (b.take 32)) i 32 (b.drop 32) := by
  have e : L.getD i [] = L[i] := by simp [List.getD_eq_getElem?_getD, hi.1]
  have h64 : L[i].length = 64 := hL _ (List.getElem_mem hi.1)
  have ht : (b.take 32).length = 32 := by rw [List.length_take, hi.2]; rfl
  have hd : (b.drop 32).length = 32 := by rw [List.length_drop, hi.2]
  have h1 : (patch L i 0 (b.take 32)).getD i [] = b.take 32 ++ L[i].drop 32 := by
    unfold patch
    rw [getD_set_same hi.1, e]
    simp [splice, ht, hi.2]
  unfold patch at h1 ⊢
  rw [h1]
  have hz : (b.take 32 ++ L[i].drop 32).drop 64 = [] := List.drop_eq_nil_of_le (by rw [List.length_append, ht, List.length_drop]; omega)
  simp [mix, splice, ht, hd, h64, hi.2, hz]
theorem wv_lo (p : Nat × Bk) : ∀ j v, (bv (p.2.take 32))[j]? = some v → (wv p)[1 + j]? = some v := by
  intro j v h
  rw [Nat.add_comm, wv, List.getElem?_cons_succ]
  unfold bv at h ⊢
  rw [List.map_take, List.getElem?_take] at h
  split at h
  · exact h
  · cases h
theorem wv_hi (p : Nat × Bk) : ∀ j v, (bv (p.2.drop 32))[j]? = some v → (wv p)[33 + j]? = some v := by
  intro j v h
  rw [show 33 + j = (32 + j) + 1 by omega, wv, List.getElem?_cons_succ]
  unfold bv at h ⊢
  rw [List.map_drop, List.getElem?_drop] at h
  exact h
theorem DevAt.step {w w1 w2 : World} {F : Nat → Prop} {g b : Nat} {vl vr : Value} {D : DS} (h : DevAt w F g vl vr D) (K1 : Keep Noth w w1) (K2 : Keep (Only b) w1 w2) (hb : w.heap.size ≤ b) : DevAt w2 F g vl vr D :=
  h.keep (K1.trans K2 (fun i hi e => by unfold Only at e; omega)) (Dj.noth _)
theorem Keep.step {F : Nat → Prop} {w0 w w1 w2 : World} {b : Nat} (h : Keep F w0 w) (K1 : Keep Noth w w1) (K2 : Keep (Only b) w1 w2) (hb : w.heap.size ≤ b) : Keep F w0 w2 :=
  h.trans (K1.trans K2 (fun i hi e => by unfold Only at e; omega)) (fun i hi (e : Noth i) => e.elim)
theorem DevAt.patched {w : World} {F : Nat → Prop} {g gl n cl : Nat} {vr : Value} {D : DS} {L : List Bk} (h : DevAt w F g (.slice (some ⟨gl, 0, none⟩) n cl) vr { D with l := L }) (i o : Nat) (cs : List UInt8) (hi : i < L.length) (ho : o + cs.length ≤ 64) :
    DevAt (w.setCells gl (i * 64 + o) (bv cs)) F g (.slice (some ⟨gl, 0, none⟩) n cl) vr { D with l := Go.Proofs.Ytffcglfepobdjaa.patch L i o cs } ∧ Keep (Only gl) w (w.setCells gl (i * 64 + o) (bv cs)) ∧ w.there gl (i * 64 + o) (bv cs).length := by
  have hK : Keep (Only gl) w (w.setCells gl (i * 64 + o) (bv cs)) := Keep.setCells _ _ (Keep.refl _ _) (fun _ => rfl)
  have hne : ¬ Only gl g := fun e => h.l.ne h.blk (by decide) (by unfold Only at e; rw [← e]; rfl)
  have hlen : i < (L.map bv).length := by rw [List.length_map]; exact hi
  refine ⟨⟨fun q hq => Nat.lt_of_lt_of_le (h.lt q hq) hK.size, h.here, h.blk.keep hK hne, ?_, h.row.stay hK (fun q hq e => h.l.ne2 h.row (by decide) gl rfl (by unfold Only at e; rw [hq, e]))⟩, hK, ?_⟩
  · have := Rows.splice (xs := L.map bv) h.l i o (bv cs) hlen (by rw [bv_length]; exact ho)
    have e : (L.map bv).set i (splice (L.map bv)[i] o (bv cs)) = (patch L i o cs).map bv := by
      rw [List.getElem_map, ← bv_splice, ← List.map_set]
      unfold patch
      have e : L.getD i [] = L[i] := by simp [List.getD_eq_getElem?_getD, hi]
      rw [e]
    rw [e] at this
    exact this
  · intro j hj
    rw [bv_length] at hj
    have := Rows.there (xs := L.map bv) h.l i hlen (o + j) (by omega)
    rw [Nat.add_assoc]
    exact this
theorem DevAt.patched' {w : World} {F : Nat → Prop} {g gl n cl : Nat} {vr : Value} {D : DS} {L : List Bk} (h : DevAt w F g (.slice (some ⟨gl, 0, none⟩) n cl) vr { D with l := L }) (i o : Nat) (cs : List UInt8) (hi : i < L.length) (ho : o + cs.length ≤ 64) (off : Nat) (hoff : off = i * 64 + o) :
    DevAt (w.setCells gl off (bv cs)) F g (.slice (some ⟨gl, 0, none⟩) n cl) vr { D with l := patch L i o cs } ∧ Keep (Only gl) w (w.setCells gl off (bv cs)) ∧ w.there gl off (bv cs).length := by
  subst hoff
  exact h.patched i o cs hi ho
theorem DevAt.crash_end {w : World} {F : Nat → Prop} {g : Nat} {vl vr : Value} {D : DS} (fs : List Int) (h : DevAt w F g vl vr { D with l := crashK fs D.l D.row D.row.length }) :
    DevAt (((w.setCell ⟨g, 1, none⟩ (.slice none 0 0)).setCell ⟨g, 4, none⟩ (.bool false)).setCell ⟨g, 3, none⟩ (.int .i64 (-1))) F g vl (.slice none 0 0) (D.crash fs) ∧
    Keep (Only g) w (((w.setCell ⟨g, 1, none⟩ (.slice none 0 0)).setCell ⟨g, 4, none⟩ (.bool false)).setCell ⟨g, 3, none⟩ (.int .i64 (-1))) := by
  have hk := (((Keep.refl (Only g) w).cell 1 (.slice none 0 0)).cell 4 (.bool false)).cell 3 (.int .i64 (-1))
  have hb := ((h.blk.set 1 (.slice none 0 0)).set 4 (.bool false)).set 3 (.int .i64 (-1))
  exact ⟨⟨fun k hf => Nat.lt_of_lt_of_le (h.lt k hf) hk.size, h.here, by simpa [DS.crash] using hb, h.l.stay hk (fun k hk' e => h.l.ne h.blk (by decide) (by rw [hk', e])), Rows.nil _ _ _ _⟩, hk⟩
end Go.Proofs.Ytffcglfepobdjaa
