/- What BlockDown asks, of the device's states: plain law. -/
import Derived.Test.YtffcglfepobdjaaF0
set_option linter.unusedVariables false
set_option linter.unusedSimpArgs false
namespace Go.Proofs.Ytffcglfepobdjaa

/-- What an armed device is, at any op. -/
structure Armed (N : Int) (D : DS) : Prop where
  down : D.down = true ↔ 0 ≤ N ∧ N < D.ops
  fuse : D.fuse = if N < 0 then -1 else max (N - D.ops) (-1)

theorem armed_new (n : Nat) (N : Int) : Armed N ((DS.new n).arm N) := by
  refine ⟨?_, ?_⟩
  · simp [DS.new, DS.arm]
  · simp only [DS.new, DS.arm]
    split <;> omega
theorem armed_tick {N : Int} {D : DS} (h : Armed N D) (hd : D.down = false) : Armed N D.tick := by
  have h1 := h.down
  have h2 := h.fuse
  rw [hd] at h1
  simp only [Bool.false_eq_true, false_iff, not_and, Int.not_lt] at h1
  refine ⟨?_, ?_⟩
  · simp only [DS.tick, beq_iff_eq]
    split at h2 <;> omega
  · simp only [DS.tick]
    split at h2 <;> split <;> omega

/-- What one write, or flush, tells. -/
structure Told (N : Int) (D : DS) (R : DS × Int) : Prop where
  armed : Armed N R.1
  was : D.down = true → R = (D, 100)
  told : D.down = false → (R.2 = 100 ↔ R.1.down = true)

theorem armed_congr {N : Int} {D E : DS} (h : Armed N D) (hd : E.down = D.down) (ho : E.ops = D.ops) (hf : E.fuse = D.fuse) : Armed N E := ⟨by rw [hd, ho]; exact h.down, by rw [hf, ho]; exact h.fuse⟩
theorem told_write {N : Int} {D : DS} (h : Armed N D) (k : Int) (b : List UInt8) : Told N D (D.write k b) := by
  unfold DS.write
  split
  · rename_i hd
    exact ⟨h, fun _ => rfl, fun hd' => by rw [hd] at hd'; cases hd'⟩
  · rename_i hd
    have hd : D.down = false := by simpa using hd
    split
    · exact ⟨h, fun hd' => (by rw [hd] at hd'; cases hd'), fun _ => by rw [hd]; simp⟩
    · refine ⟨armed_congr (armed_tick h hd) rfl rfl rfl, fun hd' => (by rw [hd] at hd'; cases hd'), fun _ => ?_⟩
      simp only [DS.tick, DS.put]
      split <;> simp_all
theorem told_flush {N : Int} {D : DS} (h : Armed N D) : Told N D D.flush := by
  unfold DS.flush
  split
  · rename_i hd
    exact ⟨h, fun _ => rfl, fun hd' => by rw [hd] at hd'; cases hd'⟩
  · rename_i hd
    have hd : D.down = false := by simpa using hd
    split
    · rename_i hf
      exact ⟨armed_tick h hd, fun hd' => (by rw [hd] at hd'; cases hd'), fun _ => by simp [DS.tick, hf]⟩
    · rename_i hf
      exact ⟨armed_congr (armed_tick h hd) rfl rfl rfl, fun hd' => (by rw [hd] at hd'; cases hd'), fun _ => by simp [DS.tick, DS.flushed, hf]⟩
theorem told_op {N : Int} {D : DS} (h : Armed N D) (o : OpV) (hk : o.kind = 0 ∨ o.kind = 1) : Told N D (D.doOp o) := by
  unfold DS.doOp
  rcases hk with hk | hk
  · rw [if_pos hk]; exact told_write h _ _
  · rw [if_neg (by omega), if_pos hk]; exact told_flush h

theorem few_pos (xs : List OpC) : 0 ≤ few xs ∧ (few xs = 0 ↔ xs.length ≤ 80 ∧ scriptSize xs ≤ 8000) := by
  unfold few
  split
  · rename_i h
    exact ⟨by omega, by simp [h]⟩
  · rename_i h
    exact ⟨by omega, ⟨fun e => by omega, fun e => absurd e h⟩⟩
end Go.Proofs.Ytffcglfepobdjaa
