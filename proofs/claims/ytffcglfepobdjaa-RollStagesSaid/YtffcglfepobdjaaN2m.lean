/- package roll, plain: what stands on a device behind a roll's calls. -/
import Derived.Test.YtffcglfepobdjaaT0m
set_option linter.unusedVariables false
set_option linter.unusedSimpArgs false
set_option maxRecDepth 10000
set_option maxHeartbeats 1500000
namespace Go.Proofs.Ytffcglfepobdjaa
open Go.RowKit

theorem at_put {D : DS} (k : Nat) (b : List UInt8) (j : Nat) (hj : j < D.l.length) : (D.put k b).at j = if k = j then fillz b else D.at j := by
  unfold DS.at DS.all DS.put
  exact putAll_at_snoc D.l D.row (k, fillz b) j hj
theorem at_tick (D : DS) (j : Nat) : D.tick.at j = D.at j := rfl
theorem at_flushed (D : DS) (j : Nat) : D.flushed.at j = D.at j := rfl
/-- A write that is in its place. -/
theorem write_in {D : DS} (hd : D.down = false) {k : Nat} (hk : k < D.l.length) {b : List UInt8} (hb : b.length ≤ 64) : D.write (k : Int) b = ((D.put k b).tick, if D.fuse == 0 then 100 else 0) := by
  unfold DS.write
  rw [if_neg (by rw [hd]; decide), if_neg (by omega)]
  rfl
theorem write_row {D : DS} (k : Nat) (b : List UInt8) : (D.put k b).tick.row = D.row ++ [(k, fillz b)] := rfl
theorem tick_down_of {D : DS} (h : D.fuse ≠ 0) : D.tick.down = false := by show (D.fuse == 0) = false; simpa using h
/-- What writes in their places make: the blocks that are written before the device goes down. -/
theorem writes_in : ∀ (l : List Bk) (D : DS) (k : Nat), D.down = false → (∀ x ∈ l, x.length = 64) → k + l.length ≤ D.l.length →
    ∃ m, m ≤ l.length ∧ (D.writes (k : Int) l).1.l = D.l ∧ (D.writes (k : Int) l).1.row = D.row ++ ((l.take m).zipIdx k).map (fun p => (p.2, p.1)) ∧
      (((D.writes (k : Int) l).2 = 0 ∧ m = l.length ∧ (D.writes (k : Int) l).1.down = false) ∨ ((D.writes (k : Int) l).2 = 100 ∧ (D.writes (k : Int) l).1.down = true))
  | [], D, k, hd, _, _ => ⟨0, Nat.le_refl _, rfl, by simp [DS.writes], .inl ⟨rfl, rfl, hd⟩⟩
  | x :: l, D, k, hd, h64, hk => by
    have hx := h64 x (by simp)
    have hw := write_in hd (k := k) (b := x) (by simp at hk; omega) (by omega)
    have hfx : fillz x = x := fillz_full x hx
    by_cases hf : D.fuse = 0
    · have he : D.writes (k : Int) (x :: l) = ((D.put k x).tick, 100) := by
        rw [writes_cons_no (by rw [hw, hf]; show (if ((0 : Int) == 0) = true then (100 : Int) else 0) ≠ 0; decide), hw, hf]; rfl
      rw [he]
      refine ⟨1, by simp, rfl, by rw [write_row, hfx]; simp, .inr ⟨rfl, ?_⟩⟩
      show (D.fuse == 0) = true
      rw [hf]; rfl
    · have hf' : (D.fuse == 0) = false := by simpa using hf
      have he : D.writes (k : Int) (x :: l) = (D.put k x).tick.writes ((k + 1 : Nat) : Int) l := by
        rw [writes_cons_ok (by rw [hw, hf']; rfl), hw]; rfl
      rw [he]
      obtain ⟨m, h1, h2, h3, h4⟩ := writes_in l (D.put k x).tick (k + 1) hf' (fun y hy => h64 y (by simp [hy])) (by show k + 1 + l.length ≤ D.l.length; simp at hk; omega)
      refine ⟨m + 1, by simp; exact h1, h2, ?_, ?_⟩
      · rw [h3, write_row, hfx]
        simp [List.zipIdx_cons]
      · rcases h4 with ⟨a, b, c⟩ | h
        · exact .inl ⟨a, by rw [b]; simp, c⟩
        · exact .inr h
/-- The blocks as they are read. -/
theorem writes_at : ∀ (l : List Bk) (D : DS) (k : Nat), D.down = false → (∀ x ∈ l, x.length = 64) → k + l.length ≤ D.l.length → (D.writes (k : Int) l).2 = 0 →
    ∀ j, j < D.l.length → (D.writes (k : Int) l).1.at j = if k ≤ j ∧ j < k + l.length then l.getD (j - k) [] else D.at j
  | [], D, k, _, _, _, _, j, hj => by rw [if_neg (by simp only [List.length_nil]; omega)]; rfl
  | x :: l, D, k, hd, h64, hk, he, j, hj => by
    have hx := h64 x (by simp)
    have hw := write_in hd (k := k) (b := x) (by simp at hk; omega) (by omega)
    have hfx : fillz x = x := fillz_full x hx
    by_cases hf : D.fuse = 0
    · rw [writes_cons_no (by rw [hw, hf]; show (if ((0 : Int) == 0) = true then (100 : Int) else 0) ≠ 0; decide), hw, hf] at he
      cases he
    · have hf' : (D.fuse == 0) = false := by simpa using hf
      have hc : D.writes (k : Int) (x :: l) = (D.put k x).tick.writes ((k + 1 : Nat) : Int) l := by
        rw [writes_cons_ok (by rw [hw, hf']; rfl), hw]; rfl
      rw [hc] at he ⊢
      rw [writes_at l (D.put k x).tick (k + 1) hf' (fun y hy => h64 y (by simp [hy])) (by show k + 1 + l.length ≤ D.l.length; simp at hk; omega) he j hj, at_tick, at_put k x j hj, hfx]
      by_cases h1 : k + 1 ≤ j ∧ j < k + 1 + l.length
      · rw [if_pos h1, if_pos ⟨by omega, by simp; omega⟩, show j - k = (j - (k + 1)) + 1 by omega]
        rfl
      · rw [if_neg h1]
        by_cases h2 : k = j
        · subst h2
          rw [if_pos rfl, if_pos ⟨Nat.le_refl _, by simp⟩, Nat.sub_self]
          rfl
        · rw [if_neg h2, if_neg (by simp; omega)]
theorem calm_writes : ∀ (l : List Bk) (D : DS) (k : Nat), Calm D → (∀ x ∈ l, x.length = 64) → k + l.length ≤ D.l.length → (D.writes (k : Int) l).2 = 0 ∧ Calm (D.writes (k : Int) l).1
  | [], D, k, h, _, _ => ⟨rfl, h⟩
  | x :: l, D, k, h, h64, hk => by
    have hw := write_in h.down (k := k) (b := x) (by simp at hk; omega) (by have := h64 x (by simp); omega)
    have hf' : (D.fuse == 0) = false := by rw [h.fuse]; rfl
    have hc : D.writes (k : Int) (x :: l) = (D.put k x).tick.writes ((k + 1 : Nat) : Int) l := by
      rw [writes_cons_ok (by rw [hw, hf']; rfl), hw]; rfl
    rw [hc]
    exact calm_writes l _ (k + 1) (calm_tick (calm_put h k x)) (fun y hy => h64 y (by simp [hy])) (by show k + 1 + l.length ≤ D.l.length; simp at hk; omega)
theorem calm_turn {D : DS} (h : Calm D) {k : Nat} (hk : k < D.l.length) {b : List UInt8} (hb : b.length = 64) : D.turn (k : Int) b = ((D.flushed.put k b).tick.flushed, 0) ∧ Calm (D.turn (k : Int) b).1 := by
  obtain ⟨e1, c1⟩ := calm_flush h
  have hl : D.flushed.l.length = D.l.length := all_length D
  have e2 := write_in c1.down (k := k) (b := b) (by omega) (by omega)
  have hf : (D.flushed.fuse == 0) = false := by rw [c1.fuse]; rfl
  rw [hf] at e2
  obtain ⟨e3, c3⟩ := calm_flush (calm_tick (calm_put c1 k b))
  have he : D.turn (k : Int) b = ((D.flushed.put k b).tick.flushed, 0) := by
    unfold DS.turn
    rw [e1]
    simp only [if_pos, e2]
    rw [show (if false = true then (100 : Int) else 0) = 0 from rfl, if_pos rfl, e3]
  exact ⟨he, by rw [he]; exact c3⟩
theorem calm_turn_at {D : DS} (h : Calm D) {k : Nat} (hk : k < D.l.length) {b : List UInt8} (hb : b.length = 64) (j : Nat) (hj : j < D.l.length) : (D.turn (k : Int) b).1.at j = if k = j then b else D.at j := by
  rw [(calm_turn h hk hb).1]
  show ((D.flushed.put k b).tick.flushed).at j = _
  rw [at_flushed, at_tick, at_put k b j (by show j < D.all.length; rw [all_length]; exact hj), at_flushed, fillz_full b hb]
end Go.Proofs.Ytffcglfepobdjaa
