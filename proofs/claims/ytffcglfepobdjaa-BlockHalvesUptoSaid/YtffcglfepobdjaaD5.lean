/- What BlockFlushed asks of the device: plain law; a map that the call owns. -/
import Derived.Test.YtffcglfepobdjaaD4
import Derived.Maps.OwnOps
import Derived.Maps.OwnSet
import Derived.Maps.Views
set_option linter.unusedVariables false
set_option linter.unusedSimpArgs false
set_option maxRecDepth 10000
namespace Go.Proofs.Ytffcglfepobdjaa
open Go.RowKit Go.Maps

theorem crashK_else (fs : List Int) (l : List Bk) (row : List (Nat × Bk)) (i : Nat) (h : ∀ p ∈ row, p.1 ≠ i) : ∀ k, k ≤ row.length → (crashK fs l row k).getD i [] = l.getD i []
  | 0, _ => rfl
  | k + 1, hk => by
    have e : row.getD k (0, []) = row[k] := by simp [List.getD_eq_getElem?_getD, show k < row.length by omega]
    rw [crashK, crash1, e, List.getD_eq_getElem?_getD, List.getElem?_set_ne (h _ (List.getElem_mem (by omega))), ← List.getD_eq_getElem?_getD]
    exact crashK_else fs l row i h k (by omega)
theorem crash_at_else {D : DS} (fs : List Int) {i : Nat} (h : ∀ p ∈ D.row, p.1 ≠ i) : (D.crash fs).at i = D.l.getD i [] := crashK_else fs D.l D.row i h _ (Nat.le_refl _)
theorem flatten_block : ∀ (l : List Bk) (i : Nat), (∀ b ∈ l, b.length = 64) → i < l.length → (l.flatten.drop (i * 64)).take 64 = l.getD i []
  | [], i, _, h => by simp at h
  | b :: l, 0, he, _ => by
    have hb := he b (by simp)
    rw [Nat.zero_mul, List.drop_zero, List.flatten_cons, List.take_append_of_le_length (by omega), ← hb, List.take_length]
    rfl
  | b :: l, i + 1, he, h => by
    have hb := he b (by simp)
    have ih := flatten_block l i (fun c hc => he c (by simp [hc])) (by simpa using h)
    rw [List.flatten_cons, Nat.succ_mul, Nat.add_comm, ← List.drop_drop]
    rw [show List.drop 64 (b ++ l.flatten) = l.flatten by rw [← hb, List.drop_left]]
    rw [ih]; rfl
theorem flatten_length64 : ∀ (l : List Bk), (∀ b ∈ l, b.length = 64) → l.flatten.length = l.length * 64
  | [], _ => rfl
  | b :: l, h => by rw [List.flatten_cons, List.length_append, flatten_length64 l (fun c hc => h c (by simp [hc])), h b (by simp), List.length_cons]; omega

/-- A device that was never armed. -/
structure Calm (D : DS) : Prop where
  fuse : D.fuse = -1
  down : D.down = false
theorem calm_new (n : Nat) : Calm (DS.new n) := ⟨rfl, rfl⟩
theorem calm_write {D : DS} (h : Calm D) (k : Int) (b : List UInt8) :
    (D.write k b = (D, 101)) ∨ (0 ≤ k ∧ k < D.l.length ∧ D.write k b = ((D.put k.toNat b).tick, 0)) := by
  unfold DS.write
  rw [h.down, h.fuse]
  simp only [Bool.false_eq_true, if_false]
  split
  · exact .inl rfl
  · exact .inr ⟨by omega, by omega, rfl⟩
theorem calm_tick {D : DS} (h : Calm D) : Calm D.tick := ⟨by simp only [DS.tick, h.fuse]; omega, by simp [DS.tick, h.fuse]⟩
theorem calm_put {D : DS} (h : Calm D) (k : Nat) (b : List UInt8) : Calm (D.put k b) := ⟨h.fuse, h.down⟩
theorem calm_flush {D : DS} (h : Calm D) : D.flush = (D.flushed, 0) ∧ Calm D.flushed := by
  refine ⟨?_, ⟨(calm_tick h).fuse, (calm_tick h).down⟩⟩
  unfold DS.flush
  rw [h.down, h.fuse]
  rfl

/-! ### The map -/
abbrev i64l (z : Int) : DataW Unit := .lit (.int .i64 z)
abbrev SMap (w : World) (b n : Nat) (M : DataW Unit) : Prop := w.ownsMap Try.prog 3 (plainElem Try.prog 3) b n M
theorem law3 : Keyed Try.prog 3 := int_keyed Try.underlying3
theorem zero3 (w : World) : (zeroValue 3).run Try.prog w = .ok (.int .i64 0) w := by kernel_rfl
theorem key3 {z : Int} (h1 : -9223372036854775808 ≤ z) (h2 : z ≤ 9223372036854775807) : keyOf Try.prog 3 (.int .i64 z) = some (.int .i64 z) := keyOf_int_mk Try.underlying3 (by simp [Lit.wf, IntKind.min, IntKind.max, IntKind.signed, IntKind.bits]; omega)
theorem SMap.keep {w w' : World} {F : Nat → Prop} {b n : Nat} {M : DataW Unit} (h : SMap w b n M) (hk : Keep F w w') (hb : ¬ F b) : SMap w' b n M := by
  have hlt := World.ownsMap.lt h
  obtain ⟨es, clock, h1, h2⟩ := h
  exact ⟨es, clock, (hk.block b hlt hb).trans h1, h2⟩
/-- What was written since the last flush is in the map. -/
def Since (M : DataW Unit) (row : List (Nat × Bk)) : Prop := ∀ p ∈ row, M.atKey (.int .i64 (p.1 : Int)) (i64l 0) = i64l 1
theorem since_nil (M : DataW Unit) : Since M [] := fun p hp => by cases hp
theorem since_put {M : DataW Unit} {row : List (Nat × Bk)} (h : Since M row) (hM : IsMap M) (k : Nat) (b : Bk) : Since (M.put (.int .i64 (k : Int)) (i64l 1)) (row ++ [(k, b)]) := by
  intro p hp
  by_cases hk : (p.1 : Int) = k
  · rw [hk]
    exact atKey_put_same hM (by simp [WideAt.IsKeyLit]) _ _
  · rw [atKey_put_other (by simp; omega)]
    rcases List.mem_append.1 hp with hp | hp
    · exact h p hp
    · rw [List.mem_singleton.1 hp] at hk; exact absurd rfl hk
theorem since_not {M : DataW Unit} {row : List (Nat × Bk)} (h : Since M row) {i : Nat} {c : Int} (hat : M.atKey (.int .i64 (i : Int)) (i64l 0) = i64l c) (hc : c = 0) : ∀ p ∈ row, p.1 ≠ i := by
  intro p hp e
  have h1 := h p hp
  rw [e, hat, hc] at h1
  simp [i64l] at h1
end Go.Proofs.Ytffcglfepobdjaa
