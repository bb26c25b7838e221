/- How a slice of numbers is opened. -/
import Derived.Test.YtffcglfepobdjaaE1
set_option linter.unusedVariables false
set_option linter.unusedSimpArgs false
set_option maxRecDepth 100000
namespace Go.Proofs.Ytffcglfepobdjaa
open Go.ChangeShapes Go.WideShapes Go.ChangeAt Go.RowKit Go.Deep

theorem open_nums {H : Type} {enc : TypeId × Value → H} {W : World} {base : Nat} {t : TypeId} {v : Value} {d : DataW H} {ps : List MemPlace} (hu : Try.prog.underlying t = some (.slice 3)) (hval : Value.okWide Try.prog W .any base t v)
    (h : DataW.Trod enc Try.prog W 0 (fun _ => true) true t v d ps) :
    ∃ A c fs, v = .slice A (fs : List Int).length c ∧ Reads W A (ints fs) ∧ (∀ z ∈ fs, -9223372036854775808 ≤ z ∧ z ≤ 9223372036854775807) ∧ fs.length + 1 ≤ Rows.uptoBulk d := by
  obtain ⟨fuel, hn⟩ := h
  obtain ⟨a0, len, cap, rfl⟩ := okWide_slice hu hval
  obtain ⟨A, c, fs, hcs, h1, h2, h3⟩ := trod_nums hu hn
  simp [Value.cells] at hcs
  obtain ⟨rfl, rfl, rfl⟩ := hcs
  exact ⟨_, _, fs, rfl, h1, h2, h3⟩
end Go.Proofs.Ytffcglfepobdjaa
