/- A row's argument: a slice of slices of bytes is opened. -/
import Derived.Test.YtffcglfepobdjaaE1m
import Derived.Test.YtffcglfepobdjaaT0m
set_option linter.unusedVariables false
set_option linter.unusedSimpArgs false
set_option maxRecDepth 10000
set_option maxHeartbeats 1500000
namespace Go.Proofs.Ytffcglfepobdjaa
open Go.ChangeShapes Go.WideShapes Go.ChangeAt Go.RowKit Go.Deep

theorem under63 : Try.prog.underlying 63 = some (.slice 33) := Try.underlying63
section
variable {H : Type} {enc : TypeId × Value → H} {W : World} {n : Nat} {cs : List Value} {x : DataW H × List MemPlace}
theorem trod_bytesN {t : TypeId} (hu : Try.prog.underlying t = some (.slice 5)) (h : DataW.trod enc Try.prog W 0 (fun _ => true) true n t cs = some x) :
    ∃ A c b, cs = [.slice A (b : List UInt8).length c] ∧ Reads W A (bv b) ∧ b.length + 1 ≤ Rows.uptoBulk x.1 ∧ (A = none → c = 0) := by
  obtain ⟨A, c, b, h1, h2, h3⟩ := trod_bytes hu h
  refine ⟨A, c, b, h1, h2, h3, fun e => ?_⟩
  subst e
  rcases open_ints hu under5 cells5 h with ⟨hcs, -⟩ | ⟨a, len', cap', zs, hcs, -⟩
  · rw [hcs] at h1
    injection h1 with h1
    injection h1 with _ _ h1
    exact h1.symm
  · rw [hcs] at h1
    injection h1 with h1
    injection h1 with h1
    cases h1
theorem recVal_of {A : Option Addr} {c : Nat} {b : List UInt8} (h : Reads W A (bv b)) (hc : A = none → c = 0) : RecVal W (fun q => q < W.heap.size) (.slice A b.length c) b :=
  ⟨A, c, rfl, h, hc, fun hb => h.nonempty hb⟩
def recsBulk (l : List (List UInt8)) : Nat := (l.map fun b => b.length + 1).sum
theorem sum_bulkL (f : Nat → Value × List UInt8) (D : Nat → DataW H) : ∀ n, (∀ i, i < n → (f i).2.length + 1 ≤ Rows.uptoBulk (D i)) → recsBulk ((List.range n).map fun i => (f i).2) ≤ Rows.uptoBulkAll ((List.range n).map D)
  | 0, _ => by simp [recsBulk]
  | n + 1, h => by
    have ih := sum_bulkL f D n (fun i hi => h i (by omega))
    have hn := h n (by omega)
    have happ : ∀ (l r : List (DataW H)), Rows.uptoBulkAll (l ++ r) = Rows.uptoBulkAll l + Rows.uptoBulkAll r := by
      intro l r
      induction l with
      | nil => simp [Rows.uptoBulkAll]
      | cons x l ih => simp only [List.cons_append, Rows.uptoBulkAll, ih]; omega
    rw [List.range_succ, List.map_append, List.map_append, happ]
    unfold recsBulk at ih ⊢
    rw [List.map_append, List.sum_append]
    simp only [List.map_cons, List.map_nil, List.sum_cons, List.sum_nil, Rows.uptoBulkAll]
    omega
instance : Inhabited (Value × List UInt8) := ⟨(undef, [])⟩
theorem trod_recs {t : TypeId} (hu : Try.prog.underlying t = some (.slice 33)) (h : DataW.trod enc Try.prog W 0 (fun _ => true) true n t cs = some x) :
    ∃ A c l, cs = [.slice A (l : List (List UInt8)).length c] ∧ ReadsL W (fun q => q < W.heap.size) A l ∧ (A = none → c = 0) ∧ l.length ≤ maxLen ∧ recsBulk l + 1 ≤ Rows.uptoBulk x.1 := by
  rcases open_slice hu h with ⟨hcs, hx⟩ | ⟨a, len, m, m', k, D, Pl, hcs, _, hl, hm, hmm, hx, hel⟩
  · exact ⟨none, 0, [], hcs, ⟨⟨[], rfl, Reads.nil _ _, fun i v b e => by simp at e⟩, fun e => absurd rfl e⟩, fun _ => rfl, Nat.zero_le _, by rw [hx]; simp [Rows.uptoBulk, recsBulk]⟩
  · simp only [if_true] at hmm
    subst hmm
    have hd : x.1 = .slice ((List.range len).map D) ((List.range (m' - len)).map fun j => D (len + j)) := by rw [hx]
    have hall := bulk_elems ((List.range len).map D) ((List.range (m' - len)).map fun j => D (len + j))
    rw [← hd] at hall
    have hone : ∀ i, i < len → ∃ y : Value × List UInt8, W.cells? 0 (a.add (i * 1)) 1 = some [y.1] ∧ RecVal W (fun q => q < W.heap.size) y.1 y.2 ∧ y.2.length + 1 ≤ Rows.uptoBulk (D i) := fun i hi => by
      obtain ⟨cs', h1, h2⟩ := hel i (by omega)
      rw [cells33] at h1
      obtain ⟨A, c, b, rfl, h3, h4, h5⟩ := trod_bytesN under33 h2
      exact ⟨(.slice A b.length c, b), h1, recVal_of h3 h5, h4⟩
    obtain ⟨f, hf⟩ := choose_lt (p := fun i (y : Value × List UInt8) => W.cells? 0 (a.add (i * 1)) 1 = some [y.1] ∧ RecVal W (fun q => q < W.heap.size) y.1 y.2 ∧ y.2.length + 1 ≤ Rows.uptoBulk (D i)) hone
    have hlen : ((List.range len).map fun i => (f i).2).length = len := by simp
    have hsum := sum_bulkL f D len (fun i hi => (hf i hi).2.2)
    have hR : Reads W (some a) ((List.range len).map fun i => (f i).1) := by
      intro j u hu
      rw [List.getElem?_map] at hu
      rcases Nat.lt_or_ge j len with hj | hj
      · rw [List.getElem?_range hj] at hu
        simp only [Option.map_some, Option.some.injEq] at hu
        subst hu
        refine ⟨a, rfl, ?_⟩
        obtain ⟨_, _, hc⟩ := World.cells?_some (hf j hj).1
        have h4 := hc 0 (by decide)
        rw [Go.Deep.add_add] at h4
        simpa using h4
      · rw [List.getElem?_eq_none (by simpa using hj)] at hu
        cases hu
    refine ⟨some a, m', (List.range len).map fun i => (f i).2, by rw [hlen]; exact hcs, ⟨⟨(List.range len).map fun i => (f i).1, by simp, hR, fun i v b e1 e2 => ?_⟩, fun hne ad e => ?_⟩, fun e => (by cases e), by rw [hlen]; omega, by omega⟩
    · rw [List.getElem?_map] at e1 e2
      rcases Nat.lt_or_ge i len with hj | hj
      · rw [List.getElem?_range hj] at e1 e2
        simp only [Option.map_some, Option.some.injEq] at e1 e2
        subst e1
        subst e2
        exact (hf i hj).2.1
      · rw [List.getElem?_eq_none (by simpa using hj)] at e1
        cases e1
    · injection e with e
      subst e
      have h0 : 0 < ((List.range len).map fun i => (f i).1).length := by
        have := List.length_pos_iff.2 hne
        simpa using this
      obtain ⟨g, o, e, -, hg⟩ := hR.where h0
      injection e with e
      subst e
      exact hg
theorem open_recs {base : Nat} {t : TypeId} {v : Value} {d : DataW H} {ps : List MemPlace} (hu : Try.prog.underlying t = some (.slice 33)) (hval : Value.okWide Try.prog W .any base t v)
    (h : DataW.Trod enc Try.prog W 0 (fun _ => true) true t v d ps) :
    ∃ A c l, v = .slice A (l : List (List UInt8)).length c ∧ ReadsL W (fun q => q < W.heap.size) A l ∧ (A = none → c = 0) ∧ l.length ≤ maxLen ∧ recsBulk l + 1 ≤ Rows.uptoBulk d := by
  obtain ⟨fuel, hn⟩ := h
  obtain ⟨a0, len, cap, rfl⟩ := okWide_slice hu hval
  obtain ⟨A, c, l, h1, h2, h3, h4, h5⟩ := trod_recs hu hn
  simp only [Value.cells] at h1
  have e : Value.slice a0 len cap = .slice A l.length c := by simpa using h1
  exact ⟨A, c, l, e, h2, h3, h4, h5⟩
end
end Go.Proofs.Ytffcglfepobdjaa
