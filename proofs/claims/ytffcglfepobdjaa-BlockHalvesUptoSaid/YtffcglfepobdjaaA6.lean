/- Cuts of a slice that is read. -/
import Derived.Test.YtffcglfepobdjaaA5
set_option linter.unusedVariables false
set_option linter.unusedSimpArgs false
namespace Go.Proofs.Ytffcglfepobdjaa
open Go.RowKit

theorem add_add (ad : Addr) (i j : Nat) : (ad.add i).add j = ad.add (i + j) := by
  unfold Addr.add
  by_cases h1 : i = 0 <;> by_cases h2 : j = 0 <;> simp [h1, h2, Nat.add_assoc]
theorem Reads.drop {w : World} {A : Option Addr} {cs : List Value} (h : Reads w A cs) (c l : Nat) (hc : cs.length ≤ c) : Reads w (if c = l then A else A.map (·.add l)) (cs.drop l) := by
  intro j u hu
  rw [List.getElem?_drop] at hu
  obtain ⟨ad, rfl, hx⟩ := h _ u hu
  have hlt : l + j < cs.length := (List.getElem?_eq_some_iff.1 hu).1
  rw [if_neg (by omega)]
  exact ⟨_, rfl, by rw [add_add]; exact hx⟩
theorem Reads.take {w : World} {A : Option Addr} {cs : List Value} (h : Reads w A cs) (n : Nat) : Reads w A (cs.take n) := by
  intro j u hu
  rw [List.getElem?_take] at hu
  split at hu
  · exact h j u hu
  · cases hu
/-- 'xs[l:]', the new address a letter. -/
theorem cut_low {P : Program} (t e : TypeId) (kl : IntKind) {z : Option Value} {bytes : Nat} (ht : P.underlying t = some (.slice e)) (hi : (P.info? e).map (fun i => (i.zero, i.size, i.bytes)) = some (z, 1, bytes)) (A : Option Addr) (n c l : Nat) (hl : l ≤ n) :
    ∃ A' : Option Addr, (∀ W : World, (Instr.sliceAt t (.slice A n c) (some (.int kl (l : Int))) none none).run P W = .ok (.slice A' (n - l) (c - l)) W) ∧
      ∀ (w : World) (cs : List Value), cs.length ≤ c → Reads w A cs → Reads w A' (cs.drop l) := by
  refine ⟨if c = l then A else A.map (·.add l), fun W => ?_, fun w cs hc h => h.drop c l hc⟩
  have hel : P.elem t = e := by simp [Program.elem, ht]
  have hu : P.underlying t = some (.slice (P.elem t)) := by rw [hel]; exact ht
  cases hq : P.info? e with
  | none => simp [hq] at hi
  | some i =>
    have hs : i.size = 1 := by simp [hq] at hi; exact hi.2.1
    rw [run_sliceAt_slice W t _ _ _ _ hu, run_slice_l W t A n c hu kl (l : Int) (Int.natCast_nonneg _) (by omega), hel]
    simp [sizeOf, typeInfo, hq, hs, sliced, Result.andThen]
/-- 'xs[l:h]'. -/
theorem cut_both {P : Program} (t e : TypeId) (kl kh : IntKind) {z : Option Value} {bytes : Nat} (ht : P.underlying t = some (.slice e)) (hi : (P.info? e).map (fun i => (i.zero, i.size, i.bytes)) = some (z, 1, bytes)) (A : Option Addr) (n c l h : Nat) (hl : l ≤ h) (hh : h ≤ c) :
    ∃ A' : Option Addr, (∀ W : World, (Instr.sliceAt t (.slice A n c) (some (.int kl (l : Int))) (some (.int kh (h : Int))) none).run P W = .ok (.slice A' (h - l) (c - l)) W) ∧
      ∀ (w : World) (cs : List Value), cs.length ≤ c → Reads w A cs → Reads w A' (cs.drop l) := by
  refine ⟨if c = l then A else A.map (·.add l), fun W => ?_, fun w cs hc h => h.drop c l hc⟩
  have hel : P.elem t = e := by simp [Program.elem, ht]
  have hu : P.underlying t = some (.slice (P.elem t)) := by rw [hel]; exact ht
  cases hq : P.info? e with
  | none => simp [hq] at hi
  | some i =>
    have hs : i.size = 1 := by simp [hq] at hi; exact hi.2.1
    rw [run_sliceAt_slice W t _ _ _ _ hu, run_slice_lh W t A n c hu kl kh (l : Int) (h : Int) (Int.natCast_nonneg _) (by omega) (by omega), hel]
    simp [sizeOf, typeInfo, hq, hs, sliced, Result.andThen]
theorem exec_sliceAt {P : Program} {a : Act} {w : World} {o : Oper} (t : TypeId) (x : Operand) (lo hi : Option Operand) (ho : o.op = .slice t x lo hi none) {v r : Value} {lv hv : Option Value}
    (hx : a.eval x = v) (hl : lo.map a.eval = lv) (hh : hi.map a.eval = hv) (hr : (Instr.sliceAt t v lv hv none).run P w = .ok r w) : (execOp a.eval o).run P w = .ok (.value r) w := by
  simp [execOp, ho, hx, hl, hh, hr, Result.andThen]
end Go.Proofs.Ytffcglfepobdjaa
