/- The reference's crash: the plain part. -/
import Derived.Test.YtffcglfepobdjaaI4
set_option linter.unusedVariables false
set_option linter.unusedSimpArgs false
set_option maxRecDepth 10000
set_option maxHeartbeats 1500000
namespace Go.Proofs.Ytffcglfepobdjaa
open Go.RowKit

def takes (f i : Nat) : Prop := f = 1 ∨ (f = 2 ∧ i < 32) ∨ (f = 3 ∧ 32 ≤ i)
instance (f i : Nat) : Decidable (takes f i) := by unfold takes; infer_instance
/-- The first j bytes are dealt with. -/
def mixJ (f j : Nat) (a b : Bk) : Bk := (List.range 64).map fun i => if i < j ∧ takes f i then b.getD i 0 else a.getD i 0
theorem mixJ_length (f j : Nat) (a b : Bk) : (mixJ f j a b).length = 64 := by simp [mixJ]
theorem mixJ_zero (f : Nat) (a b : Bk) (ha : a.length = 64) : mixJ f 0 a b = a := by
  apply List.ext_getElem?
  intro i
  by_cases h : i < 64
  · simp [mixJ, h, List.getD_eq_getElem?_getD, ha]
  · rw [List.getElem?_eq_none (by rw [mixJ_length]; omega), List.getElem?_eq_none (by omega)]
theorem mixJ_yes (f j : Nat) (a b : Bk) (hj : j < 64) (h : takes f j) : mixJ f (j + 1) a b = (mixJ f j a b).set j (b.getD j 0) := by
  apply List.ext_getElem?
  intro i
  by_cases hi : i < 64
  · rw [List.getElem?_set]
    by_cases hij : j = i
    · subst hij
      simp [mixJ, hi, h]
    · have e : (i < j + 1) = (i < j) := by simp; omega
      simp [mixJ, hi, hij, e]
  · rw [List.getElem?_eq_none (by rw [mixJ_length]; omega), List.getElem?_eq_none (by rw [List.length_set, mixJ_length]; omega)]
theorem mixJ_no (f j : Nat) (a b : Bk) (h : ¬ takes f j) : mixJ f (j + 1) a b = mixJ f j a b := by
  unfold mixJ
  refine List.map_congr_left fun i _ => ?_
  by_cases hij : i = j
  · subst hij; simp [h]
  · have e : (i < j + 1) = (i < j) := by simp; omega
    simp only [e]
theorem mixJ_all (f : Nat) (a b : Bk) (ha : a.length = 64) (hb : b.length = 64) : mixJ f 64 a b = mix f a b := by
  apply List.ext_getElem?
  intro i
  by_cases hi : i < 64
  · have e1 : (mixJ f 64 a b)[i]? = some (if takes f i then b.getD i 0 else a.getD i 0) := by simp [mixJ, hi]
    rw [e1]
    unfold mix
    have hd : ∀ x : Bk, x.length = 64 → x[i]? = some (x.getD i 0) := fun x hx => by rw [List.getD_eq_getElem?_getD, List.getElem?_eq_getElem (by omega)]; rfl
    by_cases h32 : i < 32
    · rw [List.getElem?_append_left (by split <;> rw [List.length_take] <;> omega)]
      by_cases hf : f = 1 ∨ f = 2
      · rw [if_pos hf, List.getElem?_take, if_pos h32, hd b hb, if_pos (by unfold takes; omega)]
      · rw [if_neg hf, List.getElem?_take, if_pos h32, hd a ha, if_neg (by unfold takes; omega)]
    · have hl : (if f = 1 ∨ f = 2 then b.take 32 else a.take 32).length = 32 := by split <;> rw [List.length_take] <;> omega
      rw [List.getElem?_append_right (by omega), hl]
      by_cases hf : f = 1 ∨ f = 3
      · rw [if_pos hf, List.getElem?_drop, show 32 + (i - 32) = i by omega, hd b hb, if_pos (by unfold takes; omega)]
      · rw [if_neg hf, List.getElem?_drop, show 32 + (i - 32) = i by omega, hd a ha, if_neg (by unfold takes; omega)]
  · rw [List.getElem?_eq_none (by rw [mixJ_length]; omega), List.getElem?_eq_none (by rw [mix_length _ _ _ ha hb]; omega)]

theorem exec_store1 {P : Program} {a : Act} {w : World} {o : Oper} (ty : TypeId) (x y : Operand) (ho : o.op = .store ty x y) (b k : Nat) (v : Value) {z : Option Value} {bytes : Nat}
    (hx : a.eval x = .pointer (some ⟨b, k, none⟩)) (hy : a.eval y = v) (ht : w.there b k 1) (h1 : v.oneCell' = true) (hc : v.cells = #[v]) (hi : (P.info? ty).map (fun i => (i.zero, i.size, i.bytes)) = some (z, 1, bytes)) :
    (execOp a.eval o).run P w = .ok .skip (w.setCell ⟨b, k, none⟩ v) := by
  have hst := run_storeCells_cells (P := P) b k [v] 0 w (fun j hj => by simpa using (ht j (by simpa using hj)).1) (fun j hj => by simpa using (ht j (by simpa using hj)).2) (by simpa using h1)
  cases hq : P.info? ty with
  | none => simp [hq] at hi
  | some i =>
    have hs : i.size = 1 := by simp [hq] at hi; exact hi.2.1
    simp only [Nat.add_zero, World.setCells] at hst
    simp [execOp, ho, hx, hy, Instr.storeAt, Instr.sureAddr, storeVar, sizeOf, typeInfo, hq, hs, hc, hst]
theorem splice_one (m : Bk) (j : Nat) (y : UInt8) (hj : j < m.length) : splice (bv m) j [u8 y] = bv (m.set j y) := by
  rw [show [u8 y] = bv [y] from rfl, ← bv_splice]
  congr 1
  apply List.ext_getElem?
  intro i
  unfold splice
  rw [List.getElem?_set]
  by_cases h1 : i < j
  · rw [List.getElem?_append_left (by rw [List.length_take]; omega), List.getElem?_take, if_pos h1, if_neg (by omega)]
  · rw [List.getElem?_append_right (by rw [List.length_take]; omega), List.length_take, show min j m.length = j by omega]
    by_cases h2 : j = i
    · subst h2; simp [hj]
    · rw [if_neg h2, List.getElem?_append_right (by simp; omega), List.getElem?_drop]
      congr 1
      simp
      omega
/-- One byte of a block of a row. -/
theorem Rows.put1 {w : World} {F : Nat → Prop} {g n c : Nat} {M : List Bk} (H : Rows w F 52 64 (.slice (some ⟨g, 0, none⟩) n c) (M.map bv)) (K j : Nat) (y : UInt8) (hK : K < M.length) (hM : (M.getD K []).length = 64) (hj : j < 64) :
    Rows (w.setCell ⟨g, K * 64 + j, none⟩ (u8 y)) F 52 64 (.slice (some ⟨g, 0, none⟩) n c) ((M.set K ((M.getD K []).set j y)).map bv) ∧ w.there g (K * 64 + j) 1 := by
  have hlen : K < (M.map bv).length := by rw [List.length_map]; exact hK
  have e0 : M.getD K [] = M[K] := by simp [List.getD_eq_getElem?_getD, hK]
  have h := Rows.splice H K j [u8 y] hlen (by simp; omega)
  have e : (M.map bv).set K (Go.splice (M.map bv)[K] j [u8 y]) = (M.set K ((M.getD K []).set j y)).map bv := by
    rw [List.getElem_map, splice_one _ _ _ (by rw [← e0]; omega), ← List.map_set, e0]
  rw [e] at h
  refine ⟨h, fun q hq => ?_⟩
  have := Rows.there H K hlen (j + q) (by omega)
  rw [Nat.add_assoc]
  exact this
theorem exec_build30c {a : Act} {w : World} {o : Oper} (x y : Operand) (ho : o.op = .build 30 #[(0, x), (2, y), (3, .const (.int .i64 (-1)))]) (A : Option Addr) (n c : Nat) (ops : Int) (hx : a.eval x = .slice A n c) (hy : a.eval y = .int .i64 ops) :
    (execOp a.eval o).run Try.prog w = .ok (.value (.agg [.slice A n c, .slice none 0 0, .int .i64 ops, .int .i64 (-1), .bool false].toArray)) w := by
  have hz : a.eval (.const (.int .i64 (-1))) = .int .i64 (-1) := rfl
  unfold execOp
  simp only [ho, List.map_toArray, List.map_cons, List.map_nil, hx, hy, hz, Sem.run_bind, Sem.run_pure, Result.andThen_ok, build30c A n c ops]
end Go.Proofs.Ytffcglfepobdjaa
