/- The reference's Do: results that lie in a variable and a slot; a write built; the frame of all kinds. -/
import Derived.Test.YtffcglfepobdjaaH2
import Derived.Laws.ResultCell
import Derived.Laws.Tables
set_option linter.unusedVariables false
set_option linter.unusedSimpArgs false
set_option maxRecDepth 10000
set_option maxHeartbeats 1500000
namespace Go.Proofs.Ytffcglfepobdjaa
open Go.RowKit
section
variable {P : Program} {w : World} {ops : Array Oper} {rest : List Oper} {o : Oper} {a : Act} {Q : Exit → Act → World → Prop}
/-- Two results: one lies in a variable, one in a slot. -/
theorem ret_cell_tmp {fn : Func} {R : Ending → World → Prop} {p u : Tmp} {ty : TypeId} (h : fn.results = #[.cell p ty, .tmp u]) (b : Nat) (cs : List Value) (t : TypeId) (d : TypeDesc) (v : Value) {z : Option Value} {bytes : Nat}
    (hx : a.tmps.getD p undef = .pointer (some ⟨b, 0, none⟩)) (hy : a.tmps.getD u undef = v) (hB : BlockIs w b cs t) (hu : P.underlying ty = some d) (hd : d.isRow = true) (hi : (P.info? ty).map (fun i => (i.zero, i.size, i.bytes)) = some (z, cs.length, bytes))
    (hdf : a.defers = []) (hR : R (.returned (.tuple #[.agg cs.toArray, v])) w) : bodyPost P fn R .ret a w := by
  refine bodyPost_ret (v := .tuple #[.agg cs.toArray, v]) ?_ hdf hR
  have hl := run_loadVar_mid w b 0 ty cs d hB.rangeAll hu hd (info_size hi)
  rw [results_cell_tmp h, hx, hy]
  simp [asAddr, Sem.run_bind, hl, Result.andThen]
end

theorem foldl_set_splice (off : Nat) : ∀ (l : List Value) (k : Nat) (A : Array Value), off + k + l.length ≤ A.size → (l.zipIdx k).foldl (fun cs (p : Value × Nat) => cs.setIfInBounds (off + p.2) p.1) A = (Go.splice A.toList (off + k) l).toArray := by
  intro l
  induction l with
  | nil => intro k A _; simp [splice_nil]
  | cons v l ih =>
    intro k A hk
    simp only [List.length_cons] at hk
    rw [List.zipIdx_cons, List.foldl_cons, ih (k + 1) _ (by simp; omega)]
    simp only [Array.toList_setIfInBounds]
    rw [show off + (k + 1) = off + k + 1 by omega, splice_cons _ _ _ _ (by simp; omega)]
theorem fill_cons (place : Nat → Option (Nat × Nat)) (A : Array Value) (i off size : Nat) (v : Value) (l : List Value) (rest : List (Nat × Value)) (hp : place i = some (off, size)) (hv : v.cells = l.toArray) (hl : l.length = size) (hs : off + size ≤ A.size) :
    Instr.fill place A ((i, v) :: rest) = Instr.fill place (Go.splice A.toList off l).toArray rest := by
  have h := foldl_set_splice off l 0 A (by omega)
  rw [Nat.add_zero] at h
  rw [Instr.fill, hp]
  simp only [hv, List.size_toArray, hl]
  have hg : ¬ (off + size > A.size) := by omega
  simp only [ne_eq, not_true_eq_false, decide_false, Bool.false_or, decide_eq_true_eq, hg, if_false]
  congr 1
  rw [← h, ← Array.foldl_toList]
  congr 1
  simp
theorem built54 (parts : List (Nat × Value)) : Try.prog.built 54 parts = Instr.fill (#[(0, 1), (1, 64)][·]?) (wv (0, zb)).toArray parts := by kernel_rfl
theorem build54 (k : Int) (cs : List Value) (hl : cs.length = 64) (W : World) : (Instr.build 54 #[(0, .int .i64 k), (1, .agg cs.toArray)]).run Try.prog W = .ok (.agg (.int .i64 k :: cs).toArray) W := by
  refine run_build W 54 _ _ ?_
  rw [built54]
  show Instr.fill _ _ [(0, .int .i64 k), (1, .agg cs.toArray)] = _
  rw [fill_cons _ _ 0 0 1 _ [.int .i64 k] _ rfl rfl rfl (by simp [wv, zb])]
  rw [fill_cons _ _ 1 1 64 _ cs _ rfl rfl hl (by rw [List.size_toArray, length_splice _ _ _ (by simp [wv])]; simp [wv, zb])]
  rw [Instr.fill]
  simp [splice, zb, hl, wv]
theorem build30c (A : Option Addr) (n c : Nat) (ops : Int) (W : World) : (Instr.build 30 #[(0, .slice A n c), (2, .int .i64 ops), (3, .int .i64 (-1))]).run Try.prog W = .ok (.agg [.slice A n c, .slice none 0 0, .int .i64 ops, .int .i64 (-1), .bool false].toArray) W := by kernel_rfl
end Go.Proofs.Ytffcglfepobdjaa
