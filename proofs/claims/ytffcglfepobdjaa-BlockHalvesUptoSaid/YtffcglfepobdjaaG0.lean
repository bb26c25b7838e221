/- A variable's cell is stored into: the world behind is a new word. -/
import Derived.Test.YtffcglfepobdjaaB10
import Derived.Test.YtffcglfepobdjaaC6
set_option linter.unusedVariables false
set_option linter.unusedSimpArgs false
namespace Go.Proofs.Ytffcglfepobdjaa
open Go.RowKit
section
variable {P : Program} {w : World} {ops : Array Oper} {rest : List Oper} {o : Oper} {a : Act} {Q : Exit → Act → World → Prop}
theorem wpList_store_blk (hgd : o.guard = none) (ty : TypeId) (x y : Operand) (ho : o.op = .store ty x y) (b k : Nat) (cs : List Value) (t : TypeId) (v : Value) {z : Option Value} {bytes : Nat}
    (hx : a.eval x = .pointer (some ⟨b, k, none⟩)) (hy : a.eval y = v) (hB : BlockIs w b cs t) (hk : k < cs.length) (hv : v.oneCell' = true) (hc : v.cells = #[v]) (hi : (P.info? ty).map (fun i => (i.zero, i.size, i.bytes)) = some (z, 1, bytes))
    (h : ∀ w1, BlockIs w1 b (cs.set k v) t → Keep (Only b) w w1 → wpList P ops Q rest (a.put o.dst undef) w1) : wpList P ops Q (o :: rest) a w := by
  refine wpList_plain hgd fun K' hK' => ?_
  have hr := exec_store_cell (P := P) ty x y ho b k v cs t hx hy hB hk hv hc hi
  unfold Oper.wp
  rw [hr]
  exact hK' _ _ (h _ (hB.set k v) ((Keep.refl _ _).cell k v))
/-- A cell of a variable is loaded. -/
theorem wpList_load_cell (hgd : o.guard = none) (ty : TypeId) (x : Operand) (ho : o.op = .load ty x) (b k : Nat) (cs : List Value) (t : TypeId) (v : Value) (d : TypeDesc)
    (hx : a.eval x = .pointer (some ⟨b, k, none⟩)) (hB : BlockIs w b cs t) (hv : cs[k]? = some v) (hu : P.underlying ty = some d) (hd : d.isRow = false)
    (h : wpList P ops Q rest (a.put o.dst v) w) : wpList P ops Q (o :: rest) a w := by
  refine wpList_run hgd v w ?_ h
  have hagg : (isAgg ty).run P w = .ok false w := by
    unfold isAgg
    rw [Sem.run_bind, run_underlying hu w]
    cases d <;> simp_all
  have hc : w.cell? ⟨b, k, none⟩ = some v := by rw [hB.cell]; exact hv
  have hl : (loadVar ty ⟨b, k, none⟩).run P w = .ok v w := by simp [loadVar, Sem.run_bind, hagg, hc]
  unfold execOp
  simp only [ho, hx, Instr.loadAt, Instr.sureAddr, Sem.run_bind, Sem.run_pure, Result.andThen_ok, hl]
/-- A result that lies in a variable. -/
theorem ret_cell {fn : Func} {R : Ending → World → Prop} {p : Tmp} {ty : TypeId} (h : fn.results = #[.cell p ty]) (b : Nat) (cs : List Value) (t : TypeId) (d : TypeDesc) {z : Option Value} {bytes : Nat}
    (hx : a.tmps.getD p undef = .pointer (some ⟨b, 0, none⟩)) (hB : BlockIs w b cs t) (hu : P.underlying ty = some d) (hd : d.isRow = true) (hi : (P.info? ty).map (fun i => (i.zero, i.size, i.bytes)) = some (z, cs.length, bytes))
    (hdf : a.defers = []) (hR : R (.returned (.agg cs.toArray)) w) : bodyPost P fn R .ret a w := by
  refine bodyPost_ret (v := .agg cs.toArray) ?_ hdf hR
  have hl := run_loadVar_mid w b 0 ty cs d hB.rangeAll hu hd (info_size hi)
  have hx' : a.tmps[p]?.getD undef = .pointer (some ⟨b, 0, none⟩) := by simpa using hx
  simp [results, h, hx', asAddr, Sem.run_bind, hl]
end
end Go.Proofs.Ytffcglfepobdjaa
