/- Laws at an operation of a plain region: a whole array loaded or stored, bytes copied, a row made or appended to; over any program. -/
import Derived.Test.YtffcglfepobdjaaA0
set_option linter.unusedVariables false
set_option linter.unusedSimpArgs false
namespace Go.Proofs.Ytffcglfepobdjaa
open Go.RowKit

/-! ### Lists -/
theorem splice_nil {α : Type} (L : List α) (o : Nat) : splice L o ([] : List α) = L := by simp [splice]
theorem splice_cons {α : Type} (L : List α) (o : Nat) (v : α) (r : List α) (h : o + (r.length + 1) ≤ L.length) : splice (L.set o v) (o + 1) r = splice L o (v :: r) := by
  apply List.ext_getElem?
  intro j
  simp only [splice, List.getElem?_append, List.getElem?_take, List.getElem?_drop, List.getElem?_set, List.length_take, List.length_set, List.length_cons]
  by_cases h1 : j < o
  · have : j < o + 1 := by omega
    have h2 : ¬ o = j := by omega
    have e : min (o + 1) L.length = o + 1 := by omega
    have e2 : min o L.length = o := by omega
    simp [h1, this, h2, e, e2]
  · by_cases h2 : j = o
    · subst h2
      have e : min (j + 1) L.length = j + 1 := by omega
      have e2 : min j L.length = j := by omega
      simp [e, e2]
      omega
    · have e : min (o + 1) L.length = o + 1 := by omega
      have e2 : min o L.length = o := by omega
      have h3 : ¬ j < o + 1 := by omega
      have h4 : j - o = (j - (o + 1)) + 1 := by omega
      simp only [e, e2, h3, h1, if_false]
      rw [h4, List.getElem?_cons_succ]
      by_cases h5 : j - (o + 1) < r.length
      · have h6 : j - (o + 1) + 1 < r.length + 1 := by omega
        simp [h5, h6]
      · have h6 : ¬ j - (o + 1) + 1 < r.length + 1 := by omega
        have h7 : ¬ o = o + 1 + r.length + (j - (o + 1) - r.length) := by omega
        simp [h5, h6, h7]
        congr 1
        omega
theorem splice_take {α : Type} (L : List α) (k m : Nat) (vs : List α) (h : k + vs.length ≤ m) (hm : m ≤ L.length) : (splice L k vs).take m = splice (L.take m) k vs := by
  apply List.ext_getElem?
  intro j
  simp only [splice, List.getElem?_append, List.getElem?_take, List.getElem?_drop, List.length_take]
  by_cases h0 : j < m
  · have e : min k (min m L.length) = min k L.length := by omega
    simp only [e, h0, if_true]
    by_cases h1 : j < min k L.length
    · have : j < k := by omega
      simp [h1, this]
    · simp only [h1, if_false]
      by_cases h2 : j - min k L.length < vs.length
      · simp [h2]
      · have h3 : k + vs.length + (j - min k L.length - vs.length) < m := by omega
        simp [h2, h3]
  · have e : min k (min m L.length) = k := by omega
    have h1 : ¬ j < k := by omega
    have h2 : ¬ j - k < vs.length := by omega
    have h3 : ¬ k + vs.length + (j - k - vs.length) < m := by omega
    simp [e, h0, h1, h2, h3]
theorem splice_flatten {α : Type} (size : Nat) : ∀ (xs : List (List α)) (i o : Nat) (vs : List α), (∀ x ∈ xs, x.length = size) → (hi : i < xs.length) → o + vs.length ≤ size →
    (xs.set i (splice xs[i] o vs)).flatten = splice xs.flatten (i * size + o) vs
  | [], i, o, vs, _, hi, _ => by simp at hi
  | x :: xs, 0, o, vs, he, _, h => by
    have hx := he x (by simp)
    simp only [List.set_cons_zero, List.flatten_cons, List.getElem_cons_zero, Nat.zero_mul, Nat.zero_add, splice]
    rw [List.take_append_of_le_length (by omega), List.drop_append_of_le_length (by omega)]
    simp [List.append_assoc]
  | x :: xs, i + 1, o, vs, he, hi, h => by
    have hx := he x (by simp)
    have ih := splice_flatten size xs i o vs (fun y hy => he y (by simp [hy])) (by simpa using hi) h
    simp only [List.set_cons_succ, List.flatten_cons, List.getElem_cons_succ]
    rw [ih]
    have e : (i + 1) * size + o = x.length + (i * size + o) := by rw [hx, Nat.succ_mul]; omega
    rw [e]
    simp only [splice, List.take_length_add_append]
    rw [show x.length + (i * size + o) + vs.length = x.length + (i * size + o + vs.length) by omega, List.drop_length_add_append]
    simp [List.append_assoc]
theorem splice_whole {α : Type} (L vs : List α) (h : vs.length = L.length) : splice L 0 vs = vs := by simp [splice, h]

/-! ### Stores of many cells -/
theorem BlockIs.setCells {t : TypeId} {g : Nat} : ∀ (vs : List Value) (o : Nat) (w : World) (cs : List Value), BlockIs w g cs t → o + vs.length ≤ cs.length → BlockIs (w.setCells g o vs) g (splice cs o vs) t
  | [], o, w, cs, h, _ => by rw [splice_nil]; exact h
  | v :: r, o, w, cs, h, hl => by
    rw [World.setCells, ← splice_cons _ _ _ _ (by simpa using hl)]
    exact BlockIs.setCells r (o + 1) _ _ (h.set o v) (by simp at hl ⊢; omega)
theorem Keep.setCells {F : Nat → Prop} {g : Nat} : ∀ (vs : List Value) (o : Nat) {a w : World}, Keep F a w → (g < a.heap.size → F g) → Keep F a (w.setCells g o vs)
  | [], _, _, _, h, _ => h
  | v :: r, o, _, w, h, hg => Keep.setCells r (o + 1) (h.setCell (p := ⟨g, o, none⟩) hg v) hg
theorem Rows.splice {w : World} {F : Nat → Prop} {e : TypeId} {size : Nat} {xs : List (List Value)} {g n cap : Nat} (h : Rows w F e size (.slice (some ⟨g, 0, none⟩) n cap) xs)
    (i o : Nat) (vs : List Value) (hi : i < xs.length) (hl : o + vs.length ≤ size) : Rows (w.setCells g (i * size + o) vs) F e size (.slice (some ⟨g, 0, none⟩) n cap) (xs.set i (splice xs[i] o vs)) := by
  have hx : xs[i].length = size := h.each _ (List.getElem_mem hi)
  refine ⟨?_, ?_, h.foot⟩
  · obtain ⟨h1, h2⟩ := h.own
    refine ⟨?_, ?_⟩
    · rw [splice_flatten size xs i o vs h.each hi hl]
      have : i * size + size ≤ xs.length * size := by rw [← Nat.succ_mul]; exact Nat.mul_le_mul_right _ hi
      rw [length_splice _ _ _ (by omega), h1, List.length_set]
    · rcases h2 with ⟨h', _⟩ | ⟨g', cap', cur, hv, hb, hg, hn, hc, hs, ht⟩
      · simp at h'
      · simp only [Value.slice.injEq, Option.some.injEq, Addr.mk.injEq, and_true, true_and] at hv
        obtain ⟨rfl, rfl, rfl⟩ := hv
        have hle : i * size + size ≤ xs.length * size := by rw [← Nat.succ_mul]; exact Nat.mul_le_mul_right _ hi
        have hle2 : xs.length * size ≤ cap * size := Nat.mul_le_mul_right _ hn
        have hb' : BlockIs w g cur.toList e := by unfold BlockIs; simpa using hg
        have := BlockIs.setCells vs (i * size + o) w _ hb' (by simp; omega)
        refine .inr ⟨g, cap, _, by rw [List.length_set], Nat.zero_le _, this, by simpa using hn, hc, ?_, ?_⟩
        · rw [List.size_toArray, length_splice _ _ _ (by simp; omega)]; simpa using hs
        · rw [splice_flatten size xs i o vs h.each hi hl, List.length_set]
          show List.take (xs.length * size) (Go.splice cur.toList (i * size + o) vs) = _
          rw [splice_take _ _ _ _ (by omega) (by simp; omega), ht]
  · intro x hx'
    rcases List.mem_or_eq_of_mem_set hx' with h' | rfl
    · exact h.each x h'
    · rw [length_splice _ _ _ (by omega), hx]

/-! ### Operations -/
section
variable {P : Program} {ops : Array Oper} {rest : List Oper} {o : Oper} {a : Act} {w : World} {Q : Exit → Act → World → Prop}

theorem wpList_run (hgd : o.guard = none) (v : Value) (w1 : World) (hr : (execOp a.eval o).run P w = .ok (.value v) w1) (h : wpList P ops Q rest (a.put o.dst v) w1) : wpList P ops Q (o :: rest) a w :=
  wpList_plain hgd fun K hK => by unfold Oper.wp; rw [hr]; exact hK _ _ h

/-- A new variable of zeros: 'zs' its cells. -/
theorem wpList_alloc_z (hgd : o.guard = none) (t : TypeId) (ho : o.op = .alloc t) (z : Value) (hz : (P.info? t).map (·.zero) = some (some z)) (zs : List Value) (hzs : z.cells = zs.toArray)
    (h : wpList P ops Q rest (a.put o.dst (.pointer (some ⟨w.heap.size, 0, none⟩))) (w.alloc (.cells zs.toArray t))) : wpList P ops Q (o :: rest) a w := by
  refine wpList_run hgd (.pointer (some ⟨w.heap.size, 0, none⟩)) (w.alloc (.cells zs.toArray t)) ?_ h
  cases hq : P.info? t with
  | none => simp [hq] at hz
  | some i =>
    have hi : i.zero = some z := by simpa [hq] using hz
    simp [execOp, ho, Instr.alloc, zeroValue, typeInfo, hq, hi, newVar, newRow, hzs]

/-- A variable that is made out of a value: 'cs' its cells. -/
theorem wpList_box_z (hgd : o.guard = none) (t : TypeId) (x : Operand) (ho : o.op = .box t x) (cs : List Value) (hx : (a.eval x).cells = cs.toArray)
    (h : wpList P ops Q rest (a.put o.dst (.pointer (some ⟨w.heap.size, 0, none⟩))) (w.alloc (.cells cs.toArray t))) : wpList P ops Q (o :: rest) a w := by
  refine wpList_run hgd (.pointer (some ⟨w.heap.size, 0, none⟩)) (w.alloc (.cells cs.toArray t)) ?_ h
  simp [execOp, ho, Instr.box, newVar, newRow, hx]

/-- copy of bytes: 'cs' is what goes over. -/
theorem run_copy_any (dT sT ty elem : TypeId) (d s : Option Addr) (dLen dCap sLen sCap : Nat) (cs : List Value) (b k : Nat)
    (hu : P.underlying dT = some (.slice elem)) (hs : (P.info? elem).map (·.size) = some 1) (hn : cs.length = Nat.min sLen dLen)
    (hd : 0 < cs.length → d = some ⟨b, k, none⟩) (hsrc : ∀ j v, cs[j]? = some v → ∃ ad, s = some ad ∧ w.cell? (ad.add j) = some v) (ht : w.there b k cs.length) (h1 : ∀ v ∈ cs, v.oneCell' = true) :
    (Builtin.copy_ #[dT, sT] ty #[.slice d dLen dCap, .slice s sLen sCap]).run P w = .ok (goInt cs.length) (w.setCells b k cs) := by
  by_cases h0 : cs.length = 0
  · obtain rfl : cs = [] := List.eq_nil_of_length_eq_zero h0
    exact run_copy_none w dT sT ty elem d s dLen dCap sLen sCap hu hs (by simpa using hn.symm)
  · have hd' := hd (by omega)
    obtain ⟨ad, rfl, _⟩ := hsrc 0 cs[0] (List.getElem?_eq_getElem (by omega))
    subst hd'
    refine run_copy_cells w dT sT ty elem b k dLen dCap ad sLen sCap cs hu hs hn (fun j v hv => ?_) (fun j hj => (ht j hj).1) (fun j hj => (ht j hj).2) h1
    obtain ⟨ad', e, hc⟩ := hsrc j v hv
    simp only [Option.some.injEq] at e
    subst e; exact hc

theorem exec_copy (d s : Operand) (dT sT : TypeId) (ho : o.op = .call { callee := .builtin .copy, args := #[d, s], argTypes := #[dT, sT] }) {vd vs r : Value} {w1 : World}
    (hd : a.eval d = vd) (hs : a.eval s = vs) (hr : (Builtin.copy_ #[dT, sT] o.type #[vd, vs]).run P w = .ok r w1) : (execOp a.eval o).run P w = .ok (.value r) w1 := by
  simp [execOp, ho, resolve, invoke, builtin, hd, hs, hr, Result.andThen]

theorem wpList_copy_any (hgd : o.guard = none) (d s : Operand) (dT sT : TypeId) (ho : o.op = .call { callee := .builtin .copy, args := #[d, s], argTypes := #[dT, sT] })
    (elem : TypeId) (hu : P.underlying dT = some (.slice elem)) (hsz : (P.info? elem).map (·.size) = some 1)
    (dp sp : Option Addr) (dLen dCap sLen sCap : Nat) (hd : a.eval d = .slice dp dLen dCap) (hs : a.eval s = .slice sp sLen sCap) (cs : List Value) (b k : Nat)
    (hn : cs.length = Nat.min sLen dLen) (hdp : 0 < cs.length → dp = some ⟨b, k, none⟩) (hsrc : ∀ j v, cs[j]? = some v → ∃ ad, sp = some ad ∧ w.cell? (ad.add j) = some v) (ht : w.there b k cs.length) (h1 : ∀ v ∈ cs, v.oneCell' = true)
    (h : wpList P ops Q rest (a.put o.dst (goInt cs.length)) (w.setCells b k cs)) : wpList P ops Q (o :: rest) a w :=
  wpList_run hgd _ _ (exec_copy d s dT sT ho hd hs (run_copy_any dT sT o.type elem dp sp dLen dCap sLen sCap cs b k hu hsz hn hdp hsrc ht h1)) h

/-- A row of one element, written out. -/
theorem run_buildSlice1 (T E : TypeId) (x : Value) (hT : P.underlying T = some (.slice E)) (size : Nat) (z : Value) (hi : (P.info? E).map (fun i => (i.zero, i.size)) = some (some z, size)) (hz : z.cells.size = size) (h0 : 0 < size) (hm : size ≤ 16777216)
    (cs : List Value) (hx : x.cells = cs.toArray) (hl : cs.length = size) :
    (Instr.buildSlice T 1 #[(0, x)]).run P w = .ok (.slice (some ⟨w.heap.size, 0, none⟩) 1 1) (w.alloc (.cells cs.toArray E)) := by
  cases hq : P.info? E with
  | none => simp [hq] at hi
  | some i =>
    have hi' : i.zero = some z ∧ i.size = size := by simpa [hq] using hi
    have key : ∀ (l : List Value) (k : Nat) (A : Array Value), k + l.length ≤ A.size → (l.zipIdx k).foldl (fun cs (p : Value × Nat) => cs.setIfInBounds (0 + p.2) p.1) A = (Go.splice A.toList k l).toArray := by
      intro l
      induction l with
      | nil => intro k A _; simp [splice_nil]
      | cons v l ih =>
        intro k A hk
        simp only [List.length_cons] at hk
        rw [List.zipIdx_cons, List.foldl_cons, ih (k + 1) _ (by simp; omega)]
        simp only [Nat.zero_add, Array.toList_setIfInBounds]
        rw [splice_cons _ _ _ _ (by simp; omega)]
    have hs : Go.splice ((Array.range (1 * size)).map (z.cells[· % z.cells.size]!)).toList 0 cs = cs := splice_whole _ _ (by simp [hl])
    have hkey := key cs 0 ((Array.range (1 * size)).map (z.cells[· % z.cells.size]!)) (by simp; omega)
    rw [hs] at hkey
    have hz0 : ¬ (1 * size = 0) := by omega
    have hbig : ¬ (1 * size > 2 ^ 24) := by omega
    simp only [Nat.one_mul] at hkey hz0 hbig
    have hfill : Instr.fill (fun i => some (i * size, size)) (Array.map (fun x => z.cells[x % z.cells.size]!) (Array.range size)) [(0, x)] = some cs.toArray := by
      simp only [Instr.fill, hx, List.size_toArray, hl, Nat.zero_mul, Nat.zero_add, Array.size_map, Array.size_range, ne_eq, not_true_eq_false, decide_false, Bool.false_or, gt_iff_lt, Nat.lt_irrefl, Bool.false_eq_true, if_false, Option.some.injEq]
      have e : (cs.toArray.zipIdx).foldl (fun cs (p : Value × Nat) => cs.setIfInBounds (0 + p.2) p.1) (Array.map (fun x => z.cells[x % z.cells.size]!) (Array.range size)) = cs.toArray := by
        rw [← Array.foldl_toList, show cs.toArray.zipIdx.toList = cs.zipIdx by simp]
        exact hkey
      simpa using e
    simp [Instr.buildSlice, run_underlying hT, sizeOf, typeInfo, hq, hi'.1, hi'.2, hz0, hbig, zeroValue, newRow, hfill]
end
end Go.Proofs.Ytffcglfepobdjaa
