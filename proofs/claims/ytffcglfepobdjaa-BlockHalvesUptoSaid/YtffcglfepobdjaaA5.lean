/- A region that draws its order, walked in ONE order of the prover's choice: what yields the same value whenever it comes up may be taken first; what else comes up must come up alone. -/
import Derived.Test.YtffcglfepobdjaaA4
import Derived.StillTail
import Derived.Maps.RangeWalk
set_option linter.unusedVariables false
set_option linter.unusedSimpArgs false
namespace Go.Proofs.Ytffcglfepobdjaa
open Go.RowKit

section
variable {P : Program} {ops : Array Oper} {S : World → Prop}

/-- The region's end, and nothing else. -/
def Qn (Q : Act → World → Prop) : Exit → Act → World → Prop
  | .normal, a, w => Q a w
  | _, _, _ => False

/-- 'true': it yields its value in every world that meets S; 'false': it is carried out, and S holds behind it. -/
def wpOrd (P : Program) (ops : Array Oper) (Q : Act → World → Prop) (S : World → Prop) : List (Nat × Bool) → Act → World → Prop
  | [], a, w => Q a w
  | (i, true) :: r, a, w => ∃ o v, ops[i]? = some o ∧ YieldsIf P ops S o v a ∧ wpOrd P ops Q S r (a.put o.dst v) w
  | (i, false) :: r, a, w => wpOp P ops (Qn Q) i (fun a' w' => S w' ∧ wpOrd P ops Q S r a' w') a w

def ordB (md : Region.Mode) (ops : Array Oper) : List (Nat × Bool) → Array Bool → Bool
  | [], listed => (Region.ready md ops listed).isEmpty
  | (i, true) :: r, listed => (Region.ready md ops listed).contains i && Region.free md ops listed i && ordB md ops r (listed.setIfInBounds i true)
  | (i, false) :: r, listed => decide (Region.ready md ops listed = [i]) && ordB md ops r (listed.setIfInBounds i true)

theorem wpOrd_sound {md : Region.Mode} {Q : Act → World → Prop} (hs : Region.noSelect ops = true) : ∀ (ord : List (Nat × Bool)) (listed : Array Bool) (a : Act) (w : World), ordB md ops ord listed = true → S w →
    wpOrd P ops Q S ord a w → wpAnyH P md ops (Qn Q) S ord.length listed a w
  | [], listed, a, w, hB, _, h => wpAnyH_done (by simpa [ordB, List.isEmpty_iff] using hB) h _
  | (i, true) :: r, listed, a, w, hB, hS, h => by
    obtain ⟨o, v, hi, hy, h'⟩ := h
    simp only [ordB, Bool.and_eq_true] at hB
    exact wpAnyH_take hi hs hB.1.2 hB.1.1 (fun _ _ _ h => h.elim) hy hS (wpOrd_sound hs r _ _ _ hB.2 hS h')
  | (i, false) :: r, listed, a, w, hB, hS, h => by
    simp only [ordB, Bool.and_eq_true, decide_eq_true_eq] at hB
    refine wpAnyH_all hB.1 (by simp) fun j hj => ?_
    have : j = i := by simpa using hj
    subst this
    exact wpOp_mono (fun a' w' h' => ⟨h'.1, wpOrd_sound hs r _ _ _ hB.2 h'.1 h'.2⟩) h

/-! ### The last operation waits for all others: behind it S need not hold -/
/-- 'wpAnyH', but that S is not asked behind the last operation, number n. -/
def wpAnyK (P : Program) (md : Region.Mode) (ops : Array Oper) (Q : Exit → Act → World → Prop) (S : World → Prop) (n : Nat) : Nat → Array Bool → Act → World → Prop
  | 0, listed, a, w => Region.ready md ops listed = [] ∧ Q .normal a w
  | fuel + 1, listed, a, w =>
    (Region.ready md ops listed = [] → Q .normal a w) ∧
    ∀ i ∈ Region.ready md ops listed, wpOp P ops Q i (fun a' w' => (i = n ∨ S w') ∧ wpAnyK P md ops Q S n fuel (listed.setIfInBounds i true) a' w') a w

theorem wpAny_of_K {md : Region.Mode} {Q : Exit → Act → World → Prop} {n : Nat} : ∀ (fuel : Nat) (listed : Array Bool) (a : Act) (w : World), wpAnyK P md ops Q S n fuel listed a w → wpAny P md ops Q fuel listed a w
  | 0, _, _, _, h => h
  | fuel + 1, _, _, _, h => ⟨h.1, fun i hi => wpOp_mono (fun a' w' h' => wpAny_of_K fuel _ a' w' h'.2) (h.2 i hi)⟩

theorem wpAnyK_first {md : Region.Mode} {Q : Exit → Act → World → Prop} {n i : Nat} {oi : Oper} {v : Value} (hi : ops[i]? = some oi) (hsel : ∀ (j : Nat) (o : Oper) cs b, ops[j]? = some o → o.op ≠ .select cs b)
    (hQ : ∀ c a w, Q (.panic c) (a.put oi.dst v) w → Q (.panic c) a w) (hs : Region.sinkB md ops n = true) (hc : Region.chainB md ops n = true) (hn : n < ops.size) (hin : i < n) :
    ∀ (fuel : Nat) (listed : Array Bool) (a : Act) (w : World), HeadInv md ops n listed →
      (∀ j oj, ops[j]? = some oj → j ≠ i → listed.getD j true = false → (∀ e ∈ oj.after, Region.binds md e = true → e.on ≠ i) → oi.apart ops oj = true) →
      i ∈ Region.ready md ops listed → YieldsIf P ops S oi v a → S w →
      wpAnyK P md ops Q S n fuel (listed.setIfInBounds i true) (a.put oi.dst v) w → wpAnyK P md ops Q S n (fuel + 1) listed a w := by
  intro fuel
  induction fuel with
  | zero =>
    intro listed a w inv _ hr hy hS H
    refine ⟨fun h => (by rw [h] at hr; cases hr), fun j hj => ?_⟩
    by_cases hji : j = i
    · subst hji; exact hy.wpOp hi hS ⟨.inr hS, H⟩
    · have := ready_mono hj hji
      rw [H.1] at this
      cases this
  | succ fuel ih =>
    intro listed a w inv hfree hr hy hS H
    have hun := (mem_ready.1 hr).1
    refine ⟨fun h => (by rw [h] at hr; cases hr), fun j hj => ?_⟩
    by_cases hji : j = i
    · subst hji; exact hy.wpOp hi hS ⟨.inr hS, H⟩
    · have hjn : j < n := by
        rcases Nat.lt_or_ge j n with h | h
        · exact h
        · exact absurd hj (tail_waits hs hc hn inv _ i rfl hin hun j h)
      have h1 := H.2 j (ready_mono hj hji)
      obtain ⟨hjun, oj, hoj, hall⟩ := mem_ready.1 hj
      have hnot : ∀ e ∈ oj.after, Region.binds md e = true → e.on ≠ i := fun e he hb heq => by
        have h1 := hall e he hb
        rw [heq, getD_both hun] at h1
        cases h1
      have h2 := wpOp_putIf hoj (hfree j oj hoj hji hjun hnot) (fun cs b => hsel i oi cs b hi) (fun cs b => hsel j oj cs b hoj) hQ hy h1
      have hfree' : ∀ k ok, ops[k]? = some ok → k ≠ i → (listed.setIfInBounds j true).getD k true = false →
          (∀ e ∈ ok.after, Region.binds md e = true → e.on ≠ i) → oi.apart ops ok = true := fun k ok hk hki hun hno => by
        refine hfree k ok hk hki ?_ hno
        by_cases hjk : j = k
        · subst hjk; exact hjun
        · rw [getD_set_ne true hjk] at hun; exact hun
      refine wpOp_mono (fun a' w' h3 => ?_) h2
      have hS' : S w' := h3.2.1.resolve_left (by omega)
      refine ⟨.inr hS', ih (listed.setIfInBounds j true) a' w' (inv.set hj hjn) hfree' (ready_mono hr (Ne.symm hji)) h3.1 hS' ?_⟩
      rw [Array.setIfInBounds_comm _ _ hji]
      exact h3.2.2

/-- As 'wpOrd'; behind the last one S is not asked. -/
def wpOrdL (P : Program) (ops : Array Oper) (Q : Act → World → Prop) (S : World → Prop) : List (Nat × Bool) → Act → World → Prop
  | [], a, w => Q a w
  | (i, true) :: r, a, w => ∃ o v, ops[i]? = some o ∧ YieldsIf P ops S o v a ∧ wpOrdL P ops Q S r (a.put o.dst v) w
  | (i, false) :: r, a, w => wpOp P ops (Qn Q) i (fun a' w' => (r = [] ∨ S w') ∧ wpOrdL P ops Q S r a' w') a w
def ordLB (md : Region.Mode) (ops : Array Oper) (n : Nat) : List (Nat × Bool) → Array Bool → Bool
  | [], listed => (Region.ready md ops listed).isEmpty
  | (i, true) :: r, listed => decide (i < n) && (Region.ready md ops listed).contains i && Region.free md ops listed i && ordLB md ops n r (listed.setIfInBounds i true)
  | (i, false) :: r, listed => ((decide (i < n) && !r.isEmpty) || (r.isEmpty && decide (i = n))) && decide (Region.ready md ops listed = [i]) && ordLB md ops n r (listed.setIfInBounds i true)

theorem wpOrdL_sound {md : Region.Mode} {Q : Act → World → Prop} {n : Nat} (hsel : Region.noSelect ops = true) (hs : Region.sinkB md ops n = true) (hc : Region.chainB md ops n = true) (hn : n < ops.size) :
    ∀ (ord : List (Nat × Bool)) (listed : Array Bool) (a : Act) (w : World), (ord ≠ [] → HeadInv md ops n listed) → ordLB md ops n ord listed = true → (ord ≠ [] → S w) →
    wpOrdL P ops Q S ord a w → wpAnyK P md ops (Qn Q) S n ord.length listed a w
  | [], listed, a, w, _, hB, _, h => ⟨by simpa [ordLB, List.isEmpty_iff] using hB, h⟩
  | (i, true) :: r, listed, a, w, inv, hB, hS, h => by
    obtain ⟨o, v, hi, hy, h'⟩ := h
    simp only [ordLB, Bool.and_eq_true, decide_eq_true_eq] at hB
    obtain ⟨⟨⟨hin, hr⟩, hf⟩, hB⟩ := hB
    have hr' : i ∈ Region.ready md ops listed := by simpa using hr
    exact wpAnyK_first hi (Region.noSelect_spec hsel) (fun _ _ _ h => h.elim) hs hc hn hin r.length listed a w (inv (by simp)) (Region.free_spec hi hf) hr' hy (hS (by simp))
      (wpOrdL_sound hsel hs hc hn r _ _ _ (fun _ => (inv (by simp)).set hr' hin) hB (fun _ => hS (by simp)) h')
  | (i, false) :: r, listed, a, w, inv, hB, hS, h => by
    simp only [ordLB, Bool.and_eq_true, Bool.or_eq_true, Bool.not_eq_true', decide_eq_true_eq, List.isEmpty_iff] at hB
    obtain ⟨⟨hin, hr⟩, hB⟩ := hB
    refine ⟨fun h0 => (by rw [hr] at h0; cases h0), fun j hj => ?_⟩
    have hj' := hj
    rw [hr] at hj
    have : j = i := by simpa using hj
    subst this
    refine wpOp_mono (fun a' w' h' => ?_) h
    rcases hin with ⟨hin, hne⟩ | ⟨rfl, hin⟩
    · have hne' : r ≠ [] := fun e => by rw [e] at hne; cases hne
      have hS' := h'.1.resolve_left hne'
      exact ⟨.inr hS', wpOrdL_sound hsel hs hc hn r _ _ _ (fun _ => (inv (by simp)).set hj' hin) hB (fun _ => hS') h'.2⟩
    · exact ⟨.inl hin, wpOrdL_sound hsel hs hc hn [] _ _ _ (fun h => absurd rfl h) hB (fun h => absurd rfl h) h'.2⟩

/-- The operations themselves, in the order that is walked. -/
def wpO (P : Program) (ops : Array Oper) (Q : Act → World → Prop) (S : World → Prop) : List (Oper × Bool) → Act → World → Prop
  | [], a, w => Q a w
  | (o, true) :: r, a, w => ∃ v, YieldsIf P ops S o v a ∧ wpO P ops Q S r (a.put o.dst v) w
  | (o, false) :: r, a, w => if Region.wanted o (yielded ops a.tmps) then o.wp P a w (fun a' w' => (r = [] ∨ S w') ∧ wpO P ops Q S r a' w') (Qn Q) else (r = [] ∨ S w) ∧ wpO P ops Q S r (a.put o.dst undef) w

theorem wpOrdL_of_O {Q : Act → World → Prop} : ∀ (ord : List (Nat × Bool)) (a : Act) (w : World), (∀ p ∈ ord, p.1 < ops.size) → wpO P ops Q S (ord.map fun p => ((ops.toList[p.1]?).getD default, p.2)) a w → wpOrdL P ops Q S ord a w
  | [], _, _, _, h => h
  | (i, true) :: r, a, w, hl, h => by
    have hi : i < ops.size := hl (i, true) (by simp)
    have he : ops[i]? = some ((ops.toList[i]?).getD default) := by simp [hi]
    obtain ⟨v, hy, h'⟩ := h
    exact ⟨_, v, he, hy, wpOrdL_of_O r _ _ (fun p hp => hl p (by simp [hp])) h'⟩
  | (i, false) :: r, a, w, hl, h => by
    have hi : i < ops.size := hl (i, false) (by simp)
    have he : ops[i]? = some ((ops.toList[i]?).getD default) := by simp [hi]
    have hr := wpOrdL_of_O (Q := Q) r
    show wpOp _ _ _ _ _ _ _
    unfold wpOp
    rw [he]
    simp only [List.map_cons, wpO, List.map_eq_nil_iff] at h
    show if Region.wanted ((ops.toList[i]?).getD default) (yielded ops a.tmps) = true then _ else _
    split
    · rename_i hw
      rw [if_pos hw] at h
      exact .inl (Oper.wp_mono (fun a' w' h' => ⟨h'.1, hr a' w' (fun p hp => hl p (by simp [hp])) h'.2⟩) h)
    · rename_i hw
      rw [if_neg hw] at h
      exact ⟨h.1, hr _ _ (fun p hp => hl p (by simp [hp])) h.2⟩
theorem wpOrd_of_O {Q : Act → World → Prop} : ∀ (ord : List (Nat × Bool)) (a : Act) (w : World), (∀ p ∈ ord, p.1 < ops.size) → S w → (∀ p ∈ ord, p.2 = true) → wpO P ops Q S (ord.map fun p => ((ops.toList[p.1]?).getD default, p.2)) a w → wpOrd P ops Q S ord a w
  | [], _, _, _, _, _, h => h
  | (i, true) :: r, a, w, hl, hS, ht, h => by
    have hi : i < ops.size := hl (i, true) (by simp)
    have he : ops[i]? = some ((ops.toList[i]?).getD default) := by simp [hi]
    obtain ⟨v, hy, h'⟩ := h
    exact ⟨_, v, he, hy, wpOrd_of_O r _ _ (fun p hp => hl p (by simp [hp])) hS (fun p hp => ht p (by simp [hp])) h'⟩
  | (i, false) :: r, a, w, hl, hS, ht, h => by
    have := ht (i, false) (by simp)
    cases this

/-- A region whose last operation waits for all others. -/
theorem wp_region_ordL {id : Nat} {Q : Exit → Act → World → Prop} {a : Act} {w : World} {l : List Oper} (ord : List (Nat × Bool)) (S : World → Prop) (hm : P.follows .mixedOrders = true)
    (hB : (decide (ord.length = l.length) && Region.noSelect l.toArray && decide (l.length - 1 < l.toArray.size) && Region.sinkB .any l.toArray (l.length - 1) && Region.chainB .any l.toArray (l.length - 1) && ordLB .any l.toArray (l.length - 1) ord (Array.replicate l.toArray.size false) && ord.all (fun p => decide (p.1 < l.length))) = true) (hS : S w.drew)
    (h : wpO P l.toArray (fun a' w' => Q .normal a' w') S (ord.map fun p => ((l[p.1]?).getD default, p.2)) a w.drew) : (Code.region id l.toArray true).wp P Q a w := by
  simp only [Bool.and_eq_true, decide_eq_true_eq, List.all_eq_true] at hB
  obtain ⟨⟨⟨⟨⟨⟨h1, h2⟩, h3⟩, h4⟩, h5⟩, h6⟩, h7⟩ := hB
  refine wp_mono (Q := Qn (fun a' w' => Q .normal a' w')) (wp_region_any hm ?_) (fun e a w h => by cases e <;> first | exact h | exact h.elim)
  have inv0 : HeadInv .any l.toArray (l.length - 1) (Array.replicate l.toArray.size false) :=
    ⟨by simp, fun j oj _ hl => (by rw [getD_replicate_false] at hl; cases hl), fun t _ ht => getD_in (by simpa using ht) (getD_replicate_false _ _)⟩
  have h' := wpOrdL_of_O (ops := l.toArray) ord a w.drew (fun p hp => by simpa using h7 p hp) (by simpa using h)
  have := wpAny_of_K _ _ _ _ (wpOrdL_sound (md := .any) h2 h4 h5 h3 ord _ a w.drew (fun _ => inv0) h6 (fun _ => hS) h')
  rw [h1] at this
  simpa using this

/-- A region that only reads: in the text's order, or another. -/
theorem wp_region_ordQ {id : Nat} {Q : Exit → Act → World → Prop} {a : Act} {w : World} {l : List Oper} (ord : List (Nat × Bool)) (S : World → Prop) (hm : P.follows .mixedOrders = true)
    (hB : (decide (ord.length = l.length) && Region.noSelect l.toArray && ordB .any l.toArray ord (Array.replicate l.toArray.size false) && ord.all (fun p => p.2 && decide (p.1 < l.length))) = true) (hS : S w.drew)
    (h : wpO P l.toArray (fun a' w' => Q .normal a' w') S (ord.map fun p => ((l[p.1]?).getD default, p.2)) a w.drew) : (Code.region id l.toArray true).wp P Q a w := by
  simp only [Bool.and_eq_true, decide_eq_true_eq, List.all_eq_true] at hB
  obtain ⟨⟨⟨h1, h2⟩, h6⟩, h7⟩ := hB
  refine wp_mono (Q := Qn (fun a' w' => Q .normal a' w')) (wp_region_held (S := S) hm ?_) (fun e a w h => by cases e <;> first | exact h | exact h.elim)
  have h' := wpOrd_of_O (ops := l.toArray) ord a w.drew (fun p hp => by simpa using (h7 p hp).2) hS (fun p hp => (h7 p hp).1) (by simpa using h)
  have := wpOrd_sound (md := .any) h2 ord _ a w.drew h6 hS h'
  rw [h1] at this
  simpa using this

section
variable {Q : Act → World → Prop} {a : Act} {w : World} {r : List (Oper × Bool)} {o : Oper}
theorem wpO_nil (h : Q a w) : wpO P ops Q S [] a w := h
theorem wpO_pure {v : Value} (hg : Region.wanted o (yielded ops a.tmps) = true) (hv : ∀ w, S w → (execOp a.eval o).run P w = .ok (.value v) w) (h : wpO P ops Q S r (a.put o.dst v) w) : wpO P ops Q S ((o, true) :: r) a w :=
  ⟨v, .inl ⟨hg, hv⟩, h⟩
theorem wpO_skip (hg : Region.wanted o (yielded ops a.tmps) = false) (h : wpO P ops Q S r (a.put o.dst undef) w) : wpO P ops Q S ((o, true) :: r) a w :=
  ⟨undef, .inr ⟨hg, rfl⟩, h⟩
theorem wpO_skipf (hg : Region.wanted o (yielded ops a.tmps) = false) (hS : r = [] ∨ S w) (h : wpO P ops Q S r (a.put o.dst undef) w) : wpO P ops Q S ((o, false) :: r) a w := by
  simp only [wpO, hg, Bool.false_eq_true, if_false]; exact ⟨hS, h⟩
theorem wpO_run {v : Value} {w1 : World} (hg : Region.wanted o (yielded ops a.tmps) = true) (hv : (execOp a.eval o).run P w = .ok (.value v) w1) (hS : r = [] ∨ S w1) (h : wpO P ops Q S r (a.put o.dst v) w1) : wpO P ops Q S ((o, false) :: r) a w := by
  simp only [wpO, hg, if_true, Oper.wp, hv, Oper.upon]; exact ⟨hS, h⟩
theorem wpO_store {w1 : World} (hg : Region.wanted o (yielded ops a.tmps) = true) (hv : (execOp a.eval o).run P w = .ok .skip w1) (hS : r = [] ∨ S w1) (h : wpO P ops Q S r (a.put o.dst undef) w1) : wpO P ops Q S ((o, false) :: r) a w := by
  simp only [wpO, hg, if_true, Oper.wp, hv, Oper.upon]; exact ⟨hS, h⟩
theorem wpO_call {f : FuncId} {args : Array Value} (hg : Region.wanted o (yielded ops a.tmps) = true) (hv : (execOp a.eval o).run P w = .ok (.enter f args) w)
    (h : Calls P f args w (fun e w1 => ∃ v, e = .returned v ∧ (r = [] ∨ S w1) ∧ wpO P ops Q S r (a.put o.dst v) w1)) : wpO P ops Q S ((o, false) :: r) a w := by
  simp only [wpO, hg, if_true, Oper.wp, hv, Oper.upon]
  refine h.mono fun e w1 ⟨v, he, hS, hr⟩ => ?_
  subst he
  exact ⟨hS, hr⟩
end

/-- The same of a call that only reads: taken first. -/
theorem exec_call {a : Act} {w : World} {o : Oper} (f : FuncId) (xs : Array Operand) (ts : Array TypeId) (ho : o.op = .call { callee := .value (.func f), args := xs, argTypes := ts }) {fn : Func} (hf : P.funcs[f]? = some fn) (hn : (fn.name == "runtime.NumGoroutine") = false) (hb : fn.body.isNone = false) :
    (execOp a.eval o).run P w = .ok (.enter f (xs.map a.eval)) w := by
  have h1 : ¬ fn.name = "runtime.NumGoroutine" := by simpa using hn
  have h2 : ¬ fn.body = none := by intro h; rw [h] at hb; cases hb
  simp [execOp, ho, resolve, Deferred.ofValue, Act.eval, invoke, callFunc, Sem.run_bind, Sem.run_pure, Result.andThen, hf, h1, h2]
/-! ### What an operation's run is -/
theorem exec_load_blk {a : Act} {w : World} {o : Oper} (ty : TypeId) (x : Operand) (ho : o.op = .load ty x) (b k : Nat) (zs cs : List Value) (t : TypeId) (d : TypeDesc) {z : Option Value} {bytes : Nat}
    (hx : a.eval x = .pointer (some ⟨b, k, none⟩)) (hb : BlockIs w b zs t) (hc : ∀ j v, cs[j]? = some v → zs[k + j]? = some v)
    (hu : P.underlying ty = some d) (hd : d.isRow = true) (hi : (P.info? ty).map (fun i => (i.zero, i.size, i.bytes)) = some (z, cs.length, bytes)) : (execOp a.eval o).run P w = .ok (.value (.agg cs.toArray)) w := by
  unfold execOp
  simp only [ho, hx, Instr.loadAt, Instr.sureAddr, Sem.run_bind, Sem.run_pure, Result.andThen_ok, run_loadVar_mid w b k ty cs d (hb.range k cs hc) hu hd (info_size hi)]
theorem exec_buildSlice1 {a : Act} {w : World} {o : Oper} (T E : TypeId) (x : Operand) (ho : o.op = .buildSlice T 1 #[(0, x)]) (hT : P.underlying T = some (.slice E)) (cs : List Value) (z : Value) {size bytes : Nat} (hi : (P.info? E).map (fun i => (i.zero, i.size, i.bytes)) = some (some z, size, bytes)) (hz : z.cells.size = size) (h0 : 0 < size) (hm : size ≤ 16777216)
    (hx : (a.eval x).cells = cs.toArray) (hl : cs.length = size) : (execOp a.eval o).run P w = .ok (.value (.slice (some ⟨w.heap.size, 0, none⟩) 1 1)) (w.alloc (.cells cs.toArray E)) := by
  have hi' : (P.info? E).map (fun i => (i.zero, i.size)) = some (some z, size) := by
    cases hq : P.info? E with
    | none => simp [hq] at hi
    | some i => simp [hq] at hi ⊢; exact ⟨hi.1, hi.2.1⟩
  have := run_buildSlice1 (P := P) (w := w) T E (a.eval x) hT size z hi' hz h0 hm cs hx hl
  unfold execOp
  simp only [ho, List.map_toArray, List.map_cons, List.map_nil, Sem.run_bind, Sem.run_pure, Result.andThen_ok, this]
theorem exec_store_cell {a : Act} {w : World} {o : Oper} (ty : TypeId) (x y : Operand) (ho : o.op = .store ty x y) (b k : Nat) (v : Value) (zs : List Value) (t : TypeId) {z : Option Value} {bytes : Nat}
    (hx : a.eval x = .pointer (some ⟨b, k, none⟩)) (hy : a.eval y = v) (hb : BlockIs w b zs t) (hk : k < zs.length) (h1 : v.oneCell' = true) (hc : v.cells = #[v]) (hi : (P.info? ty).map (fun i => (i.zero, i.size, i.bytes)) = some (z, 1, bytes)) :
    (execOp a.eval o).run P w = .ok .skip (w.setCell ⟨b, k, none⟩ v) := by
  have ht := hb.there k 1 (by omega)
  have hst := run_storeCells_cells (P := P) b k [v] 0 w (fun j hj => by simpa using (ht j (by simpa using hj)).1) (fun j hj => by simpa using (ht j (by simpa using hj)).2) (by simpa using h1)
  cases hq : P.info? ty with
  | none => simp [hq] at hi
  | some i =>
    have hs : i.size = 1 := by simp [hq] at hi; exact hi.2.1
    simp only [Nat.add_zero, World.setCells] at hst
    simp [execOp, ho, hx, hy, Instr.storeAt, Instr.sureAddr, storeVar, sizeOf, typeInfo, hq, hs, hc, hst]
theorem exec_buildSlice0 {a : Act} {w : World} {o : Oper} (T E : TypeId) (ho : o.op = .buildSlice T 0 #[]) (hT : P.underlying T = some (.slice E)) {i : TypeInfo} (hi : P.info? E = some i) : (execOp a.eval o).run P w = .ok (.value (.slice (some ⟨w.heap.size, 0, none⟩) 0 0)) (w.alloc (.cells #[] E)) := by
  unfold execOp
  simp [ho, Instr.buildSlice, run_underlying hT, sizeOf, typeInfo, hi, newRow, Instr.fill]
  rw [show (Array.range 0) = #[] from Array.eq_empty_of_size_eq_zero (by simp)]
  simp
theorem exec_call' {a : Act} {w : World} {o : Oper} (f : FuncId) (xs : Array Operand) (ts : Array TypeId) (ho : o.op = .call { callee := .value (.func f), args := xs, argTypes := ts }) {fn : Func} (hf : P.funcs[f]? = some fn) (hn : (fn.name == "runtime.NumGoroutine") = false) (hb : fn.body.isNone = false) (args : Array Value) (ha : xs.map a.eval = args) :
    (execOp a.eval o).run P w = .ok (.enter f args) w := by rw [← ha]; exact exec_call f xs ts ho hf hn hb
end
end Go.Proofs.Ytffcglfepobdjaa
