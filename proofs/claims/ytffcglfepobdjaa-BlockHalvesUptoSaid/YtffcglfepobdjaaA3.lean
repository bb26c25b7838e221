/- append onto rows of whatever elements, what is appended read from anywhere; a new row of zeros; slices that are only read. -/
import Derived.Test.YtffcglfepobdjaaA1
set_option linter.unusedVariables false
set_option linter.unusedSimpArgs false
namespace Go.Proofs.Ytffcglfepobdjaa
open Go.RowKit

/-- What is read from an address on: the cells cs. -/
def Reads (w : World) (A : Option Addr) (cs : List Value) : Prop := ∀ j u, cs[j]? = some u → ∃ ad, A = some ad ∧ w.cell? (ad.add j) = some u
theorem Reads.nil (w : World) (A : Option Addr) : Reads w A [] := fun j u h => by simp at h
theorem Reads.of_range {w : World} {g o : Nat} {cs : List Value} (h : w.rangeAt g o cs) : Reads w (some ⟨g, o, none⟩) cs := fun j u hu => ⟨_, rfl, by rw [Addr.add_mid]; exact h j u hu⟩
theorem Reads.keep {w w' : World} {F : Nat → Prop} {A : Option Addr} {cs : List Value} (h : Reads w A cs) (hk : Keep F w w') (hd : ∀ ad, A = some ad → ¬ F ad.block) : Reads w' A cs := fun j u hu => by
  obtain ⟨ad, rfl, hc⟩ := h j u hu
  have hb : (ad.add j).block = ad.block := by unfold Addr.add; split <;> rfl
  refine ⟨ad, rfl, ?_⟩
  have hlt := World.block_lt_of_cell? w _ hc
  rw [World.cell?_of_block (hk.block _ hlt (by rw [hb]; exact hd ad rfl))]
  exact hc
theorem Reads.below {B : Nat} {w w' : World} {A : Option Addr} {cs : List Value} (h : Reads w A cs) (hk : Below w.heap.size w w') : Reads w' A cs := h.keep (Keep.of_below hk) (fun _ _ => id)

theorem rd_of_own {w : World} {F : Nat → Prop} {e : TypeId} {size : Nat} {A : Option Addr} {n c : Nat} {xs : List (List Value)} (h : Rows w F e size (.slice A n c) xs) : Reads w A xs.flatten := by
  intro j u hu
  rcases h.own.2 with ⟨_, h0⟩ | ⟨g, cap, cur, hv, _, hg, hn, _, hs, ht⟩
  · have hj : j < xs.flatten.length := (List.getElem?_eq_some_iff.1 hu).1
    rw [h.own.1, h0] at hj; omega
  · simp only [Value.slice.injEq] at hv
    obtain ⟨rfl, hn', rfl⟩ := hv
    refine ⟨_, rfl, ?_⟩
    rw [Addr.add_mid, Nat.zero_add, cell_of_row w g j cur e (0, 0) hg, ← Array.getElem?_toList]
    rw [← ht, List.getElem?_take] at hu
    split at hu
    · exact hu
    · cases hu

section
variable {P : Program} {w : World}

theorem run_append_rows (t ty e : TypeId) (z : Value) (size bytes : Nat) (ht : P.underlying t = some (.slice e)) (hinfo : (P.info? e).map (fun i => (i.zero, i.size, i.bytes)) = some (some z, size, bytes)) (hz : z.cells.size = size) (h0 : 0 < size) (hb0 : 0 < bytes)
    (F : Nat → Prop) (v : Value) (xs news : List (List Value)) (H : Rows w F e size v xs) (A : Option Addr) (m c : Nat) (hm : news.length = m) (hA : A = none → c = 0)
    (hnl : ∀ y ∈ news, y.length = size) (hnews : Reads w A news.flatten) (h1 : ∀ u ∈ news.flatten, u.oneCell' = true) (hbytes : (xs.length + m) * bytes ≤ 140737488355328) :
    ∃ v' w', (Builtin.append_ #[t, t] ty #[v, .slice A m c]).run P w = .ok v' w' ∧ Rows w' (fun k => v.ownBlock = some k ∨ (w.heap.size ≤ k ∧ k < w'.heap.size)) e size v' (xs ++ news) ∧ Keep (fun k => v.ownBlock = some k) w w' := by
  obtain ⟨i0, hi, hzz⟩ := Option.map_eq_some_iff.1 hinfo
  simp only [Prod.mk.injEq] at hzz
  obtain ⟨hz0, hz1, hz2⟩ := hzz
  have hlen : xs.length + m ≤ 140737488355328 := Nat.le_trans (Nat.le_mul_of_pos_right _ hb0) hbytes
  have hfl : ∀ (l : List (List Value)), (∀ y ∈ l, y.length = size) → l.flatten.length = l.length * size := by
    intro l
    induction l with
    | nil => intro _; simp
    | cons y l ih => intro hl; rw [List.flatten_cons, List.length_append, ih (fun z hz => hl z (by simp [hz])), hl y (by simp), List.length_cons, Nat.succ_mul]; omega
  have heach : ∀ x ∈ xs ++ news, x.length = size := fun x hx => by
    rcases List.mem_append.1 hx with h | h
    · exact H.each x h
    · exact hnl x h
  rcases A with _ | ad
  · have hm0 : m = 0 := by
      rcases Nat.eq_zero_or_pos m with h | h
      · exact h
      · exfalso
        have hp : 0 < news.flatten.length := by rw [hfl _ hnl, hm]; exact Nat.mul_pos h h0
        obtain ⟨ad, h', _⟩ := hnews 0 news.flatten[0] (List.getElem?_eq_getElem hp)
        cases h'
    subst hm0
    obtain rfl : c = 0 := hA rfl
    obtain rfl : news = [] := List.eq_nil_of_length_eq_zero hm
    refine ⟨v, w, run_append_owned_none w 0 t ty e i0 size ht hi v _ _ H.own, ?_, Keep.refl _ _⟩
    rw [List.append_nil]
    exact ⟨H.own, H.each, fun k hk => .inl hk⟩
  · obtain ⟨v', w', hr, h2, h3, _, h5⟩ := run_append_own_at (P := P) w 0 t ty e i0 z size bytes ht hi hz0 hz1 hz2 hz h0 v xs.length xs.flatten H.own ad m c news.flatten (by rw [hfl _ hnl, hm])
      (fun j u hu => by obtain ⟨ad', e', hc⟩ := hnews j u hu; injection e' with e'; subst e'; exact hc) h1 (by simp only [maxLen]; omega) hbytes (Nat.zero_le _)
    refine ⟨v', w', hr, ⟨?_, heach, ?_⟩, ⟨h3.os, h3.tape, h3.output, h3.size, fun k hk hn => h3.block k hk (fun e => hn e.symm)⟩⟩
    · rw [List.length_append, hm, List.flatten_append]; exact h2
    · intro k hk
      rcases h5 with h5 | h5
      · exact .inl (h5 ▸ hk)
      · rw [h5] at hk
        simp only [Option.some.injEq] at hk
        subst hk
        exact .inr ⟨Nat.le_refl _, (h2.lt _ h5).2⟩

theorem exec_append {o : Oper} {a : Act} (s x : Operand) (t : TypeId) (ho : o.op = .call { callee := .builtin .append, args := #[s, x], argTypes := #[t, t] }) {vd vs r : Value} {w1 : World}
    (hd : a.eval s = vd) (hs : a.eval x = vs) (hr : (Builtin.append_ #[t, t] o.type #[vd, vs]).run P w = .ok r w1) : (execOp a.eval o).run P w = .ok (.value r) w1 := by
  simp [execOp, ho, resolve, invoke, builtin, hd, hs, hr, Result.andThen]

theorem wpList_append_rows {ops : Array Oper} {rest : List Oper} {o : Oper} {a : Act} {Q : Exit → Act → World → Prop} (hgd : o.guard = none) (s x : Operand) (t : TypeId) (ho : o.op = .call { callee := .builtin .append, args := #[s, x], argTypes := #[t, t] })
    (e : TypeId) (z : Value) (size bytes : Nat) (ht : P.underlying t = some (.slice e)) (hinfo : (P.info? e).map (fun i => (i.zero, i.size, i.bytes)) = some (some z, size, bytes)) (hz : z.cells.size = size) (h0 : 0 < size) (hb0 : 0 < bytes)
    (F : Nat → Prop) (v : Value) (xs news : List (List Value)) (hs : a.eval s = v) (H : Rows w F e size v xs) (A : Option Addr) (m c : Nat) (hx : a.eval x = .slice A m c) (hm : news.length = m) (hA : A = none → c = 0)
    (hnl : ∀ y ∈ news, y.length = size) (hnews : Reads w A news.flatten) (h1 : ∀ u ∈ news.flatten, u.oneCell' = true) (hbytes : (xs.length + m) * bytes ≤ 140737488355328)
    (h : ∀ v' w', Rows w' (fun k => v.ownBlock = some k ∨ (w.heap.size ≤ k ∧ k < w'.heap.size)) e size v' (xs ++ news) → Keep (fun k => v.ownBlock = some k) w w' → wpList P ops Q rest (a.put o.dst v') w') : wpList P ops Q (o :: rest) a w := by
  obtain ⟨v', w', hr, h2, h3⟩ := run_append_rows (P := P) (w := w) t o.type e z size bytes ht hinfo hz h0 hb0 F v xs news H A m c hm hA hnl hnews h1 hbytes
  exact wpList_run hgd _ _ (exec_append s x t ho hs hx hr) (h v' w' h2 h3)

/-- An empty row of the call's own. -/
theorem Rows.empty (w : World) (e : TypeId) (size : Nat) : Rows (w.alloc (.cells #[] e)) (fun k => k = w.heap.size) e size (.slice (some ⟨w.heap.size, 0, none⟩) 0 0) [] :=
  ⟨World.ownsRow_made w #[] 0 (Nat.zero_le _) (Nat.zero_le _) (by simp), by simp, fun k hk => by simp only [Value.ownBlock, Option.some.injEq] at hk; exact hk.symm⟩
end

/-! ### A new row of zeros -/
theorem madeCells_flatten (z : List Value) (size n : Nat) (hz : z.length = size) (h0 : 0 < size) : (madeCells z.toArray (n * size)).toList = (List.replicate n z).flatten := by
  apply List.ext_getElem?
  intro j
  have hfl : (List.replicate n z).flatten.length = n * size := by simp [hz]
  by_cases hj : j < n * size
  · have hdiv : j / size < n := Nat.div_lt_of_lt_mul (by rw [Nat.mul_comm]; exact hj)
    have hmod : j % size < size := Nat.mod_lt _ h0
    have := flatten_at size (List.replicate n z) (j / size) (fun x hx => by rw [List.eq_of_mem_replicate hx]; exact hz) (by simpa using hdiv) (j % size) z[j % size] (by simp [List.getElem?_eq_getElem (show j % size < z.length by omega)])
    rw [show j / size * size + j % size = j by rw [Nat.mul_comm]; exact Nat.div_add_mod j size] at this
    rw [this]
    simp [madeCells, hj, hz, List.getElem!_eq_getElem?_getD, List.getElem?_eq_getElem (show j % size < z.length by omega)]
  · have hm : (madeCells z.toArray (n * size)).toList.length = n * size := by simp [madeCells]
    rw [List.getElem?_eq_none (by rw [hm]; omega), List.getElem?_eq_none (by rw [hfl]; omega)]
theorem Rows.made {w' : World} {e : TypeId} {size n g : Nat} {z : List Value} (hz : z.length = size) (h0 : 0 < size)
    (h : w'.ownsRow 0 e size (.slice (some ⟨g, 0, none⟩) n n) n (madeCells z.toArray (n * size)).toList) : Rows w' (fun k => k = g) e size (.slice (some ⟨g, 0, none⟩) n n) (List.replicate n z) :=
  ⟨by rw [List.length_replicate, ← madeCells_flatten z size n hz h0]; exact h, fun x hx => by rw [List.eq_of_mem_replicate hx]; exact hz, fun k hk => by simp only [Value.ownBlock, Option.some.injEq] at hk; exact hk.symm⟩
end Go.Proofs.Ytffcglfepobdjaa
