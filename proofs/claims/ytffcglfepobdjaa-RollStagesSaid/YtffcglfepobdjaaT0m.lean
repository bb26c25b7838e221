/- Rows of slices that are read; the worlds of the laws from step to step. -/
import Derived.Test.YtffcglfepobdjaaZ5
set_option linter.unusedVariables false
set_option linter.unusedSimpArgs false
set_option maxRecDepth 10000
set_option maxHeartbeats 1500000
namespace Go.Proofs.Ytffcglfepobdjaa
open Go.RowKit

/-- A row of one's own, of slices of bytes that are read. -/
def RowsL (w : World) (F G : Nat → Prop) (v : Value) (l : List (List UInt8)) : Prop :=
  ∃ vs : List Value, vs.length = l.length ∧ Rows w F 33 1 v (vs.map fun x => [x]) ∧ ∀ (i : Nat) (x : Value) (b : List UInt8), vs[i]? = some x → l[i]? = some b → RecVal w G x b
theorem RowsL.nil (w : World) (F G : Nat → Prop) : RowsL w F G (.slice none 0 0) [] := ⟨[], rfl, Rows.nil _ _ _ _, fun i x b h => by simp at h⟩
theorem RowsL.keep {w w' : World} {F G H : Nat → Prop} {v : Value} {l : List (List UInt8)} (h : RowsL w F G v l) (hk : Keep H w w') (hF : Dj F H) (hG : Dj G H) : RowsL w' F G v l := by
  obtain ⟨vs, h1, h2, h3⟩ := h
  exact ⟨vs, h1, h2.keep hk hF, fun i x b e1 e2 => (h3 i x b e1 e2).keep hk hG⟩
theorem RecVal.mono {w : World} {G G' : Nat → Prop} {v : Value} {b : List UInt8} (h : RecVal w G v b) (hG : ∀ q, G q → G' q) : RecVal w G' v b := by
  obtain ⟨B, c, h1, h2, h3, h4⟩ := h
  exact ⟨B, c, h1, h2, h3, fun hb ad e => hG _ (h4 hb ad e)⟩
theorem RowsL.mono {w : World} {F F' G G' : Nat → Prop} {v : Value} {l : List (List UInt8)} (h : RowsL w F G v l) (hF : ∀ q, F q → F' q) (hG : ∀ q, G q → G' q) : RowsL w F' G' v l := by
  obtain ⟨vs, h1, h2, h3⟩ := h
  exact ⟨vs, h1, h2.mono hF, fun i x b e1 e2 => (h3 i x b e1 e2).mono hG⟩
theorem RowsL.val {w : World} {F G : Nat → Prop} {v : Value} {l : List (List UInt8)} (h : RowsL w F G v l) : ∃ A c, v = .slice A l.length c ∧ (A = none → c = 0) := by
  obtain ⟨vs, h1, h2, h3⟩ := h
  obtain ⟨A, c, hv⟩ := h2.valm
  subst hv
  exact ⟨A, c, by rw [h1], h2.none_cap⟩
theorem RowsL.own {w : World} {F G : Nat → Prop} {v : Value} {l : List (List UInt8)} (h : RowsL w F G v l) (q : Nat) (hq : v.ownBlock = some q) : F q ∧ q < w.heap.size := by
  obtain ⟨vs, h1, h2, h3⟩ := h
  exact ⟨h2.foot q hq, h2.ownlt q hq⟩
theorem RowsL.reads {w : World} {F G : Nat → Prop} {A : Option Addr} {n c : Nat} {l : List (List UInt8)} (h : RowsL w F G (.slice A n c) l) : ReadsL w (fun q => F q ∨ G q) A l := by
  obtain ⟨vs, h1, h2, h3⟩ := h
  refine ⟨⟨vs, h1, ?_, fun i x b e1 e2 => (h3 i x b e1 e2).mono (fun q hq => .inr hq)⟩, fun _ ad e => .inl (h2.fst.2 ad e)⟩
  have := rd_of_own h2
  rwa [flat_one] at this
theorem ReadsL.parts {w : World} {G : Nat → Prop} {A : Option Addr} {l : List (List UInt8)} (h : ReadsL w G A l) : ∃ vs : List Value, vs.length = l.length ∧ Reads w A vs ∧ ∀ (i : Nat) (x : Value) (b : List UInt8), vs[i]? = some x → l[i]? = some b → RecVal w G x b := h.ex
theorem Recs.rowsL {w : World} {F : Nat → Prop} {v : Value} {l : List (List UInt8)} (h : Recs w F v l) : RowsL w F F v l := by
  obtain ⟨es, h1, h2, h3⟩ := h
  refine ⟨es.map (·.1), by rw [List.length_map, h1, List.length_map], by rw [List.map_map]; exact h2, fun i x b e1 e2 => ?_⟩
  rw [h1, List.getElem?_map] at e2
  rw [List.getElem?_map] at e1
  cases hx : es[i]? with
  | none => rw [hx] at e1; cases e1
  | some y =>
    rw [hx] at e1 e2
    simp only [Option.map_some, Option.some.injEq] at e1 e2
    subst e1
    subst e2
    have hB := h3 y (List.mem_of_getElem? hx)
    obtain ⟨B, c', hv⟩ := hB.valm
    rw [hv] at hB ⊢
    exact ⟨B, c', rfl, Bytes.same_as hB, hB.fst.1, fun _ => hB.fst.2⟩
section
variable {ops : Array Oper} {o : Oper} {a : Act} {w : World}
/-- Slices of bytes that are read are appended to such a row. -/
theorem exec_appendL (s x : Operand) (ho : o.op = .call { callee := .builtin .append, args := #[s, x], argTypes := #[63, 63] }) {F G : Nat → Prop} {v : Value} {l m : List (List UInt8)} (hs : a.eval s = v) (H : RowsL w F G v l)
    {A : Option Addr} {n c : Nat} (hx : a.eval x = .slice A n c) (hn : n = m.length) (hA : A = none → c = 0) (vs2 : List Value) (h2 : vs2.length = m.length) (hR : Reads w A vs2) (hE : ∀ (i : Nat) (x : Value) (b : List UInt8), vs2[i]? = some x → m[i]? = some b → RecVal w G x b) (hl : l.length + m.length ≤ 1099511627776)
    (hd : ∀ q, v.ownBlock = some q → ¬ G q) :
    ∃ v' w', (execOp a.eval o).run Try.prog w = .ok (.value v') w' ∧ RowsL w' (fun k => v.ownBlock = some k ∨ (w.heap.size ≤ k ∧ k < w'.heap.size)) G v' (l ++ m) ∧ Keep (fun k => v.ownBlock = some k) w w' := by
  obtain ⟨vs, k1, k2, k3⟩ := H
  have hone : ∀ u ∈ (vs2.map fun x => [x]).flatten, u.oneCell' = true := by
    rw [flat_one]
    intro u hu
    obtain ⟨i, hi⟩ := List.mem_iff_getElem?.1 hu
    have hlt := (List.getElem?_eq_some_iff.1 hi).1
    obtain ⟨B, c', e, -⟩ := hE i u m[i] hi (List.getElem?_eq_getElem (by omega))
    rw [e]; rfl
  obtain ⟨v', w', hr, R, K⟩ := run_append_rows (P := Try.prog) (w := w) 63 o.type 33 (.slice none 0 0) 1 24 sl63 info33 rfl (by decide) (by decide) F v (vs.map fun x => [x]) (vs2.map fun x => [x]) k2 A n c (by rw [List.length_map, h2, hn]) hA (by simp) (by rw [flat_one]; exact hR) hone (by rw [List.length_map, k1, hn]; omega)
  have hG : Dj G (fun k => v.ownBlock = some k) := fun q g e => hd q e g
  refine ⟨v', w', exec_append s x 63 ho hs hx hr, ⟨vs ++ vs2, by rw [List.length_append, List.length_append, k1, h2], by rw [List.map_append]; exact R, fun i y b e1 e2 => ?_⟩, K⟩
  rcases Nat.lt_or_ge i vs.length with hlt | hge
  · rw [List.getElem?_append_left hlt] at e1
    rw [List.getElem?_append_left (by omega)] at e2
    exact (k3 i y b e1 e2).keep K hG
  · rw [List.getElem?_append_right hge] at e1
    rw [List.getElem?_append_right (by omega), ← k1] at e2
    exact (hE _ y b e1 e2).keep K hG
theorem wpList_appendL {rest : List Oper} {Q : Exit → Act → World → Prop} (hw : Region.wanted o (yielded ops a.tmps) = true) (s x : Operand) (ho : o.op = .call { callee := .builtin .append, args := #[s, x], argTypes := #[63, 63] }) {F G : Nat → Prop} {v : Value} {l m : List (List UInt8)} (hs : a.eval s = v) (H : RowsL w F G v l)
    {A : Option Addr} {n c : Nat} (hx : a.eval x = .slice A n c) (hn : n = m.length) (hA : A = none → c = 0) (vs2 : List Value) (h2 : vs2.length = m.length) (hR : Reads w A vs2) (hE : ∀ (i : Nat) (x : Value) (b : List UInt8), vs2[i]? = some x → m[i]? = some b → RecVal w G x b) (hl : l.length + m.length ≤ 1099511627776)
    (hd : ∀ q, v.ownBlock = some q → ¬ G q)
    (h : ∀ v' w', RowsL w' (fun k => v.ownBlock = some k ∨ (w.heap.size ≤ k ∧ k < w'.heap.size)) G v' (l ++ m) → Keep (fun k => v.ownBlock = some k) w w' → wpList Try.prog ops Q rest (a.put o.dst v') w') : wpList Try.prog ops Q (o :: rest) a w := by
  obtain ⟨v', w', e1, e2, e3⟩ := exec_appendL s x ho hs H hx hn hA vs2 h2 hR hE hl hd
  exact wpList_run_w hw v' w' e1 (h v' w' e2 e3)
end
theorem one_vs {w : World} {G : Nat → Prop} {x : Value} {b : List UInt8} (h : RecVal w G x b) : ∀ (i : Nat) (y : Value) (c : List UInt8), [x][i]? = some y → [b][i]? = some c → RecVal w G y c := by
  intro i y c e1 e2
  match i with
  | 0 =>
    simp only [List.getElem?_cons_zero, Option.some.injEq] at e1 e2
    subst e1; subst e2; exact h
  | n + 1 => simp at e1

/-! ### The worlds of the laws -/
theorem WX.rlt {w0 w : World} {F G : Nat → Prop} {bw g r : Nat} {S R : RS} (h : WX w0 w F G bw g r S R) : Lt F w := by
  obtain ⟨vl, vs, hr⟩ := h.roll
  exact hr.lt
theorem WX.wlt {w0 w : World} {F G : Nat → Prop} {bw g r : Nat} {S R : RS} (h : WX w0 w F G bw g r S R) : bw < w.heap.size := by
  obtain ⟨vl, vr, A, a, B, b, -, -, -, -, -, hB⟩ := h.ref
  exact hB.lt
theorem WX.cells {w0 w : World} {F G : Nat → Prop} {bw g r : Nat} {S R : RS} (h : WX w0 w F G bw g r S R) : w.cell? ⟨bw, 0, none⟩ = some (.pointer (some ⟨g, 0, none⟩)) ∧ w.cell? ⟨bw, 1, none⟩ = some (.pointer (some ⟨r, 0, none⟩)) := by
  obtain ⟨vl, vr, A, a, B, b, -, -, -, -, -, hB⟩ := h.ref
  exact ⟨hB.cell 0, hB.cell 1⟩
/-- Behind a step that turns neither the roll nor the document's. -/
theorem WX.apart {w0 w w' : World} {F G H : Nat → Prop} {bw g r : Nat} {S R : RS} (h : WX w0 w F G bw g r S R) (k : Keep H w w') (hF : Dj F H) (hG : Dj G H) (hb : ¬ H bw) : WX w0 w' F G bw g r S R := by
  obtain ⟨vl, vr, A, a, B, b, h1, h2, h3, h4, h5, h6⟩ := h.ref
  refine ⟨h.roll.keep k hF, ⟨vl, vr, A, a, B, b, h1.keep k hG, h2.keep k hG, h3.keep k hG, h4, h5, h6.keep k hb⟩, h.low, h.off, h.nbF, h.nbG, h.wlow, h.glt.up k.size, h.old, h.kept.own k (fun q e => ?_)⟩
  rcases Nat.lt_or_ge q w0.heap.size with hq | hq
  · exact absurd e (hG q (h.old q hq))
  · exact hq
theorem WX.keep {w0 w w' : World} {F G : Nat → Prop} {bw g r : Nat} {S R : RS} (h : WX w0 w F G bw g r S R) (k : Keep Noth w w') : WX w0 w' F G bw g r S R :=
  h.apart k (Dj.noth _) (Dj.noth _) id
/-- Behind a call of the roll. -/
theorem WX.prog {w0 w w' : World} {F G : Nat → Prop} {bw g r : Nat} {S S' R : RS} (h : WX w0 w F G bw g r S R) (hr : RollIs w' (grow F w w') g r S') (k : Keep F w w') : WX w0 w' (grow F w w') G bw g r S' R := by
  obtain ⟨vl, vr, A, a, B, b, h1, h2, h3, h4, h5, h6⟩ := h.ref
  exact ⟨hr, ⟨vl, vr, A, a, B, b, h1.keep k h.off, h2.keep k h.off, h3.keep k h.off, h4, h5, h6.keep k h.nbF⟩, low_grow h.low h.kept.size, h.off.grow h.glt, fun e => e.elim h.nbF (fun e => by have := h.wlt; omega), h.nbG, h.wlow, h.glt.up k.size, h.old, h.kept.own k h.low⟩
end Go.Proofs.Ytffcglfepobdjaa
