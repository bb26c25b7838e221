/- Rows that are full are appended to; what is held beside a roll. -/
import Derived.Test.YtffcglfepobdjaaX6
import Derived.ArgAppend
set_option linter.unusedVariables false
set_option linter.unusedSimpArgs false
set_option maxRecDepth 100000
set_option maxHeartbeats 2000000
namespace Go.Proofs.Ytffcglfepobdjaa
open Go.RowKit
theorem run_append_nothing (w : World) (ty : TypeId) (n : Nat) (A1 A2 : Option Addr) (c2 : Nat) : (Builtin.append_ #[63, 63] ty #[.slice A1 n n, .slice A2 0 c2]).run Try.prog w = .ok (.slice A1 n n) w := by
 obtain ⟨i, hi, hz⟩ := Option.map_eq_some_iff.1 info33
 cases A1 <;> cases A2 <;> simp [Builtin.append_, run_underlying sl63, sizeOf, typeInfo, hi, Builtin.lenOf, Builtin.firstCells, loadCells, loadCellsFrom, storeCells]
/-- What is staged: full, or a row of one's own. -/
structure StgV (w0 w : World) (G : Nat → Prop) (v : Value) (l : List (List UInt8)) : Prop where
 val : ∃ A c, v = .slice A l.length c ∧ (A = none → c = 0) ∧ ReadsL w (grow G w0 w) A l ∧ (c = l.length ∨ RowsL w (Fresh w0 w) G v l)
theorem grow_mono {G : Nat → Prop} {w0 w w' : World} (h : w.heap.size ≤ w'.heap.size) : ∀ q, grow G w0 w q → grow G w0 w' q := fun q hq => hq.imp id (fun e => ⟨e.1, by have := e.2; omega⟩)
theorem StgV.keep {w0 w w' : World} {G : Nat → Prop} {v : Value} {l : List (List UInt8)} (h : StgV w0 w G v l) (k : Keep Noth w w') : StgV w0 w' G v l := by
 obtain ⟨A, c, h1, h2, h3, h4⟩ := h.val
 exact ⟨A, c, h1, h2, (h3.keep k (Dj.noth _)).mono (grow_mono k.size), h4.imp id (fun e => (e.keep k (Dj.noth _) (Dj.noth _)).mono (fun q hq => ⟨hq.1, by have := hq.2; have := k.size; omega⟩) (fun _ hq => hq))⟩
theorem ReadsL.some_of {w : World} {G : Nat → Prop} {A : Option Addr} {l : List (List UInt8)} (h : ReadsL w G A l) (hne : l ≠ []) : ∃ ad, A = some ad := by
 obtain ⟨vs, h1, h2, -⟩ := h.ex
 have h0 : 0 < vs.length := by rw [h1]; exact List.length_pos_iff.2 hne
 obtain ⟨ad, e, -⟩ := h2 0 vs[0] (List.getElem?_eq_getElem h0)
 exact ⟨ad, e⟩
theorem vs_one {w : World} {G : Nat → Prop} {vs : List Value} {l : List (List UInt8)} (h1 : vs.length = l.length) (h : ∀ (i : Nat) (x : Value) (b : List UInt8), vs[i]? = some x → l[i]? = some b → RecVal w G x b) : ∀ u ∈ vs, u.oneCell' = true := by
 intro u hu
 obtain ⟨i, hi⟩ := List.mem_iff_getElem?.1 hu
 have hlt := (List.getElem?_eq_some_iff.1 hi).1
 obtain ⟨B, c', e, -⟩ := h i u l[i] hi (List.getElem?_eq_getElem (by omega))
 rw [e]; rfl
theorem ReadsL.append_vs {w : World} {G : Nat → Prop} {vs1 vs2 : List Value} {l m : List (List UInt8)} (k1 : vs1.length = l.length) (h1 : ∀ (i : Nat) (x : Value) (b : List UInt8), vs1[i]? = some x → l[i]? = some b → RecVal w G x b) (h2 : ∀ (i : Nat) (x : Value) (b : List UInt8), vs2[i]? = some x → m[i]? = some b → RecVal w G x b) :
  ∀ (i : Nat) (x : Value) (b : List UInt8), (vs1 ++ vs2)[i]? = some x → (l ++ m)[i]? = some b → RecVal w G x b := by
 intro i y b e1 e2
 rcases Nat.lt_or_ge i vs1.length with hlt | hge
 ·rw [List.getElem?_append_left hlt] at e1
  rw [List.getElem?_append_left (by omega)] at e2
  exact h1 i y b e1 e2
 ·rw [List.getElem?_append_right hge] at e1
  rw [List.getElem?_append_right (by omega), ← k1] at e2
  exact h2 _ y b e1 e2
/-- Slices of bytes are appended to a row that is full, and is only read. -/
theorem exec_append_full {o : Oper} {a : Act} {w : World} (s x : Operand) (ho : o.op = .call { callee := .builtin .append, args := #[s, x], argTypes := #[63, 63] }) {G : Nat → Prop} {A1 : Option Addr} {l m : List (List UInt8)} (hs : a.eval s = .slice A1 l.length l.length) (H1 : ReadsL w G A1 l)
  {A2 : Option Addr} {c2 : Nat} (hx : a.eval x = .slice A2 m.length c2) (H2 : ReadsL w G A2 m) (hA2 : A2 = none → c2 = 0) (hA1 : A1 = none → l = []) (hl : l.length + m.length ≤ 1099511627776) :
  ∃ v' w', (execOp a.eval o).run Try.prog w = .ok (.value v') w' ∧ StgV w w' G v' (l ++ m) ∧ Keep Noth w w' := by
 by_cases hm : m = []
 ·subst hm
  refine ⟨.slice A1 l.length l.length, w, exec_append s x 63 ho hs hx (run_append_nothing w o.type _ _ _ _), ⟨⟨A1, l.length, by rw [List.append_nil], fun e => by rw [hA1 e]; rfl, ?_, .inl (by rw [List.append_nil])⟩⟩, Keep.refl _ _⟩
  rw [List.append_nil]
  exact H1.mono (fun q hq => .inl hq)
 ·obtain ⟨a2, rfl⟩ := H2.some_of hm
  obtain ⟨vs2, p1, p2, p3⟩ := H2.ex
  obtain ⟨vs1, q1, q2, q3⟩ := H1.ex
  obtain ⟨i, hi, hzz⟩ := Option.map_eq_some_iff.1 info33
  simp only [Prod.mk.injEq] at hzz
  obtain ⟨hz0, hz1, hz2⟩ := hzz
  rcases A1 with _ | b
  ·have hl0 := hA1 rfl
   subst hl0
   have hv1 : vs1 = [] := List.eq_nil_of_length_eq_zero (by rw [q1]; rfl)
   obtain ⟨v', w', e1, e2, e3⟩ := exec_appendL (F := Noth) (G := G) (l := []) s x ho hs (RowsL.nil w Noth G) hx rfl hA2 vs2 p1 p2 p3 hl (fun q e => by cases e)
   have hk : Keep Noth w w' := e3.mono (fun _ _ e => by cases e)
   obtain ⟨A', c', hv, hn⟩ := e2.val
   have hF : ∀ q, ((Value.slice none 0 0).ownBlock = some q ∨ (w.heap.size ≤ q ∧ q < w'.heap.size)) → Fresh w w' q := fun q hq => hq.elim (fun e => by cases e) id
   subst hv
   exact ⟨_, w', e1, ⟨⟨A', c', rfl, hn, e2.reads.mono (fun q hq => hq.elim (fun e => .inr (hF q e)) .inl), .inr (e2.mono hF (fun _ h => h))⟩⟩, hk⟩
  ·have hmp : 0 < m.length := List.length_pos_iff.2 hm
   obtain ⟨v', w', hr, h1, h2⟩ := run_append_arg_grows (P := Try.prog) w 63 o.type 33 i (.slice none 0 0) 1 24 sl63 hi hz0 hz1 hz2 rfl (by decide) b l.length l.length vs1 (by rw [q1]; omega) (fun j u hj => by obtain ⟨ad, e, hc⟩ := q2 j u hj; injection e with e; subst e; exact hc)
    a2 m.length c2 vs2 (by rw [p1]; omega) (fun j u hj => by obtain ⟨ad, e, hc⟩ := p2 j u hj; injection e with e; subst e; exact hc) (by omega) (by simp only [maxLen]; omega) (by omega)
   have hk : Keep Noth w w' := (Keep.refl _ _).grown h2 (fun _ h => by cases h)
   have hrow : Rows w' (Fresh w w') 33 1 v' ((vs1 ++ vs2).map fun x => [x]) := by
    refine ⟨?_, fun y hy => by obtain ⟨_, _, rfl⟩ := List.mem_map.1 hy; rfl, fun q hq => ?_⟩
    ·rw [flat_one, List.length_map, List.length_append, q1, p1]
     exact ⟨h1.1, h1.2.imp id (fun ⟨g, cap, cur, e1, e2, e3⟩ => ⟨g, cap, cur, e1, Nat.zero_le _, e3⟩)⟩
    ·have := h1.lt _ hq
     exact ⟨this.1, this.2⟩
   have hL : RowsL w' (Fresh w w') G v' (l ++ m) := ⟨vs1 ++ vs2, by rw [List.length_append, List.length_append, q1, p1], hrow, ReadsL.append_vs q1 (fun i x b e1 e2 => (q3 i x b e1 e2).keep hk (Dj.noth _)) (fun i x b e1 e2 => (p3 i x b e1 e2).keep hk (Dj.noth _))⟩
   obtain ⟨A', c', hv, hn⟩ := hL.val
   subst hv
   exact ⟨_, w', exec_append s x 63 ho hs hx hr, ⟨⟨A', c', rfl, hn, hL.reads.mono (fun q hq => hq.elim .inr .inl), .inr hL⟩⟩, hk⟩
/-- One more is appended to what is staged. -/
theorem exec_append_stg {o : Oper} {a : Act} {w0 w : World} (s x : Operand) (ho : o.op = .call { callee := .builtin .append, args := #[s, x], argTypes := #[63, 63] }) {G : Nat → Prop} {v : Value} {l m : List (List UInt8)} (hs : a.eval s = v) (H1 : StgV w0 w G v l) (hG : Lt G w0) (h0 : w0.heap.size ≤ w.heap.size)
  {A2 : Option Addr} {c2 : Nat} (hx : a.eval x = .slice A2 m.length c2) (vs2 : List Value) (p1 : vs2.length = m.length) (p2 : Reads w A2 vs2) (p3 : ∀ (i : Nat) (x : Value) (b : List UInt8), vs2[i]? = some x → m[i]? = some b → RecVal w G x b) (hA2 : A2 = none → c2 = 0) (hfoot : m ≠ [] → ∀ ad, A2 = some ad → w0.heap.size ≤ ad.block ∧ ad.block < w.heap.size) (hl : l.length + m.length ≤ 1099511627776) :
  ∃ v' w', (execOp a.eval o).run Try.prog w = .ok (.value v') w' ∧ (∃ A' c', v' = .slice A' (l ++ m).length c' ∧ (A' = none → c' = 0) ∧ ReadsL w' (grow G w0 w') A' (l ++ m)) ∧ Keep (Fresh w0 w) w w' := by
 obtain ⟨A, c, rfl, h2, h3, h4⟩ := H1.val
 rcases h4 with h4 | h4
 ·subst h4
  have hA1 : A = none → l = [] := fun e => List.eq_nil_of_length_eq_zero (h2 e)
  have HS2 : ReadsL w (grow G w0 w) A2 m := ⟨⟨vs2, p1, p2, fun i x b e1 e2 => (p3 i x b e1 e2).mono (fun q hq => .inl hq)⟩, fun hne ad e => .inr (hfoot hne ad e)⟩
  obtain ⟨v', w', e1, e2, e3⟩ := exec_append_full s x ho hs h3 hx HS2 hA2 hA1 hl
  obtain ⟨A', c', r1, r2, r3, -⟩ := e2.val
  exact ⟨v', w', e1, ⟨A', c', r1, r2, r3.mono (fun q hq => by
   have hs := e3.size
   rcases hq with (hq | hq) | hq
   ·exact .inl hq
   ·exact .inr ⟨hq.1, by have := hq.2; omega⟩
   ·exact .inr ⟨by have := hq.1; omega, hq.2⟩)⟩, e3.mono (fun _ _ e => e.elim)⟩
 ·obtain ⟨v', w', e1, e2, e3⟩ := exec_appendL s x ho hs h4 hx rfl hA2 vs2 p1 p2 p3 hl (fun q e hg => by have h1 := (h4.own q e).1.1; have h2 := hG q hg; omega)
  obtain ⟨A', c', hv, hn⟩ := e2.val
  have hF : ∀ q, ((Value.slice A l.length c).ownBlock = some q ∨ (w.heap.size ≤ q ∧ q < w'.heap.size)) → Fresh w0 w' q := fun q hq => by
   have hs := e3.size
   rcases hq with e | e
   ·have := (h4.own q e).1; exact ⟨this.1, by have := this.2; omega⟩
   ·exact ⟨by omega, e.2⟩
  subst hv
  exact ⟨_, w', e1, ⟨A', c', rfl, hn, e2.reads.mono (fun q hq => hq.elim (fun e => .inr (hF q e)) .inl)⟩, e3.mono (fun q _ e => (h4.own q e).1)⟩
end Go.Proofs.Ytffcglfepobdjaa
