/- A script of calls as it lies in memory; Few. -/
import Derived.Test.YtffcglfepobdjaaC4
import Derived.Test.YtffcglfepobdjaaB10
set_option linter.unusedVariables false
set_option linter.unusedSimpArgs false
set_option maxRecDepth 10000
set_option maxHeartbeats 1000000
namespace Go.Proofs.Ytffcglfepobdjaa
open Go.RowKit

structure OpC where
  o : OpV
  Ab : Option Addr
  Af : Option Addr
  cb : Nat
  cf : Nat
def OpC.cells (x : OpC) : List Value := opv x.o x.Ab x.Af x.cb x.cf
structure Script (w : World) (A : Option Addr) (xs : List OpC) : Prop where
  cells : Reads w A (xs.map OpC.cells).flatten
  each : ∀ x ∈ xs, OpAt w x.o x.Ab x.Af
  ok : ∀ x ∈ xs, x.o.ok
theorem opc_length (x : OpC) : x.cells.length = 4 := rfl
theorem opc_each (xs : List OpC) : ∀ c ∈ xs.map OpC.cells, c.length = 4 := by
  intro c hc
  obtain ⟨x, _, rfl⟩ := List.mem_map.1 hc
  rfl

/-- What was there before a call stays, whatever the call does to its own. -/
theorem Reads.old {w w' : World} {F : Nat → Prop} {A : Option Addr} {cs : List Value} (h : Reads w A cs) (hk : Keep F w w') (hF : ∀ q, F q → w.heap.size ≤ q) : Reads w' A cs := by
  intro j u hu
  obtain ⟨ad, rfl, hc⟩ := h j u hu
  refine ⟨ad, rfl, ?_⟩
  have hlt := World.block_lt_of_cell? w _ hc
  rw [World.cell?_of_block (hk.block _ hlt (fun hf => by have := hF _ hf; omega))]
  exact hc
theorem Script.old {w w' : World} {F : Nat → Prop} {A : Option Addr} {xs : List OpC} (h : Script w A xs) (hk : Keep F w w') (hF : ∀ q, F q → w.heap.size ≤ q) : Script w' A xs :=
  ⟨h.cells.old hk hF, fun x hx => ⟨(h.each x hx).b.old hk hF, (h.each x hx).forms.old hk hF⟩, h.ok⟩
theorem Reads.where {w : World} {A : Option Addr} {cs : List Value} (h : Reads w A cs) (h0 : 0 < cs.length) : ∃ g o, A = some ⟨g, o, none⟩ ∧ w.rangeAt g o cs ∧ g < w.heap.size := by
  obtain ⟨ad, rfl, hc⟩ := h 0 cs[0] (by simp)
  have hlt := World.block_lt_of_cell? w _ hc
  obtain ⟨g, o, sp⟩ := ad
  have hs : sp = none := by
    cases sp with
    | none => rfl
    | some n =>
      simp only [Addr.add, if_true, World.cell?, Option.isSome] at hc
      split at hc <;> cases hc
  subst hs
  refine ⟨g, o, rfl, fun j v hv => ?_, hlt⟩
  obtain ⟨ad, e, hc⟩ := h j v hv
  injection e with e
  subst e
  rw [Addr.add_mid] at hc
  exact hc
theorem range_elem {w : World} {g o size : Nat} {xs : List (List Value)} (h : w.rangeAt g o xs.flatten) (he : ∀ x ∈ xs, x.length = size) (i : Nat) (hi : i < xs.length) : w.rangeAt g (o + i * size) xs[i] := fun j v hv => by
  have := h (i * size + j) v (flatten_at size xs i he hi j v hv)
  rw [Nat.add_assoc]; exact this
/-- What a call of a script brings along lies below. -/
theorem Script.below {w : World} {A : Option Addr} {xs : List OpC} (h : Script w A xs) {F : Nat → Prop} (hF : ∀ q, F q → w.heap.size ≤ q) {x : OpC} (hx : x ∈ xs) : ∀ ad, x.Af = some ad → x.o.forms ≠ [] → ¬ F ad.block := by
  intro ad ha hne hf
  obtain ⟨g, o, e, -, hlt⟩ := (h.each x hx).forms.where (by simp only [ints, List.length_map]; exact List.length_pos_iff.2 hne)
  rw [ha] at e
  injection e with e
  subst e
  have := hF _ hf
  simp only at this
  omega

theorem script_pos (xs : List OpC) (h : 0 < xs.length) : 0 < (xs.map OpC.cells).flatten.length := by
  cases xs with
  | nil => simp at h
  | cons x xs => rw [List.map_cons, List.flatten_cons, List.length_append, opc_length]; omega
def zop : List Value := [.int .i64 0, .int .i64 0, .slice none 0 0, .slice none 0 0]
theorem info36 : (Try.prog.info? 36).map (fun i => (i.zero, i.size, i.bytes)) = some (some (.agg zop.toArray), 4, 64) := by kernel_rfl
theorem zop_cells : (Value.agg zop.toArray).cells = zop.toArray := by rfl
theorem size36 : (Try.prog.info? 36).map (·.size) = some 4 := by kernel_rfl

section
variable {P : Program} {w : World} {ops : Array Oper} {rest : List Oper} {op : Oper} {a : Act} {Q : Exit → Act → World → Prop}
/-- An element of a slice that is only read is loaded. -/
theorem wpList_load_elem (hgd : op.guard = none) (ty : TypeId) (x : Operand) (ho : op.op = .load ty x) (size g o : Nat) (xs : List (List Value)) (i off : Nat) (cs : List Value) (d : TypeDesc)
    (H : w.rangeAt g o xs.flatten) (he : ∀ x ∈ xs, x.length = size) (hi0 : i < xs.length) (hcs : xs[i] = cs) (hoff : off = o + i * size) (hx : a.eval x = .pointer (some ⟨g, off, none⟩))
    (hu : P.underlying ty = some d) (hd : d.isRow = true) (hi : (P.info? ty).map (·.size) = some size)
    (h : wpList P ops Q rest (a.put op.dst (.agg cs.toArray)) w) : wpList P ops Q (op :: rest) a w := by
  subst hoff
  subst hcs
  exact wpList_load_mid hgd ty x ho g (o + i * size) hx _ d (range_elem H he i hi0) hu hd (by rw [he _ (List.getElem_mem hi0)]; exact hi) h
end

def scriptSize (xs : List OpC) : Nat := (xs.map fun x => x.o.b.length + x.o.forms.length).sum
def few (xs : List OpC) : Int := if xs.length ≤ 80 ∧ scriptSize xs ≤ 8000 then 0 else (scriptSize xs : Int) + xs.length
theorem scriptSize_take (xs : List OpC) (k : Nat) (hk : k < xs.length) : scriptSize (xs.take (k + 1)) = scriptSize (xs.take k) + (xs[k].o.b.length + xs[k].o.forms.length) := by
  unfold scriptSize
  rw [List.take_add_one, List.getElem?_eq_getElem hk]
  simp only [List.map_append, Option.toList, List.sum_append, List.map_cons, List.map_nil, List.sum_cons, List.sum_nil, Nat.add_zero]
theorem scriptSize_le (xs : List OpC) (k : Nat) : scriptSize (xs.take k) ≤ scriptSize xs := by
  unfold scriptSize
  have h : xs = xs.take k ++ xs.drop k := (List.take_append_drop k xs).symm
  conv => rhs; rw [h]
  rw [List.map_append, List.sum_append]
  omega

theorem few_calls (w : World) (A : Option Addr) (c : Nat) (xs : List OpC) (hS : Script w A xs) (hsz : scriptSize xs + xs.length ≤ 1048576) :
    Calls Try.prog 15 #[.slice A xs.length c] w (fun e w' => e = .returned (.int .i64 (few xs)) ∧ Keep Noth w w') := by
  have hsz' : (scriptSize xs : Int) + xs.length ≤ 1048576 := by omega
  have HS := hid hS
  clear hS
  go_enter Try.func15, Try.ntmps15
  go_wp2_with fail
  go_loopw [3, 8] (fun n i wr => ∃ k : Nat, i = .int .i64 k ∧ n = .int .i64 (scriptSize (xs.take k) : Int) ∧ k ≤ xs.length ∧ Keep Noth w wr) (fun _ i _ => xs.length - (intOf i).toNat)
  case atStart => exact ⟨0, rfl, rfl, Nat.zero_le _, Keep.refl _ _⟩
  case round =>
    obtain ⟨k, rfl, rfl, hkl, HK⟩ := hrel
    by_cases hlt : k < xs.length
    · have hlt' : (k : Int) < xs.length := by omega
      obtain ⟨g, o, hAo, hrange, hg⟩ := (HS.out.old HK (fun _ h => h.elim)).cells.where (script_pos xs (by omega))
      subst hAo
      have hk1 := scriptSize_take xs k hlt
      have hk2 := scriptSize_le xs (k + 1)
      obtain ⟨S, hSd⟩ : ∃ S, S = scriptSize (xs.take k) := ⟨_, rfl⟩
      rw [← hSd] at hk1 ⊢
      obtain ⟨x, hx⟩ : ∃ x, x = xs[k] := ⟨_, rfl⟩
      rw [← hx] at hk1
      have hxc : (xs.map OpC.cells)[k]'(by rw [List.length_map]; exact hlt) = x.cells := by rw [List.getElem_map, ← hx]
      have hb1 : ((x.o.b.length : Int) + x.o.forms.length) + S ≤ 1048576 := by omega
      have Hr := hid hrange
      have Hxc := hid hxc
      have Hk1 := hid hk1
      clear hrange hxc hk1 hk2 hSd hx
      go_wp2_with (first | (refine wpList_load_elem rfl 36 _ rfl 4 g o (xs.map OpC.cells) k _ x.cells _ Hr.out (opc_each xs) (by rw [List.length_map]; exact hlt) Hxc.out rfl (by rfl) Try.underlying36 rfl size36 ?_) | (refine wpList_alloc_store rfl 36 rfl 5 _ rfl (by rfl) rfl rfl (by decide) (.agg zop.toArray) x.cells (by rw [opc_length]; exact info36) zop zop_cells (by rfl) (by rfl) (opv_one _ _ _ _ _) ?_; intro b w2 hb2 B2 K2; have c2 := B2.cell 2; have c3 := B2.cell 3; simp only [OpC.cells, opv, List.getElem?_cons_zero, List.getElem?_cons_succ] at c2 c3))
      go_roundw
      case rel =>
        refine ⟨k + 1, by go_num, ?_, hlt, HK.trans K2 (fun _ _ h => h)⟩
        rw [Hk1.out]
        congr 1
      case measure => simp [intOf]; omega
    · have hge : k = xs.length := by omega
      subst hge
      rw [List.take_length]
      by_cases hf : xs.length ≤ 80 ∧ scriptSize xs ≤ 8000
      · have h1 : (xs.length : Int) ≤ 80 := by omega
        have h2 : (scriptSize xs : Int) ≤ 8000 := by omega
        have hfew : few xs = 0 := by unfold few; rw [if_pos hf]
        have Hfew := hid hfew
        clear hfew
        go_wp2_with fail
        go_ret
        exact ⟨by rw [Hfew.out]; rfl, HK⟩
      · have hfew : few xs = (scriptSize xs : Int) + xs.length := by unfold few; rw [if_neg hf]
        have Hfew := hid hfew
        clear hfew
        have h1 : (xs.length : Int) ≤ 80 → 8000 < (scriptSize xs : Int) := by omega
        go_wp2_with fail
        all_goals
          go_ret
          exact ⟨by rw [Hfew.out]; rfl, HK⟩
end Go.Proofs.Ytffcglfepobdjaa
