/- Laws at an operation, the world behind it a letter: a new variable, a whole variable stored or loaded, an element of a row stored or loaded. -/
import Derived.Test.YtffcglfepobdjaaA3
set_option linter.unusedVariables false
set_option linter.unusedSimpArgs false
namespace Go.Proofs.Ytffcglfepobdjaa
open Go.RowKit

section
variable {P : Program} {ops : Array Oper} {rest : List Oper} {o : Oper} {a : Act} {w : World} {Q : Exit → Act → World → Prop}

theorem wpList_alloc_v (hgd : o.guard = none) (t : TypeId) (ho : o.op = .alloc t) (z : Value) {size bytes : Nat} (hz : (P.info? t).map (fun i => (i.zero, i.size, i.bytes)) = some (some z, size, bytes)) (zs : List Value) (hzs : z.cells = zs.toArray)
    (h : ∀ b w1, w.heap.size ≤ b → BlockIs w1 b zs t → Keep Noth w w1 → wpList P ops Q rest (a.put o.dst (.pointer (some ⟨b, 0, none⟩))) w1) : wpList P ops Q (o :: rest) a w := by
  refine wpList_alloc_z hgd t ho z ?_ zs hzs (h _ _ (Nat.le_refl _) (BlockIs.new w zs t) ((Keep.refl _ _).alloc _))
  cases hq : P.info? t with
  | none => simp [hq] at hz
  | some i => simp [hq] at hz ⊢; exact hz.1

theorem wpList_box_v (hgd : o.guard = none) (t : TypeId) (x : Operand) (ho : o.op = .box t x) (cs : List Value) (hx : (a.eval x).cells = cs.toArray)
    (h : ∀ b w1, w.heap.size ≤ b → BlockIs w1 b cs t → Keep Noth w w1 → wpList P ops Q rest (a.put o.dst (.pointer (some ⟨b, 0, none⟩))) w1) : wpList P ops Q (o :: rest) a w :=
  wpList_box_z hgd t x ho cs hx (h _ _ (Nat.le_refl _) (BlockIs.new w cs t) ((Keep.refl _ _).alloc _))

theorem BlockIs.there {b : Nat} {cs : List Value} {t : TypeId} (h : BlockIs w b cs t) (k n : Nat) (hn : k + n ≤ cs.length) : w.there b k n := fun j hj =>
  ⟨by rw [h.cell, List.getElem?_eq_getElem (show k + j < cs.length by omega)]; rfl, h.frozen _⟩

theorem info_size {e : TypeId} {z : Option Value} {size bytes : Nat} (h : (P.info? e).map (fun i => (i.zero, i.size, i.bytes)) = some (z, size, bytes)) : (P.info? e).map (·.size) = some size := by
  cases hq : P.info? e with
  | none => simp [hq] at h
  | some i => simp [hq] at h ⊢; exact h.2.1

/-- What store does, of a value of several cells. -/
theorem run_store_there (ty : TypeId) (b k : Nat) (cs : List Value) {z : Option Value} {bytes : Nat} (ht : w.there b k cs.length) (hi : (P.info? ty).map (fun i => (i.zero, i.size, i.bytes)) = some (z, cs.length, bytes)) (h1 : ∀ u ∈ cs, u.oneCell' = true) :
    (Instr.storeAt ty (.pointer (some ⟨b, k, none⟩)) (.agg cs.toArray)).run P w = .ok () (w.setCells b k cs) := by
  have := run_storeAt_mid (P := P) w b k ty cs.toArray (by simpa using ht) (by simpa using info_size hi) (all_oneCell_toArray h1)
  simpa using this

theorem wpList_store_there (hgd : o.guard = none) (ty : TypeId) (x y : Operand) (ho : o.op = .store ty x y) (b k : Nat) (cs : List Value) {z : Option Value} {bytes : Nat}
    (hx : a.eval x = .pointer (some ⟨b, k, none⟩)) (hy : a.eval y = .agg cs.toArray) (ht : w.there b k cs.length) (hi : (P.info? ty).map (fun i => (i.zero, i.size, i.bytes)) = some (z, cs.length, bytes)) (h1 : ∀ u ∈ cs, u.oneCell' = true)
    (h : wpList P ops Q rest (a.put o.dst undef) (w.setCells b k cs)) : wpList P ops Q (o :: rest) a w := by
  refine wpList_store_mid hgd ty x y ho b k cs.toArray hx hy (by simpa using ht) (by simpa using info_size hi) (all_oneCell_toArray h1) (by simpa using h)

/-- A whole variable is stored into. -/
theorem wpList_store_whole (hgd : o.guard = none) (ty : TypeId) (x y : Operand) (ho : o.op = .store ty x y) (b : Nat) (zs cs : List Value) (t : TypeId) {z : Option Value} {bytes : Nat}
    (hx : a.eval x = .pointer (some ⟨b, 0, none⟩)) (hy : a.eval y = .agg cs.toArray) (hb : BlockIs w b zs t) (hl : cs.length = zs.length) (hi : (P.info? ty).map (fun i => (i.zero, i.size, i.bytes)) = some (z, cs.length, bytes)) (h1 : ∀ u ∈ cs, u.oneCell' = true)
    (h : ∀ w1, BlockIs w1 b cs t → Keep (Only b) w w1 → wpList P ops Q rest (a.put o.dst undef) w1) : wpList P ops Q (o :: rest) a w := by
  refine wpList_store_there hgd ty x y ho b 0 cs hx hy (hb.there 0 _ (by omega)) hi h1 (h _ ?_ (Keep.setCells _ _ (Keep.refl _ _) (fun _ => rfl)))
  have := BlockIs.setCells cs 0 w zs hb (by omega)
  rwa [splice_whole _ _ hl] at this

theorem eval_put_at (a : Act) (d : Nat) (p : Value) (h : d < a.tmps.size) : (a.put (some d) p).eval (.tmp d) = p := by simp [Act.put, Act.eval, h]
/-- A new variable, and what it is given at once. -/
theorem wpList_alloc_store {o2 : Oper} (hgd : o.guard = none) (t : TypeId) (ho : o.op = .alloc t) (d s : Nat) (hd : o.dst = some d) (hsz : Nat.blt d a.tmps.size = true) (hg2 : o2.guard = none) (ho2 : o2.op = .store t (.tmp d) (.tmp s)) (hne : d ≠ s)
    (z : Value) {bytes : Nat} (cs : List Value) (hz : (P.info? t).map (fun i => (i.zero, i.size, i.bytes)) = some (some z, cs.length, bytes))
    (zs : List Value) (hzs : z.cells = zs.toArray) (hl : cs.length = zs.length) (hy : a.eval (.tmp s) = .agg cs.toArray) (h1 : ∀ u ∈ cs, u.oneCell' = true)
    (h : ∀ b w1, w.heap.size ≤ b → BlockIs w1 b cs t → Keep Noth w w1 → wpList P ops Q rest ((a.put o.dst (.pointer (some ⟨b, 0, none⟩))).put o2.dst undef) w1) : wpList P ops Q (o :: o2 :: rest) a w := by
  refine wpList_alloc_v hgd t ho z hz zs hzs fun b w1 hb B1 K1 => ?_
  refine wpList_store_whole hg2 t _ _ ho2 b zs cs t (by rw [hd]; exact eval_put_at a d _ (by rwa [Nat.blt_eq] at hsz)) (by rw [hd, Act.eval_put (fun e he => by injection he with he; subst he; intro h; injection h with h; exact hne h.symm)]; exact hy) B1 hl hz h1 fun w2 B2 K2 => h b w2 hb B2 (K1.trans K2 (fun i hi e => by unfold Only at e; omega))

/-- An element of a row is stored into. -/
theorem wpList_store_row (hgd : o.guard = none) (ty : TypeId) (x y : Operand) (ho : o.op = .store ty x y) (F : Nat → Prop) (e : TypeId) (size : Nat) (g n cap : Nat) (xs : List (List Value)) (i off : Nat) (cs : List Value) {z : Option Value} {bytes : Nat}
    (H : Rows w F e size (.slice (some ⟨g, 0, none⟩) n cap) xs) (hi0 : i < xs.length) (hoff : off = i * size) (hx : a.eval x = .pointer (some ⟨g, off, none⟩)) (hy : a.eval y = .agg cs.toArray) (hl : cs.length = size)
    (hi : (P.info? ty).map (fun i => (i.zero, i.size, i.bytes)) = some (z, size, bytes)) (h1 : ∀ u ∈ cs, u.oneCell' = true)
    (h : ∀ w1, Rows w1 F e size (.slice (some ⟨g, 0, none⟩) n cap) (xs.set i cs) → Keep (Only g) w w1 → wpList P ops Q rest (a.put o.dst undef) w1) : wpList P ops Q (o :: rest) a w := by
  subst hoff
  refine wpList_store_there hgd ty x y ho g (i * size) cs hx hy (by rw [hl]; exact H.there i hi0) (by rw [hl]; exact hi) h1 (h _ ?_ (Keep.setCells _ _ (Keep.refl _ _) (fun _ => rfl)))
  have := H.splice i 0 cs hi0 (by omega)
  rwa [splice_whole _ _ (by rw [hl]; exact (H.each _ (List.getElem_mem hi0)).symm), Nat.add_zero] at this

theorem wpList_load_row' (hgd : o.guard = none) (ty : TypeId) (x : Operand) (ho : o.op = .load ty x) (F : Nat → Prop) (e : TypeId) (size : Nat) (g n cap : Nat) (xs : List (List Value)) (i off : Nat) (cs : List Value) (d : TypeDesc) {z : Option Value} {bytes : Nat}
    (H : Rows w F e size (.slice (some ⟨g, 0, none⟩) n cap) xs) (hi0 : i < xs.length) (hcs : xs[i] = cs) (hoff : off = i * size) (hx : a.eval x = .pointer (some ⟨g, off, none⟩))
    (hu : P.underlying ty = some d) (hd : d.isRow = true) (hi : (P.info? ty).map (fun i => (i.zero, i.size, i.bytes)) = some (z, size, bytes))
    (h : wpList P ops Q rest (a.put o.dst (.agg cs.toArray)) w) : wpList P ops Q (o :: rest) a w := by
  subst hoff
  subst hcs
  obtain ⟨g', cap', hv, _, hr⟩ := H.at (by omega)
  simp only [Value.slice.injEq, Option.some.injEq, Addr.mk.injEq, and_true, true_and] at hv
  obtain ⟨rfl, rfl, rfl⟩ := hv
  exact wpList_load_mid hgd ty x ho g (i * size) hx _ d (hr i hi0) hu hd (by rw [H.each _ (List.getElem_mem hi0)]; exact info_size hi) h

/-- A variable, or a part of it, is loaded. -/
theorem wpList_load_blk (hgd : o.guard = none) (ty : TypeId) (x : Operand) (ho : o.op = .load ty x) (b k : Nat) (zs cs : List Value) (t : TypeId) (d : TypeDesc) {z : Option Value} {bytes : Nat}
    (hx : a.eval x = .pointer (some ⟨b, k, none⟩)) (hb : BlockIs w b zs t) (hc : ∀ j v, cs[j]? = some v → zs[k + j]? = some v)
    (hu : P.underlying ty = some d) (hd : d.isRow = true) (hi : (P.info? ty).map (fun i => (i.zero, i.size, i.bytes)) = some (z, cs.length, bytes))
    (h : wpList P ops Q rest (a.put o.dst (.agg cs.toArray)) w) : wpList P ops Q (o :: rest) a w :=
  wpList_load_mid hgd ty x ho b k hx cs d (hb.range k cs hc) hu hd (info_size hi) h
/-- Bytes copied into a variable. -/
theorem wpList_copy_blk (hgd : o.guard = none) (d s : Operand) (dT sT : TypeId) (ho : o.op = .call { callee := .builtin .copy, args := #[d, s], argTypes := #[dT, sT] })
    (elem : TypeId) (hu : P.underlying dT = some (.slice elem)) (hsz : (P.info? elem).map (·.size) = some 1)
    (b k : Nat) (sp : Option Addr) (dLen dCap sLen sCap : Nat) (hd : a.eval d = .slice (some ⟨b, k, none⟩) dLen dCap) (hs : a.eval s = .slice sp sLen sCap) (cs zs : List Value) (t : TypeId) (hb : BlockIs w b zs t)
    (hn : cs.length = Nat.min sLen dLen) (hsrc : Reads w sp cs) (hfit : k + cs.length ≤ zs.length) (h1 : ∀ v ∈ cs, v.oneCell' = true)
    (h : ∀ w1, BlockIs w1 b (splice zs k cs) t → Keep (Only b) w w1 → wpList P ops Q rest (a.put o.dst (goInt cs.length)) w1) : wpList P ops Q (o :: rest) a w :=
  wpList_copy_any hgd d s dT sT ho elem hu hsz _ sp dLen dCap sLen sCap hd hs cs b k hn (fun _ => rfl) hsrc (hb.there k _ hfit) h1 (h _ (BlockIs.setCells cs k w zs hb hfit) (Keep.setCells _ _ (Keep.refl _ _) (fun _ => rfl)))
end
theorem part0 {α : Type} (zs : List α) : ∀ j v, zs[j]? = some v → zs[0 + j]? = some v := fun j v h => by rwa [Nat.zero_add]
theorem part1 {α : Type} (x : α) (zs : List α) : ∀ j v, zs[j]? = some v → (x :: zs)[1 + j]? = some v := fun j v h => by rwa [Nat.add_comm, List.getElem?_cons_succ]
end Go.Proofs.Ytffcglfepobdjaa
