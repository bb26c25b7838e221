/- What the blocks, the rolls and the document's rolls do, step by step and as plain data: texts A0 A1 A3 A4 A5 A6 A2 C1 B2 B3 B4 C2 B1 B5 B6 B7 B9 B10 B11 B12 C3 B8 C5 C6 K1 G0 G1 C4 F0 G2 G3 G4 G5 G6 D2 D1 D3 D4 G7 D5 H1 H2 I1 I2 I3; no conditions beside those that each theorem states. -/
import Derived.WalkKit
import Derived.WalkLawsBesides
import Derived.WalkSpells
import Derived.Deep.MidRow
import Derived.Maps.AppendAt
import Derived.Laws.CopyOwn
import Derived.StillTail
import Derived.Maps.RangeWalk
import Derived.Test.YtffcglfepobdjaaProg
import Derived.KernelRfl
import Derived.Laws.BytesArg
import Derived.Lib.MakeNoZero
import Derived.RangeFuncNested
import Derived.RangeFuncBound
import Derived.RangeFuncCalls
import Derived.RangeFuncLeaves
import Derived.RangeFuncBox
import Derived.RangeFuncWrites
import Derived.Shelf.Abstract
import Derived.Shelf.RegionOpen
import Derived.OwnWalkIn
import Derived.TacticsInMore
import Derived.LoopNIn
import Derived.LoopIn
import Derived.Maps.OwnOps
import Derived.Maps.OwnSet
import Derived.Maps.Views
import Derived.Laws.ResultCell
import Derived.Laws.Tables
set_option linter.unusedVariables false
set_option linter.unusedSimpArgs false
namespace Go.Proofs.Ytffcglfepobdjaa
open Go.RowKit
theorem hid {p : Prop} (h : p) : Hid p := h
abbrev Bk := List UInt8
def u8 (x : UInt8) : Value := .int .u8 (x.toNat : Int)
def bv (b : List UInt8) : List Value := b.map u8
def zb : Bk := List.replicate 64 0
def wv (p : Nat × Bk) : List Value := .int .i64 (p.1 : Int) :: bv p.2
@[simp] theorem bv_length (b : List UInt8) : (bv b).length = b.length := by simp [bv]
theorem bv_append (a b : List UInt8) : bv (a ++ b) = bv a ++ bv b := by simp [bv]
theorem bv_one (b : List UInt8) : ∀ v ∈ bv b, v.oneCell' = true := by
 intro v hv; simp only [bv, List.mem_map] at hv; obtain ⟨x, _, rfl⟩ := hv; rfl
theorem wv_one (p : Nat × Bk) : ∀ v ∈ wv p, v.oneCell' = true := by
 intro v hv; simp only [wv, List.mem_cons] at hv
 rcases hv with rfl | hv
 ·rfl
 ·exact bv_one _ v hv
structure DS where
 l : List Bk
 row : List (Nat × Bk)
 ops : Nat
 fuse : Int
 down : Bool
structure DS.ok (D : DS) : Prop where
 l64 : ∀ b ∈ D.l, b.length = 64
 row64 : ∀ p ∈ D.row, p.1 < D.l.length ∧ p.2.length = 64
 one : 1 ≤ D.l.length
 most : D.l.length ≤ 4096
 fuse : -1 ≤ D.fuse
 fuse' : D.fuse ≤ 9223372036854775807
/-- Every block that was there, and is not in F, is as it was. -/
structure Keep (F : Nat → Prop) (w w' : World) : Prop where
 os : w'.os = w.os
 tape : w'.tape = w.tape
 output : w'.output = w.output
 size : w.heap.size ≤ w'.heap.size
 block : ∀ k, k < w.heap.size → ¬ F k → w'.heap[k]? = w.heap[k]?
def Noth : Nat → Prop := fun _ => False
def Only (g : Nat) : Nat → Prop := fun k => k = g
/-- F, and what is new in w'. -/
def grow (F : Nat → Prop) (w w' : World) : Nat → Prop := fun k => F k ∨ (w.heap.size ≤ k ∧ k < w'.heap.size)
def Dj (F G : Nat → Prop) : Prop := ∀ k, F k → G k → False
def Lt (F : Nat → Prop) (w : World) : Prop := ∀ k, F k → k < w.heap.size
theorem Keep.refl (F : Nat → Prop) (w : World) : Keep F w w := ⟨rfl, rfl, rfl, Nat.le_refl _, fun _ _ _ => rfl⟩
theorem Keep.trans {F G : Nat → Prop} {a b c : World} (h : Keep F a b) (k : Keep G b c) (hG : ∀ i, i < a.heap.size → G i → F i) : Keep F a c :=
 ⟨k.os.trans h.os, k.tape.trans h.tape, k.output.trans h.output, Nat.le_trans h.size k.size,
   fun i hi hn => (k.block i (Nat.lt_of_lt_of_le hi h.size) (fun hg => hn (hG i hi hg))).trans (h.block i hi hn)⟩
theorem Keep.mono {F G : Nat → Prop} {a b : World} (h : Keep F a b) (hG : ∀ i, i < a.heap.size → F i → G i) : Keep G a b :=
 ⟨h.os, h.tape, h.output, h.size, fun i hi hn => h.block i hi (fun hf => hn (hG i hi hf))⟩
theorem Keep.drew {F : Nat → Prop} {a w : World} (h : Keep F a w) : Keep F a w.drew := ⟨h.os, h.tape, h.output, h.size, h.block⟩
theorem Keep.alloc {F : Nat → Prop} {a w : World} (h : Keep F a w) (o : Obj) : Keep F a (w.alloc o) :=
 h.trans (G := Noth) ⟨rfl, rfl, rfl, by simp, fun k hk _ => Below.heap_alloc w o k hk⟩ (fun _ _ h => h.elim)
theorem Keep.grown {F : Nat → Prop} {a w w' : World} {row : Option Nat} (h : Keep F a w) (hg : w.grownBy w' row) (hr : ∀ k, row = some k → k < a.heap.size → F k) : Keep F a w' :=
 h.trans (G := fun k => row = some k) ⟨hg.os, hg.tape, hg.output, hg.size, fun k hk hn => hg.block k hk (fun e => hn e.symm)⟩ (fun i hi hr' => hr i hr' hi)
theorem Keep.setCell {F : Nat → Prop} {a w : World} (h : Keep F a w) {p : Addr} (hp : p.block < a.heap.size → F p.block) (u : Value) : Keep F a (w.setCell p u) :=
 h.trans (G := Only p.block) ⟨rfl, rfl, rfl, by simp, fun k _ hn => heap_setCell_other w p k u (fun e => hn e)⟩ (fun i hi e => by unfold Only at e; subst e; exact hp hi)
theorem Keep.cell {g : Nat} {a w : World} (h : Keep (Only g) a w) (j : Nat) (u : Value) : Keep (Only g) a (w.setCell ⟨g, j, none⟩ u) := h.setCell (p := ⟨g, j, none⟩) (fun _ => rfl) u
theorem Keep.below {w w' : World} (h : Keep Noth w w') : Below w.heap.size w w' := ⟨h.os, h.tape, h.output, h.size, fun k hk => h.block k hk id⟩
theorem grow_lt {F : Nat → Prop} {w w' : World} (hF : Lt F w) (hs : w.heap.size ≤ w'.heap.size) : Lt (grow F w w') w' := fun k hk => by
 rcases hk with h | h
 ·exact Nat.lt_of_lt_of_le (hF k h) hs
 ·exact h.2
def BlockIs (w : World) (g : Nat) (cs : List Value) (t : TypeId) : Prop := w.heap[g]? = some (.cells cs.toArray t (0, 0))
theorem BlockIs.lt {w : World} {g : Nat} {cs : List Value} {t : TypeId} (h : BlockIs w g cs t) : g < w.heap.size := (Array.getElem?_eq_some_iff.1 h).1
theorem BlockIs.cell {w : World} {g : Nat} {cs : List Value} {t : TypeId} (h : BlockIs w g cs t) (j : Nat) : w.cell? ⟨g, j, none⟩ = cs[j]? := by
 rw [cell_of_row w g j _ t (0, 0) h]; simp
theorem BlockIs.frozen {w : World} {g : Nat} {cs : List Value} {t : TypeId} (h : BlockIs w g cs t) (j : Nat) : w.frozen? ⟨g, j, none⟩ = false := frozen_of_row w g j _ t h
theorem BlockIs.keep {w w' : World} {F : Nat → Prop} {g : Nat} {cs : List Value} {t : TypeId} (h : BlockIs w g cs t) (hk : Keep F w w') (hg : ¬ F g) : BlockIs w' g cs t :=
 (hk.block g h.lt hg).trans h
theorem BlockIs.set {w : World} {g : Nat} {cs : List Value} {t : TypeId} (h : BlockIs w g cs t) (j : Nat) (v : Value) : BlockIs (w.setCell ⟨g, j, none⟩ v) g (cs.set j v) t := by
 have := heap_setCell_same w g j cs.toArray t v h
 unfold BlockIs
 rw [this]
 simp
theorem BlockIs.far {w : World} {g : Nat} {cs : List Value} {t : TypeId} (h : BlockIs w g cs t) (p : Addr) (hp : g ≠ p.block) (v : Value) : BlockIs (w.setCell p v) g cs t :=
 (heap_setCell_other w p g v hp).trans h
theorem BlockIs.new (w : World) (cs : List Value) (t : TypeId) : BlockIs (w.alloc (.cells cs.toArray t)) w.heap.size cs t := heap_alloc_new w _
theorem BlockIs.alloc {w : World} {g : Nat} {cs : List Value} {t : TypeId} (h : BlockIs w g cs t) (o : Obj) : BlockIs (w.alloc o) g cs t := (Below.heap_alloc w o g h.lt).trans h
theorem BlockIs.drew {w : World} {g : Nat} {cs : List Value} {t : TypeId} (h : BlockIs w g cs t) : BlockIs w.drew g cs t := h
theorem BlockIs.range {w : World} {g : Nat} {cs : List Value} {t : TypeId} (h : BlockIs w g cs t) (o : Nat) (ds : List Value) (hd : ∀ j v, ds[j]? = some v → cs[o + j]? = some v) : w.rangeAt g o ds := fun j v hv => by
 rw [h.cell]; exact hd j v hv
theorem BlockIs.rangeAll {w : World} {g : Nat} {cs : List Value} {t : TypeId} (h : BlockIs w g cs t) : w.rangeAt g 0 cs := h.range 0 cs (fun j v hv => by simpa using hv)
structure Rows (w : World) (F : Nat → Prop) (e : TypeId) (size : Nat) (v : Value) (xs : List (List Value)) : Prop where
 own : w.ownsRow 0 e size v xs.length xs.flatten
 each : ∀ x ∈ xs, x.length = size
 foot : ∀ k, v.ownBlock = some k → F k
theorem Rows.keep {w w' : World} {F G : Nat → Prop} {e : TypeId} {size : Nat} {v : Value} {xs : List (List Value)} (h : Rows w F e size v xs) (hk : Keep G w w') (hd : Dj F G) : Rows w' F e size v xs := by
 refine ⟨⟨h.own.1, ?_⟩, h.each, h.foot⟩
 rcases h.own.2 with hn | ⟨g, cap, cur, hv, hb, hg, rest⟩
 ·exact .inl hn
 ·have hf : F g := h.foot g (by rw [hv]; rfl)
  exact .inr ⟨g, cap, cur, hv, hb, by rw [hk.block g (Array.getElem?_eq_some_iff.1 hg).1 (fun h => hd g hf h)]; exact hg, rest⟩
theorem Rows.mono {w : World} {F G : Nat → Prop} {e : TypeId} {size : Nat} {v : Value} {xs : List (List Value)} (h : Rows w F e size v xs) (hG : ∀ k, F k → G k) : Rows w G e size v xs := ⟨h.own, h.each, fun k hk => hG k (h.foot k hk)⟩
theorem Rows.nil (w : World) (F : Nat → Prop) (e : TypeId) (size : Nat) : Rows w F e size (.slice none 0 0) [] := ⟨World.ownsRow_nil _ _ _ _, by simp, by simp [Value.ownBlock]⟩
theorem Rows.val {w : World} {F : Nat → Prop} {e : TypeId} {size : Nat} {v : Value} {xs : List (List Value)} (h : Rows w F e size v xs) : ∃ A c, v = .slice A xs.length c := by
 rcases h.own.2 with ⟨rfl, h0⟩ | ⟨g, cap, cur, rfl, _⟩
 ·exact ⟨none, 0, by rw [h0]⟩
 ·exact ⟨_, _, rfl⟩
theorem Rows.valm {w : World} {F : Nat → Prop} {e : TypeId} {size : Nat} {v : Value} {α : Type} {f : α → List Value} {xs : List α} (h : Rows w F e size v (xs.map f)) : ∃ A c, v = .slice A xs.length c := by
 obtain ⟨A, c, hv⟩ := h.val
 exact ⟨A, c, by rw [hv, List.length_map]⟩
theorem flatten_at {α : Type} (size : Nat) : ∀ (xs : List (List α)) (i : Nat), (∀ x ∈ xs, x.length = size) → (hi : i < xs.length) → ∀ j v, xs[i][j]? = some v → xs.flatten[i * size + j]? = some v
 | [], i, _, hi, _, _, _ => by simp at hi
 | x :: xs, 0, he, _, j, v, hv => by
  have hx := he x (by simp)
  simp only [List.getElem_cons_zero] at hv
  have hj : j < x.length := (List.getElem?_eq_some_iff.1 hv).1
  rw [Nat.zero_mul, Nat.zero_add, List.flatten_cons, List.getElem?_append_left hj]
  exact hv
 | x :: xs, i + 1, he, hi, j, v, hv => by
  have hx := he x (by simp)
  simp only [List.getElem_cons_succ] at hv
  have ih := flatten_at size xs i (fun y hy => he y (by simp [hy])) (by simpa using hi) j v hv
  rw [List.flatten_cons, List.getElem?_append_right (by rw [hx, Nat.succ_mul]; omega), hx]
  rw [show (i + 1) * size + j - size = i * size + j by rw [Nat.succ_mul]; omega]
  exact ih
/-- Where an element lies. -/
theorem Rows.at {w : World} {F : Nat → Prop} {e : TypeId} {size : Nat} {v : Value} {xs : List (List Value)} (h : Rows w F e size v xs) (h0 : 0 < xs.length) :
  ∃ g cap, v = .slice (some ⟨g, 0, none⟩) xs.length cap ∧ F g ∧ ∀ i, (hi : i < xs.length) → w.rangeAt g (i * size) xs[i] := by
 rcases h.own.2 with ⟨rfl, h1⟩ | ⟨g, cap, cur, hv, _⟩
 ·omega
 ·subst hv
  refine ⟨g, cap, rfl, h.foot g rfl, fun i hi j u hu => ?_⟩
  have hj : j < size := by rw [← h.each xs[i] (List.getElem_mem hi)]; exact (List.getElem?_eq_some_iff.1 hu).1
  have hle : (i + 1) * size ≤ xs.length * size := Nat.mul_le_mul_right _ hi
  rw [Nat.succ_mul] at hle
  rw [h.own.cellAt (i * size + j) (by omega)]
  exact flatten_at size xs i h.each hi j u hu
theorem Rows.some_at {w : World} {F : Nat → Prop} {e : TypeId} {size : Nat} {A : Option Addr} {n c : Nat} {xs : List (List Value)} (h : Rows w F e size (.slice A n c) xs) (h0 : 0 < xs.length) : ∃ g, A = some ⟨g, 0, none⟩ := by
 obtain ⟨g, cap, hv, _⟩ := h.at h0
 simp only [Value.slice.injEq] at hv
 exact ⟨g, hv.1⟩
theorem Rows.there {w : World} {F : Nat → Prop} {e : TypeId} {size : Nat} {xs : List (List Value)} {g n cap : Nat} (h : Rows w F e size (.slice (some ⟨g, 0, none⟩) n cap) xs) (i : Nat) (hi : i < xs.length) : w.there g (i * size) size := by
 obtain ⟨g', cap', hv, _, hr⟩ := h.at (by omega)
 simp only [Value.slice.injEq, Option.some.injEq, Addr.mk.injEq, and_true, true_and] at hv
 obtain ⟨rfl, rfl, rfl⟩ := hv
 intro j hj
 have hx : xs[i].length = size := h.each _ (List.getElem_mem hi)
 refine ⟨(hr i hi).isSome j (by omega), h.own.frozenAt _⟩
theorem splice_nil {α : Type} (L : List α) (o : Nat) : splice L o ([] : List α) = L := by simp [splice]
theorem splice_cons {α : Type} (L : List α) (o : Nat) (v : α) (r : List α) (h : o + (r.length + 1) ≤ L.length) : splice (L.set o v) (o + 1) r = splice L o (v :: r) := by
 apply List.ext_getElem?
 intro j
 simp only [splice, List.getElem?_append, List.getElem?_take, List.getElem?_drop, List.getElem?_set, List.length_take, List.length_set, List.length_cons]
 by_cases h1 : j < o
 ·have : j < o + 1 := by omega
  have h2 : ¬ o = j := by omega
  have e : min (o + 1) L.length = o + 1 := by omega
  have e2 : min o L.length = o := by omega
  simp [h1, this, h2, e, e2]
 ·by_cases h2 : j = o
  ·subst h2
   have e : min (j + 1) L.length = j + 1 := by omega
   have e2 : min j L.length = j := by omega
   simp [e, e2]
   omega
  ·have e : min (o + 1) L.length = o + 1 := by omega
   have e2 : min o L.length = o := by omega
   have h3 : ¬ j < o + 1 := by omega
   have h4 : j - o = (j - (o + 1)) + 1 := by omega
   simp only [e, e2, h3, h1, if_false]
   rw [h4, List.getElem?_cons_succ]
   by_cases h5 : j - (o + 1) < r.length
   ·have h6 : j - (o + 1) + 1 < r.length + 1 := by omega
    simp [h5, h6]
   ·have h6 : ¬ j - (o + 1) + 1 < r.length + 1 := by omega
    have h7 : ¬ o = o + 1 + r.length + (j - (o + 1) - r.length) := by omega
    simp [h5, h6, h7]
    congr 1
    omega
theorem splice_take {α : Type} (L : List α) (k m : Nat) (vs : List α) (h : k + vs.length ≤ m) (hm : m ≤ L.length) : (splice L k vs).take m = splice (L.take m) k vs := by
 apply List.ext_getElem?
 intro j
 simp only [splice, List.getElem?_append, List.getElem?_take, List.getElem?_drop, List.length_take]
 by_cases h0 : j < m
 ·have e : min k (min m L.length) = min k L.length := by omega
  simp only [e, h0, if_true]
  by_cases h1 : j < min k L.length
  ·have : j < k := by omega
   simp [h1, this]
  ·simp only [h1, if_false]
   by_cases h2 : j - min k L.length < vs.length
   ·simp [h2]
   ·have h3 : k + vs.length + (j - min k L.length - vs.length) < m := by omega
    simp [h2, h3]
 ·have e : min k (min m L.length) = k := by omega
  have h1 : ¬ j < k := by omega
  have h2 : ¬ j - k < vs.length := by omega
  have h3 : ¬ k + vs.length + (j - k - vs.length) < m := by omega
  simp [e, h0, h1, h2, h3]
theorem splice_flatten {α : Type} (size : Nat) : ∀ (xs : List (List α)) (i o : Nat) (vs : List α), (∀ x ∈ xs, x.length = size) → (hi : i < xs.length) → o + vs.length ≤ size →
  (xs.set i (splice xs[i] o vs)).flatten = splice xs.flatten (i * size + o) vs
 | [], i, o, vs, _, hi, _ => by simp at hi
 | x :: xs, 0, o, vs, he, _, h => by
  have hx := he x (by simp)
  simp only [List.set_cons_zero, List.flatten_cons, List.getElem_cons_zero, Nat.zero_mul, Nat.zero_add, splice]
  rw [List.take_append_of_le_length (by omega), List.drop_append_of_le_length (by omega)]
  simp [List.append_assoc]
 | x :: xs, i + 1, o, vs, he, hi, h => by
  have hx := he x (by simp)
  have ih := splice_flatten size xs i o vs (fun y hy => he y (by simp [hy])) (by simpa using hi) h
  simp only [List.set_cons_succ, List.flatten_cons, List.getElem_cons_succ]
  rw [ih]
  have e : (i + 1) * size + o = x.length + (i * size + o) := by rw [hx, Nat.succ_mul]; omega
  rw [e]
  simp only [splice, List.take_length_add_append]
  rw [show x.length + (i * size + o) + vs.length = x.length + (i * size + o + vs.length) by omega, List.drop_length_add_append]
  simp [List.append_assoc]
theorem splice_whole {α : Type} (L vs : List α) (h : vs.length = L.length) : splice L 0 vs = vs := by simp [splice, h]
theorem BlockIs.setCells {t : TypeId} {g : Nat} : ∀ (vs : List Value) (o : Nat) (w : World) (cs : List Value), BlockIs w g cs t → o + vs.length ≤ cs.length → BlockIs (w.setCells g o vs) g (splice cs o vs) t
 | [], o, w, cs, h, _ => by rw [splice_nil]; exact h
 | v :: r, o, w, cs, h, hl => by
  rw [World.setCells, ← splice_cons _ _ _ _ (by simpa using hl)]
  exact BlockIs.setCells r (o + 1) _ _ (h.set o v) (by simp at hl ⊢; omega)
theorem Keep.setCells {F : Nat → Prop} {g : Nat} : ∀ (vs : List Value) (o : Nat) {a w : World}, Keep F a w → (g < a.heap.size → F g) → Keep F a (w.setCells g o vs)
 | [], _, _, _, h, _ => h
 | v :: r, o, _, w, h, hg => Keep.setCells r (o + 1) (h.setCell (p := ⟨g, o, none⟩) hg v) hg
theorem Rows.splice {w : World} {F : Nat → Prop} {e : TypeId} {size : Nat} {xs : List (List Value)} {g n cap : Nat} (h : Rows w F e size (.slice (some ⟨g, 0, none⟩) n cap) xs)
  (i o : Nat) (vs : List Value) (hi : i < xs.length) (hl : o + vs.length ≤ size) : Rows (w.setCells g (i * size + o) vs) F e size (.slice (some ⟨g, 0, none⟩) n cap) (xs.set i (splice xs[i] o vs)) := by
 have hx : xs[i].length = size := h.each _ (List.getElem_mem hi)
 refine ⟨?_, ?_, h.foot⟩
 ·obtain ⟨h1, h2⟩ := h.own
  refine ⟨?_, ?_⟩
  ·rw [splice_flatten size xs i o vs h.each hi hl]
   have : i * size + size ≤ xs.length * size := by rw [← Nat.succ_mul]; exact Nat.mul_le_mul_right _ hi
   rw [length_splice _ _ _ (by omega), h1, List.length_set]
  ·rcases h2 with ⟨h', _⟩ | ⟨g', cap', cur, hv, hb, hg, hn, hc, hs, ht⟩
   ·simp at h'
   ·simp only [Value.slice.injEq, Option.some.injEq, Addr.mk.injEq, and_true, true_and] at hv
    obtain ⟨rfl, rfl, rfl⟩ := hv
    have hle : i * size + size ≤ xs.length * size := by rw [← Nat.succ_mul]; exact Nat.mul_le_mul_right _ hi
    have hle2 : xs.length * size ≤ cap * size := Nat.mul_le_mul_right _ hn
    have hb' : BlockIs w g cur.toList e := by unfold BlockIs; simpa using hg
    have := BlockIs.setCells vs (i * size + o) w _ hb' (by simp; omega)
    refine .inr ⟨g, cap, _, by rw [List.length_set], Nat.zero_le _, this, by simpa using hn, hc, ?_, ?_⟩
    ·rw [List.size_toArray, length_splice _ _ _ (by simp; omega)]; simpa using hs
    ·rw [splice_flatten size xs i o vs h.each hi hl, List.length_set]
     show List.take (xs.length * size) (Go.splice cur.toList (i * size + o) vs) = _
     rw [splice_take _ _ _ _ (by omega) (by simp; omega), ht]
 ·intro x hx'
  rcases List.mem_or_eq_of_mem_set hx' with h' | rfl
  ·exact h.each x h'
  ·rw [length_splice _ _ _ (by omega), hx]
section
variable {P : Program} {ops : Array Oper} {rest : List Oper} {o : Oper} {a : Act} {w : World} {Q : Exit → Act → World → Prop}
theorem wpList_run (hgd : o.guard = none) (v : Value) (w1 : World) (hr : (execOp a.eval o).run P w = .ok (.value v) w1) (h : wpList P ops Q rest (a.put o.dst v) w1) : wpList P ops Q (o :: rest) a w :=
 wpList_plain hgd fun K hK => by unfold Oper.wp; rw [hr]; exact hK _ _ h
/-- A new variable of zeros: 'zs' its cells. -/
theorem wpList_alloc_z (hgd : o.guard = none) (t : TypeId) (ho : o.op = .alloc t) (z : Value) (hz : (P.info? t).map (·.zero) = some (some z)) (zs : List Value) (hzs : z.cells = zs.toArray)
  (h : wpList P ops Q rest (a.put o.dst (.pointer (some ⟨w.heap.size, 0, none⟩))) (w.alloc (.cells zs.toArray t))) : wpList P ops Q (o :: rest) a w := by
 refine wpList_run hgd (.pointer (some ⟨w.heap.size, 0, none⟩)) (w.alloc (.cells zs.toArray t)) ?_ h
 cases hq : P.info? t with
 | none => simp [hq] at hz
 | some i =>
  have hi : i.zero = some z := by simpa [hq] using hz
  simp [execOp, ho, Instr.alloc, zeroValue, typeInfo, hq, hi, newVar, newRow, hzs]
/-- A variable that is made out of a value: 'cs' its cells. -/
theorem wpList_box_z (hgd : o.guard = none) (t : TypeId) (x : Operand) (ho : o.op = .box t x) (cs : List Value) (hx : (a.eval x).cells = cs.toArray)
  (h : wpList P ops Q rest (a.put o.dst (.pointer (some ⟨w.heap.size, 0, none⟩))) (w.alloc (.cells cs.toArray t))) : wpList P ops Q (o :: rest) a w := by
 refine wpList_run hgd (.pointer (some ⟨w.heap.size, 0, none⟩)) (w.alloc (.cells cs.toArray t)) ?_ h
 simp [execOp, ho, Instr.box, newVar, newRow, hx]
/-- copy of bytes: 'cs' is what goes over. -/
theorem run_copy_any (dT sT ty elem : TypeId) (d s : Option Addr) (dLen dCap sLen sCap : Nat) (cs : List Value) (b k : Nat)
  (hu : P.underlying dT = some (.slice elem)) (hs : (P.info? elem).map (·.size) = some 1) (hn : cs.length = Nat.min sLen dLen)
  (hd : 0 < cs.length → d = some ⟨b, k, none⟩) (hsrc : ∀ j v, cs[j]? = some v → ∃ ad, s = some ad ∧ w.cell? (ad.add j) = some v) (ht : w.there b k cs.length) (h1 : ∀ v ∈ cs, v.oneCell' = true) :
  (Builtin.copy_ #[dT, sT] ty #[.slice d dLen dCap, .slice s sLen sCap]).run P w = .ok (goInt cs.length) (w.setCells b k cs) := by
 by_cases h0 : cs.length = 0
 ·obtain rfl : cs = [] := List.eq_nil_of_length_eq_zero h0
  exact run_copy_none w dT sT ty elem d s dLen dCap sLen sCap hu hs (by simpa using hn.symm)
 ·have hd' := hd (by omega)
  obtain ⟨ad, rfl, _⟩ := hsrc 0 cs[0] (List.getElem?_eq_getElem (by omega))
  subst hd'
  refine run_copy_cells w dT sT ty elem b k dLen dCap ad sLen sCap cs hu hs hn (fun j v hv => ?_) (fun j hj => (ht j hj).1) (fun j hj => (ht j hj).2) h1
  obtain ⟨ad', e, hc⟩ := hsrc j v hv
  simp only [Option.some.injEq] at e
  subst e; exact hc
theorem exec_copy (d s : Operand) (dT sT : TypeId) (ho : o.op = .call { callee := .builtin .copy, args := #[d, s], argTypes := #[dT, sT] }) {vd vs r : Value} {w1 : World}
  (hd : a.eval d = vd) (hs : a.eval s = vs) (hr : (Builtin.copy_ #[dT, sT] o.type #[vd, vs]).run P w = .ok r w1) : (execOp a.eval o).run P w = .ok (.value r) w1 := by
 simp [execOp, ho, resolve, invoke, builtin, hd, hs, hr, Result.andThen]
theorem wpList_copy_any (hgd : o.guard = none) (d s : Operand) (dT sT : TypeId) (ho : o.op = .call { callee := .builtin .copy, args := #[d, s], argTypes := #[dT, sT] })
  (elem : TypeId) (hu : P.underlying dT = some (.slice elem)) (hsz : (P.info? elem).map (·.size) = some 1)
  (dp sp : Option Addr) (dLen dCap sLen sCap : Nat) (hd : a.eval d = .slice dp dLen dCap) (hs : a.eval s = .slice sp sLen sCap) (cs : List Value) (b k : Nat)
  (hn : cs.length = Nat.min sLen dLen) (hdp : 0 < cs.length → dp = some ⟨b, k, none⟩) (hsrc : ∀ j v, cs[j]? = some v → ∃ ad, sp = some ad ∧ w.cell? (ad.add j) = some v) (ht : w.there b k cs.length) (h1 : ∀ v ∈ cs, v.oneCell' = true)
  (h : wpList P ops Q rest (a.put o.dst (goInt cs.length)) (w.setCells b k cs)) : wpList P ops Q (o :: rest) a w :=
 wpList_run hgd _ _ (exec_copy d s dT sT ho hd hs (run_copy_any dT sT o.type elem dp sp dLen dCap sLen sCap cs b k hu hsz hn hdp hsrc ht h1)) h
/-- A row of one element, written out. -/
theorem run_buildSlice1 (T E : TypeId) (x : Value) (hT : P.underlying T = some (.slice E)) (size : Nat) (z : Value) (hi : (P.info? E).map (fun i => (i.zero, i.size)) = some (some z, size)) (hz : z.cells.size = size) (h0 : 0 < size) (hm : size ≤ 16777216)
  (cs : List Value) (hx : x.cells = cs.toArray) (hl : cs.length = size) :
  (Instr.buildSlice T 1 #[(0, x)]).run P w = .ok (.slice (some ⟨w.heap.size, 0, none⟩) 1 1) (w.alloc (.cells cs.toArray E)) := by
 cases hq : P.info? E with
 | none => simp [hq] at hi
 | some i =>
  have hi' : i.zero = some z ∧ i.size = size := by simpa [hq] using hi
  have key : ∀ (l : List Value) (k : Nat) (A : Array Value), k + l.length ≤ A.size → (l.zipIdx k).foldl (fun cs (p : Value × Nat) => cs.setIfInBounds (0 + p.2) p.1) A = (Go.splice A.toList k l).toArray := by
   intro l
   induction l with
   | nil => intro k A _; simp [splice_nil]
   | cons v l ih =>
    intro k A hk
    simp only [List.length_cons] at hk
    rw [List.zipIdx_cons, List.foldl_cons, ih (k + 1) _ (by simp; omega)]
    simp only [Nat.zero_add, Array.toList_setIfInBounds]
    rw [splice_cons _ _ _ _ (by simp; omega)]
  have hs : Go.splice ((Array.range (1 * size)).map (z.cells[· % z.cells.size]!)).toList 0 cs = cs := splice_whole _ _ (by simp [hl])
  have hkey := key cs 0 ((Array.range (1 * size)).map (z.cells[· % z.cells.size]!)) (by simp; omega)
  rw [hs] at hkey
  have hz0 : ¬ (1 * size = 0) := by omega
  have hbig : ¬ (1 * size > 2 ^ 24) := by omega
  simp only [Nat.one_mul] at hkey hz0 hbig
  have hfill : Instr.fill (fun i => some (i * size, size)) (Array.map (fun x => z.cells[x % z.cells.size]!) (Array.range size)) [(0, x)] = some cs.toArray := by
   simp only [Instr.fill, hx, List.size_toArray, hl, Nat.zero_mul, Nat.zero_add, Array.size_map, Array.size_range, ne_eq, not_true_eq_false, decide_false, Bool.false_or, gt_iff_lt, Nat.lt_irrefl, Bool.false_eq_true, if_false, Option.some.injEq]
   have e : (cs.toArray.zipIdx).foldl (fun cs (p : Value × Nat) => cs.setIfInBounds (0 + p.2) p.1) (Array.map (fun x => z.cells[x % z.cells.size]!) (Array.range size)) = cs.toArray := by
    rw [← Array.foldl_toList, show cs.toArray.zipIdx.toList = cs.zipIdx by simp]
    exact hkey
   simpa using e
  simp [Instr.buildSlice, run_underlying hT, sizeOf, typeInfo, hq, hi'.1, hi'.2, hz0, hbig, zeroValue, newRow, hfill]
end
/-- What is read from an address on: the cells cs. -/
def Reads (w : World) (A : Option Addr) (cs : List Value) : Prop := ∀ j u, cs[j]? = some u → ∃ ad, A = some ad ∧ w.cell? (ad.add j) = some u
theorem Reads.nil (w : World) (A : Option Addr) : Reads w A [] := fun j u h => by simp at h
theorem Reads.of_range {w : World} {g o : Nat} {cs : List Value} (h : w.rangeAt g o cs) : Reads w (some ⟨g, o, none⟩) cs := fun j u hu => ⟨_, rfl, by rw [Addr.add_mid]; exact h j u hu⟩
theorem Reads.keep {w w' : World} {F : Nat → Prop} {A : Option Addr} {cs : List Value} (h : Reads w A cs) (hk : Keep F w w') (hd : ∀ ad, A = some ad → ¬ F ad.block) : Reads w' A cs := fun j u hu => by
 obtain ⟨ad, rfl, hc⟩ := h j u hu
 have hb : (ad.add j).block = ad.block := by unfold Addr.add; split <;> rfl
 refine ⟨ad, rfl, ?_⟩
 have hlt := World.block_lt_of_cell? w _ hc
 rw [World.cell?_of_block (hk.block _ hlt (by rw [hb]; exact hd ad rfl))]
 exact hc
theorem rd_of_own {w : World} {F : Nat → Prop} {e : TypeId} {size : Nat} {A : Option Addr} {n c : Nat} {xs : List (List Value)} (h : Rows w F e size (.slice A n c) xs) : Reads w A xs.flatten := by
 intro j u hu
 rcases h.own.2 with ⟨_, h0⟩ | ⟨g, cap, cur, hv, _, hg, hn, _, hs, ht⟩
 ·have hj : j < xs.flatten.length := (List.getElem?_eq_some_iff.1 hu).1
  rw [h.own.1, h0] at hj; omega
 ·simp only [Value.slice.injEq] at hv
  obtain ⟨rfl, hn', rfl⟩ := hv
  refine ⟨_, rfl, ?_⟩
  rw [Addr.add_mid, Nat.zero_add, cell_of_row w g j cur e (0, 0) hg, ← Array.getElem?_toList]
  rw [← ht, List.getElem?_take] at hu
  split at hu
  ·exact hu
  ·cases hu
section
variable {P : Program} {w : World}
theorem run_append_rows (t ty e : TypeId) (z : Value) (size bytes : Nat) (ht : P.underlying t = some (.slice e)) (hinfo : (P.info? e).map (fun i => (i.zero, i.size, i.bytes)) = some (some z, size, bytes)) (hz : z.cells.size = size) (h0 : 0 < size) (hb0 : 0 < bytes)
  (F : Nat → Prop) (v : Value) (xs news : List (List Value)) (H : Rows w F e size v xs) (A : Option Addr) (m c : Nat) (hm : news.length = m) (hA : A = none → c = 0)
  (hnl : ∀ y ∈ news, y.length = size) (hnews : Reads w A news.flatten) (h1 : ∀ u ∈ news.flatten, u.oneCell' = true) (hbytes : (xs.length + m) * bytes ≤ 140737488355328) :
  ∃ v' w', (Builtin.append_ #[t, t] ty #[v, .slice A m c]).run P w = .ok v' w' ∧ Rows w' (fun k => v.ownBlock = some k ∨ (w.heap.size ≤ k ∧ k < w'.heap.size)) e size v' (xs ++ news) ∧ Keep (fun k => v.ownBlock = some k) w w' := by
 obtain ⟨i0, hi, hzz⟩ := Option.map_eq_some_iff.1 hinfo
 simp only [Prod.mk.injEq] at hzz
 obtain ⟨hz0, hz1, hz2⟩ := hzz
 have hlen : xs.length + m ≤ 140737488355328 := Nat.le_trans (Nat.le_mul_of_pos_right _ hb0) hbytes
 have hfl : ∀ (l : List (List Value)), (∀ y ∈ l, y.length = size) → l.flatten.length = l.length * size := by
  intro l
  induction l with
  | nil => intro _; simp
  | cons y l ih => intro hl; rw [List.flatten_cons, List.length_append, ih (fun z hz => hl z (by simp [hz])), hl y (by simp), List.length_cons, Nat.succ_mul]; omega
 have heach : ∀ x ∈ xs ++ news, x.length = size := fun x hx => by
  rcases List.mem_append.1 hx with h | h
  ·exact H.each x h
  ·exact hnl x h
 rcases A with _ | ad
 ·have hm0 : m = 0 := by
   rcases Nat.eq_zero_or_pos m with h | h
   ·exact h
   ·exfalso
    have hp : 0 < news.flatten.length := by rw [hfl _ hnl, hm]; exact Nat.mul_pos h h0
    obtain ⟨ad, h', _⟩ := hnews 0 news.flatten[0] (List.getElem?_eq_getElem hp)
    cases h'
  subst hm0
  obtain rfl : c = 0 := hA rfl
  obtain rfl : news = [] := List.eq_nil_of_length_eq_zero hm
  refine ⟨v, w, run_append_owned_none w 0 t ty e i0 size ht hi v _ _ H.own, ?_, Keep.refl _ _⟩
  rw [List.append_nil]
  exact ⟨H.own, H.each, fun k hk => .inl hk⟩
 ·obtain ⟨v', w', hr, h2, h3, _, h5⟩ := run_append_own_at (P := P) w 0 t ty e i0 z size bytes ht hi hz0 hz1 hz2 hz h0 v xs.length xs.flatten H.own ad m c news.flatten (by rw [hfl _ hnl, hm])
   (fun j u hu => by obtain ⟨ad', e', hc⟩ := hnews j u hu; injection e' with e'; subst e'; exact hc) h1 (by simp only [maxLen]; omega) hbytes (Nat.zero_le _)
  refine ⟨v', w', hr, ⟨?_, heach, ?_⟩, ⟨h3.os, h3.tape, h3.output, h3.size, fun k hk hn => h3.block k hk (fun e => hn e.symm)⟩⟩
  ·rw [List.length_append, hm, List.flatten_append]; exact h2
  ·intro k hk
   rcases h5 with h5 | h5
   ·exact .inl (h5 ▸ hk)
   ·rw [h5] at hk
    simp only [Option.some.injEq] at hk
    subst hk
    exact .inr ⟨Nat.le_refl _, (h2.lt _ h5).2⟩
theorem exec_append {o : Oper} {a : Act} (s x : Operand) (t : TypeId) (ho : o.op = .call { callee := .builtin .append, args := #[s, x], argTypes := #[t, t] }) {vd vs r : Value} {w1 : World}
  (hd : a.eval s = vd) (hs : a.eval x = vs) (hr : (Builtin.append_ #[t, t] o.type #[vd, vs]).run P w = .ok r w1) : (execOp a.eval o).run P w = .ok (.value r) w1 := by
 simp [execOp, ho, resolve, invoke, builtin, hd, hs, hr, Result.andThen]
theorem wpList_append_rows {ops : Array Oper} {rest : List Oper} {o : Oper} {a : Act} {Q : Exit → Act → World → Prop} (hgd : o.guard = none) (s x : Operand) (t : TypeId) (ho : o.op = .call { callee := .builtin .append, args := #[s, x], argTypes := #[t, t] })
  (e : TypeId) (z : Value) (size bytes : Nat) (ht : P.underlying t = some (.slice e)) (hinfo : (P.info? e).map (fun i => (i.zero, i.size, i.bytes)) = some (some z, size, bytes)) (hz : z.cells.size = size) (h0 : 0 < size) (hb0 : 0 < bytes)
  (F : Nat → Prop) (v : Value) (xs news : List (List Value)) (hs : a.eval s = v) (H : Rows w F e size v xs) (A : Option Addr) (m c : Nat) (hx : a.eval x = .slice A m c) (hm : news.length = m) (hA : A = none → c = 0)
  (hnl : ∀ y ∈ news, y.length = size) (hnews : Reads w A news.flatten) (h1 : ∀ u ∈ news.flatten, u.oneCell' = true) (hbytes : (xs.length + m) * bytes ≤ 140737488355328)
  (h : ∀ v' w', Rows w' (fun k => v.ownBlock = some k ∨ (w.heap.size ≤ k ∧ k < w'.heap.size)) e size v' (xs ++ news) → Keep (fun k => v.ownBlock = some k) w w' → wpList P ops Q rest (a.put o.dst v') w') : wpList P ops Q (o :: rest) a w := by
 obtain ⟨v', w', hr, h2, h3⟩ := run_append_rows (P := P) (w := w) t o.type e z size bytes ht hinfo hz h0 hb0 F v xs news H A m c hm hA hnl hnews h1 hbytes
 exact wpList_run hgd _ _ (exec_append s x t ho hs hx hr) (h v' w' h2 h3)
/-- An empty row of the call's own. -/
theorem Rows.empty (w : World) (e : TypeId) (size : Nat) : Rows (w.alloc (.cells #[] e)) (fun k => k = w.heap.size) e size (.slice (some ⟨w.heap.size, 0, none⟩) 0 0) [] :=
 ⟨World.ownsRow_made w #[] 0 (Nat.zero_le _) (Nat.zero_le _) (by simp), by simp, fun k hk => by simp only [Value.ownBlock, Option.some.injEq] at hk; exact hk.symm⟩
end
theorem madeCells_flatten (z : List Value) (size n : Nat) (hz : z.length = size) (h0 : 0 < size) : (madeCells z.toArray (n * size)).toList = (List.replicate n z).flatten := by
 apply List.ext_getElem?
 intro j
 have hfl : (List.replicate n z).flatten.length = n * size := by simp [hz]
 by_cases hj : j < n * size
 ·have hdiv : j / size < n := Nat.div_lt_of_lt_mul (by rw [Nat.mul_comm]; exact hj)
  have hmod : j % size < size := Nat.mod_lt _ h0
  have := flatten_at size (List.replicate n z) (j / size) (fun x hx => by rw [List.eq_of_mem_replicate hx]; exact hz) (by simpa using hdiv) (j % size) z[j % size] (by simp [List.getElem?_eq_getElem (show j % size < z.length by omega)])
  rw [show j / size * size + j % size = j by rw [Nat.mul_comm]; exact Nat.div_add_mod j size] at this
  rw [this]
  simp [madeCells, hj, hz, List.getElem!_eq_getElem?_getD, List.getElem?_eq_getElem (show j % size < z.length by omega)]
 ·have hm : (madeCells z.toArray (n * size)).toList.length = n * size := by simp [madeCells]
  rw [List.getElem?_eq_none (by rw [hm]; omega), List.getElem?_eq_none (by rw [hfl]; omega)]
theorem Rows.made {w' : World} {e : TypeId} {size n g : Nat} {z : List Value} (hz : z.length = size) (h0 : 0 < size)
  (h : w'.ownsRow 0 e size (.slice (some ⟨g, 0, none⟩) n n) n (madeCells z.toArray (n * size)).toList) : Rows w' (fun k => k = g) e size (.slice (some ⟨g, 0, none⟩) n n) (List.replicate n z) :=
 ⟨by rw [List.length_replicate, ← madeCells_flatten z size n hz h0]; exact h, fun x hx => by rw [List.eq_of_mem_replicate hx]; exact hz, fun k hk => by simp only [Value.ownBlock, Option.some.injEq] at hk; exact hk.symm⟩
section
variable {P : Program} {ops : Array Oper} {rest : List Oper} {o : Oper} {a : Act} {w : World} {Q : Exit → Act → World → Prop}
theorem wpList_alloc_v (hgd : o.guard = none) (t : TypeId) (ho : o.op = .alloc t) (z : Value) {size bytes : Nat} (hz : (P.info? t).map (fun i => (i.zero, i.size, i.bytes)) = some (some z, size, bytes)) (zs : List Value) (hzs : z.cells = zs.toArray)
  (h : ∀ b w1, w.heap.size ≤ b → BlockIs w1 b zs t → Keep Noth w w1 → wpList P ops Q rest (a.put o.dst (.pointer (some ⟨b, 0, none⟩))) w1) : wpList P ops Q (o :: rest) a w := by
 refine wpList_alloc_z hgd t ho z ?_ zs hzs (h _ _ (Nat.le_refl _) (BlockIs.new w zs t) ((Keep.refl _ _).alloc _))
 cases hq : P.info? t with
 | none => simp [hq] at hz
 | some i => simp [hq] at hz ⊢; exact hz.1
theorem wpList_box_v (hgd : o.guard = none) (t : TypeId) (x : Operand) (ho : o.op = .box t x) (cs : List Value) (hx : (a.eval x).cells = cs.toArray)
  (h : ∀ b w1, w.heap.size ≤ b → BlockIs w1 b cs t → Keep Noth w w1 → wpList P ops Q rest (a.put o.dst (.pointer (some ⟨b, 0, none⟩))) w1) : wpList P ops Q (o :: rest) a w :=
 wpList_box_z hgd t x ho cs hx (h _ _ (Nat.le_refl _) (BlockIs.new w cs t) ((Keep.refl _ _).alloc _))
theorem BlockIs.there {b : Nat} {cs : List Value} {t : TypeId} (h : BlockIs w b cs t) (k n : Nat) (hn : k + n ≤ cs.length) : w.there b k n := fun j hj =>
 ⟨by rw [h.cell, List.getElem?_eq_getElem (show k + j < cs.length by omega)]; rfl, h.frozen _⟩
theorem info_size {e : TypeId} {z : Option Value} {size bytes : Nat} (h : (P.info? e).map (fun i => (i.zero, i.size, i.bytes)) = some (z, size, bytes)) : (P.info? e).map (·.size) = some size := by
 cases hq : P.info? e with
 | none => simp [hq] at h
 | some i => simp [hq] at h ⊢; exact h.2.1
/-- What store does, of a value of several cells. -/
theorem run_store_there (ty : TypeId) (b k : Nat) (cs : List Value) {z : Option Value} {bytes : Nat} (ht : w.there b k cs.length) (hi : (P.info? ty).map (fun i => (i.zero, i.size, i.bytes)) = some (z, cs.length, bytes)) (h1 : ∀ u ∈ cs, u.oneCell' = true) :
  (Instr.storeAt ty (.pointer (some ⟨b, k, none⟩)) (.agg cs.toArray)).run P w = .ok () (w.setCells b k cs) := by
 have := run_storeAt_mid (P := P) w b k ty cs.toArray (by simpa using ht) (by simpa using info_size hi) (all_oneCell_toArray h1)
 simpa using this
theorem wpList_store_there (hgd : o.guard = none) (ty : TypeId) (x y : Operand) (ho : o.op = .store ty x y) (b k : Nat) (cs : List Value) {z : Option Value} {bytes : Nat}
  (hx : a.eval x = .pointer (some ⟨b, k, none⟩)) (hy : a.eval y = .agg cs.toArray) (ht : w.there b k cs.length) (hi : (P.info? ty).map (fun i => (i.zero, i.size, i.bytes)) = some (z, cs.length, bytes)) (h1 : ∀ u ∈ cs, u.oneCell' = true)
  (h : wpList P ops Q rest (a.put o.dst undef) (w.setCells b k cs)) : wpList P ops Q (o :: rest) a w := by
 refine wpList_store_mid hgd ty x y ho b k cs.toArray hx hy (by simpa using ht) (by simpa using info_size hi) (all_oneCell_toArray h1) (by simpa using h)
/-- A whole variable is stored into. -/
theorem wpList_store_whole (hgd : o.guard = none) (ty : TypeId) (x y : Operand) (ho : o.op = .store ty x y) (b : Nat) (zs cs : List Value) (t : TypeId) {z : Option Value} {bytes : Nat}
  (hx : a.eval x = .pointer (some ⟨b, 0, none⟩)) (hy : a.eval y = .agg cs.toArray) (hb : BlockIs w b zs t) (hl : cs.length = zs.length) (hi : (P.info? ty).map (fun i => (i.zero, i.size, i.bytes)) = some (z, cs.length, bytes)) (h1 : ∀ u ∈ cs, u.oneCell' = true)
  (h : ∀ w1, BlockIs w1 b cs t → Keep (Only b) w w1 → wpList P ops Q rest (a.put o.dst undef) w1) : wpList P ops Q (o :: rest) a w := by
 refine wpList_store_there hgd ty x y ho b 0 cs hx hy (hb.there 0 _ (by omega)) hi h1 (h _ ?_ (Keep.setCells _ _ (Keep.refl _ _) (fun _ => rfl)))
 have := BlockIs.setCells cs 0 w zs hb (by omega)
 rwa [splice_whole _ _ hl] at this
theorem eval_put_at (a : Act) (d : Nat) (p : Value) (h : d < a.tmps.size) : (a.put (some d) p).eval (.tmp d) = p := by simp [Act.put, Act.eval, h]
/-- A new variable, and what it is given at once. -/
theorem wpList_alloc_store {o2 : Oper} (hgd : o.guard = none) (t : TypeId) (ho : o.op = .alloc t) (d s : Nat) (hd : o.dst = some d) (hsz : Nat.blt d a.tmps.size = true) (hg2 : o2.guard = none) (ho2 : o2.op = .store t (.tmp d) (.tmp s)) (hne : d ≠ s)
  (z : Value) {bytes : Nat} (cs : List Value) (hz : (P.info? t).map (fun i => (i.zero, i.size, i.bytes)) = some (some z, cs.length, bytes))
  (zs : List Value) (hzs : z.cells = zs.toArray) (hl : cs.length = zs.length) (hy : a.eval (.tmp s) = .agg cs.toArray) (h1 : ∀ u ∈ cs, u.oneCell' = true)
  (h : ∀ b w1, w.heap.size ≤ b → BlockIs w1 b cs t → Keep Noth w w1 → wpList P ops Q rest ((a.put o.dst (.pointer (some ⟨b, 0, none⟩))).put o2.dst undef) w1) : wpList P ops Q (o :: o2 :: rest) a w := by
 refine wpList_alloc_v hgd t ho z hz zs hzs fun b w1 hb B1 K1 => ?_
 refine wpList_store_whole hg2 t _ _ ho2 b zs cs t (by rw [hd]; exact eval_put_at a d _ (by rwa [Nat.blt_eq] at hsz)) (by rw [hd, Act.eval_put (fun e he => by injection he with he; subst he; intro h; injection h with h; exact hne h.symm)]; exact hy) B1 hl hz h1 fun w2 B2 K2 => h b w2 hb B2 (K1.trans K2 (fun i hi e => by unfold Only at e; omega))
/-- An element of a row is stored into. -/
theorem wpList_store_row (hgd : o.guard = none) (ty : TypeId) (x y : Operand) (ho : o.op = .store ty x y) (F : Nat → Prop) (e : TypeId) (size : Nat) (g n cap : Nat) (xs : List (List Value)) (i off : Nat) (cs : List Value) {z : Option Value} {bytes : Nat}
  (H : Rows w F e size (.slice (some ⟨g, 0, none⟩) n cap) xs) (hi0 : i < xs.length) (hoff : off = i * size) (hx : a.eval x = .pointer (some ⟨g, off, none⟩)) (hy : a.eval y = .agg cs.toArray) (hl : cs.length = size)
  (hi : (P.info? ty).map (fun i => (i.zero, i.size, i.bytes)) = some (z, size, bytes)) (h1 : ∀ u ∈ cs, u.oneCell' = true)
  (h : ∀ w1, Rows w1 F e size (.slice (some ⟨g, 0, none⟩) n cap) (xs.set i cs) → Keep (Only g) w w1 → wpList P ops Q rest (a.put o.dst undef) w1) : wpList P ops Q (o :: rest) a w := by
 subst hoff
 refine wpList_store_there hgd ty x y ho g (i * size) cs hx hy (by rw [hl]; exact H.there i hi0) (by rw [hl]; exact hi) h1 (h _ ?_ (Keep.setCells _ _ (Keep.refl _ _) (fun _ => rfl)))
 have := H.splice i 0 cs hi0 (by omega)
 rwa [splice_whole _ _ (by rw [hl]; exact (H.each _ (List.getElem_mem hi0)).symm), Nat.add_zero] at this
theorem wpList_load_row' (hgd : o.guard = none) (ty : TypeId) (x : Operand) (ho : o.op = .load ty x) (F : Nat → Prop) (e : TypeId) (size : Nat) (g n cap : Nat) (xs : List (List Value)) (i off : Nat) (cs : List Value) (d : TypeDesc) {z : Option Value} {bytes : Nat}
  (H : Rows w F e size (.slice (some ⟨g, 0, none⟩) n cap) xs) (hi0 : i < xs.length) (hcs : xs[i] = cs) (hoff : off = i * size) (hx : a.eval x = .pointer (some ⟨g, off, none⟩))
  (hu : P.underlying ty = some d) (hd : d.isRow = true) (hi : (P.info? ty).map (fun i => (i.zero, i.size, i.bytes)) = some (z, size, bytes))
  (h : wpList P ops Q rest (a.put o.dst (.agg cs.toArray)) w) : wpList P ops Q (o :: rest) a w := by
 subst hoff
 subst hcs
 obtain ⟨g', cap', hv, _, hr⟩ := H.at (by omega)
 simp only [Value.slice.injEq, Option.some.injEq, Addr.mk.injEq, and_true, true_and] at hv
 obtain ⟨rfl, rfl, rfl⟩ := hv
 exact wpList_load_mid hgd ty x ho g (i * size) hx _ d (hr i hi0) hu hd (by rw [H.each _ (List.getElem_mem hi0)]; exact info_size hi) h
/-- A variable, or a part of it, is loaded. -/
theorem wpList_load_blk (hgd : o.guard = none) (ty : TypeId) (x : Operand) (ho : o.op = .load ty x) (b k : Nat) (zs cs : List Value) (t : TypeId) (d : TypeDesc) {z : Option Value} {bytes : Nat}
  (hx : a.eval x = .pointer (some ⟨b, k, none⟩)) (hb : BlockIs w b zs t) (hc : ∀ j v, cs[j]? = some v → zs[k + j]? = some v)
  (hu : P.underlying ty = some d) (hd : d.isRow = true) (hi : (P.info? ty).map (fun i => (i.zero, i.size, i.bytes)) = some (z, cs.length, bytes))
  (h : wpList P ops Q rest (a.put o.dst (.agg cs.toArray)) w) : wpList P ops Q (o :: rest) a w :=
 wpList_load_mid hgd ty x ho b k hx cs d (hb.range k cs hc) hu hd (info_size hi) h
/-- Bytes copied into a variable. -/
theorem wpList_copy_blk (hgd : o.guard = none) (d s : Operand) (dT sT : TypeId) (ho : o.op = .call { callee := .builtin .copy, args := #[d, s], argTypes := #[dT, sT] })
  (elem : TypeId) (hu : P.underlying dT = some (.slice elem)) (hsz : (P.info? elem).map (·.size) = some 1)
  (b k : Nat) (sp : Option Addr) (dLen dCap sLen sCap : Nat) (hd : a.eval d = .slice (some ⟨b, k, none⟩) dLen dCap) (hs : a.eval s = .slice sp sLen sCap) (cs zs : List Value) (t : TypeId) (hb : BlockIs w b zs t)
  (hn : cs.length = Nat.min sLen dLen) (hsrc : Reads w sp cs) (hfit : k + cs.length ≤ zs.length) (h1 : ∀ v ∈ cs, v.oneCell' = true)
  (h : ∀ w1, BlockIs w1 b (splice zs k cs) t → Keep (Only b) w w1 → wpList P ops Q rest (a.put o.dst (goInt cs.length)) w1) : wpList P ops Q (o :: rest) a w :=
 wpList_copy_any hgd d s dT sT ho elem hu hsz _ sp dLen dCap sLen sCap hd hs cs b k hn (fun _ => rfl) hsrc (hb.there k _ hfit) h1 (h _ (BlockIs.setCells cs k w zs hb hfit) (Keep.setCells _ _ (Keep.refl _ _) (fun _ => rfl)))
end
theorem part0 {α : Type} (zs : List α) : ∀ j v, zs[j]? = some v → zs[0 + j]? = some v := fun j v h => by rwa [Nat.zero_add]
theorem part1 {α : Type} (x : α) (zs : List α) : ∀ j v, zs[j]? = some v → (x :: zs)[1 + j]? = some v := fun j v h => by rwa [Nat.add_comm, List.getElem?_cons_succ]
section
variable {P : Program} {ops : Array Oper} {S : World → Prop}
/-- The region's end, and nothing else. -/
def Qn (Q : Act → World → Prop) : Exit → Act → World → Prop
 | .normal, a, w => Q a w
 | _, _, _ => False
/-- 'true': it yields its value in every world that meets S; 'false': it is carried out, and S holds behind it. -/
def wpOrd (P : Program) (ops : Array Oper) (Q : Act → World → Prop) (S : World → Prop) : List (Nat × Bool) → Act → World → Prop
 | [], a, w => Q a w
 | (i, true) :: r, a, w => ∃ o v, ops[i]? = some o ∧ YieldsIf P ops S o v a ∧ wpOrd P ops Q S r (a.put o.dst v) w
 | (i, false) :: r, a, w => wpOp P ops (Qn Q) i (fun a' w' => S w' ∧ wpOrd P ops Q S r a' w') a w
def ordB (md : Region.Mode) (ops : Array Oper) : List (Nat × Bool) → Array Bool → Bool
 | [], listed => (Region.ready md ops listed).isEmpty
 | (i, true) :: r, listed => (Region.ready md ops listed).contains i && Region.free md ops listed i && ordB md ops r (listed.setIfInBounds i true)
 | (i, false) :: r, listed => decide (Region.ready md ops listed = [i]) && ordB md ops r (listed.setIfInBounds i true)
theorem wpOrd_sound {md : Region.Mode} {Q : Act → World → Prop} (hs : Region.noSelect ops = true) : ∀ (ord : List (Nat × Bool)) (listed : Array Bool) (a : Act) (w : World), ordB md ops ord listed = true → S w →
  wpOrd P ops Q S ord a w → wpAnyH P md ops (Qn Q) S ord.length listed a w
 | [], listed, a, w, hB, _, h => wpAnyH_done (by simpa [ordB, List.isEmpty_iff] using hB) h _
 | (i, true) :: r, listed, a, w, hB, hS, h => by
  obtain ⟨o, v, hi, hy, h'⟩ := h
  simp only [ordB, Bool.and_eq_true] at hB
  exact wpAnyH_take hi hs hB.1.2 hB.1.1 (fun _ _ _ h => h.elim) hy hS (wpOrd_sound hs r _ _ _ hB.2 hS h')
 | (i, false) :: r, listed, a, w, hB, hS, h => by
  simp only [ordB, Bool.and_eq_true, decide_eq_true_eq] at hB
  refine wpAnyH_all hB.1 (by simp) fun j hj => ?_
  have : j = i := by simpa using hj
  subst this
  exact wpOp_mono (fun a' w' h' => ⟨h'.1, wpOrd_sound hs r _ _ _ hB.2 h'.1 h'.2⟩) h
/-- 'wpAnyH', but that S is not asked behind the last operation, number n. -/
def wpAnyK (P : Program) (md : Region.Mode) (ops : Array Oper) (Q : Exit → Act → World → Prop) (S : World → Prop) (n : Nat) : Nat → Array Bool → Act → World → Prop
 | 0, listed, a, w => Region.ready md ops listed = [] ∧ Q .normal a w
 | fuel + 1, listed, a, w =>
  (Region.ready md ops listed = [] → Q .normal a w) ∧
  ∀ i ∈ Region.ready md ops listed, wpOp P ops Q i (fun a' w' => (i = n ∨ S w') ∧ wpAnyK P md ops Q S n fuel (listed.setIfInBounds i true) a' w') a w
theorem wpAny_of_K {md : Region.Mode} {Q : Exit → Act → World → Prop} {n : Nat} : ∀ (fuel : Nat) (listed : Array Bool) (a : Act) (w : World), wpAnyK P md ops Q S n fuel listed a w → wpAny P md ops Q fuel listed a w
 | 0, _, _, _, h => h
 | fuel + 1, _, _, _, h => ⟨h.1, fun i hi => wpOp_mono (fun a' w' h' => wpAny_of_K fuel _ a' w' h'.2) (h.2 i hi)⟩
theorem wpAnyK_first {md : Region.Mode} {Q : Exit → Act → World → Prop} {n i : Nat} {oi : Oper} {v : Value} (hi : ops[i]? = some oi) (hsel : ∀ (j : Nat) (o : Oper) cs b, ops[j]? = some o → o.op ≠ .select cs b)
  (hQ : ∀ c a w, Q (.panic c) (a.put oi.dst v) w → Q (.panic c) a w) (hs : Region.sinkB md ops n = true) (hc : Region.chainB md ops n = true) (hn : n < ops.size) (hin : i < n) :
  ∀ (fuel : Nat) (listed : Array Bool) (a : Act) (w : World), HeadInv md ops n listed →
   (∀ j oj, ops[j]? = some oj → j ≠ i → listed.getD j true = false → (∀ e ∈ oj.after, Region.binds md e = true → e.on ≠ i) → oi.apart ops oj = true) →
   i ∈ Region.ready md ops listed → YieldsIf P ops S oi v a → S w →
   wpAnyK P md ops Q S n fuel (listed.setIfInBounds i true) (a.put oi.dst v) w → wpAnyK P md ops Q S n (fuel + 1) listed a w := by
 intro fuel
 induction fuel with
 | zero =>
  intro listed a w inv _ hr hy hS H
  refine ⟨fun h => (by rw [h] at hr; cases hr), fun j hj => ?_⟩
  by_cases hji : j = i
  ·subst hji; exact hy.wpOp hi hS ⟨.inr hS, H⟩
  ·have := ready_mono hj hji
   rw [H.1] at this
   cases this
 | succ fuel ih =>
  intro listed a w inv hfree hr hy hS H
  have hun := (mem_ready.1 hr).1
  refine ⟨fun h => (by rw [h] at hr; cases hr), fun j hj => ?_⟩
  by_cases hji : j = i
  ·subst hji; exact hy.wpOp hi hS ⟨.inr hS, H⟩
  ·have hjn : j < n := by
    rcases Nat.lt_or_ge j n with h | h
    ·exact h
    ·exact absurd hj (tail_waits hs hc hn inv _ i rfl hin hun j h)
   have h1 := H.2 j (ready_mono hj hji)
   obtain ⟨hjun, oj, hoj, hall⟩ := mem_ready.1 hj
   have hnot : ∀ e ∈ oj.after, Region.binds md e = true → e.on ≠ i := fun e he hb heq => by
    have h1 := hall e he hb
    rw [heq, getD_both hun] at h1
    cases h1
   have h2 := wpOp_putIf hoj (hfree j oj hoj hji hjun hnot) (fun cs b => hsel i oi cs b hi) (fun cs b => hsel j oj cs b hoj) hQ hy h1
   have hfree' : ∀ k ok, ops[k]? = some ok → k ≠ i → (listed.setIfInBounds j true).getD k true = false →
     (∀ e ∈ ok.after, Region.binds md e = true → e.on ≠ i) → oi.apart ops ok = true := fun k ok hk hki hun hno => by
    refine hfree k ok hk hki ?_ hno
    by_cases hjk : j = k
    ·subst hjk; exact hjun
    ·rw [getD_set_ne true hjk] at hun; exact hun
   refine wpOp_mono (fun a' w' h3 => ?_) h2
   have hS' : S w' := h3.2.1.resolve_left (by omega)
   refine ⟨.inr hS', ih (listed.setIfInBounds j true) a' w' (inv.set hj hjn) hfree' (ready_mono hr (Ne.symm hji)) h3.1 hS' ?_⟩
   rw [Array.setIfInBounds_comm _ _ hji]
   exact h3.2.2
/-- As 'wpOrd'; behind the last one S is not asked. -/
def wpOrdL (P : Program) (ops : Array Oper) (Q : Act → World → Prop) (S : World → Prop) : List (Nat × Bool) → Act → World → Prop
 | [], a, w => Q a w
 | (i, true) :: r, a, w => ∃ o v, ops[i]? = some o ∧ YieldsIf P ops S o v a ∧ wpOrdL P ops Q S r (a.put o.dst v) w
 | (i, false) :: r, a, w => wpOp P ops (Qn Q) i (fun a' w' => (r = [] ∨ S w') ∧ wpOrdL P ops Q S r a' w') a w
def ordLB (md : Region.Mode) (ops : Array Oper) (n : Nat) : List (Nat × Bool) → Array Bool → Bool
 | [], listed => (Region.ready md ops listed).isEmpty
 | (i, true) :: r, listed => decide (i < n) && (Region.ready md ops listed).contains i && Region.free md ops listed i && ordLB md ops n r (listed.setIfInBounds i true)
 | (i, false) :: r, listed => ((decide (i < n) && !r.isEmpty) || (r.isEmpty && decide (i = n))) && decide (Region.ready md ops listed = [i]) && ordLB md ops n r (listed.setIfInBounds i true)
theorem wpOrdL_sound {md : Region.Mode} {Q : Act → World → Prop} {n : Nat} (hsel : Region.noSelect ops = true) (hs : Region.sinkB md ops n = true) (hc : Region.chainB md ops n = true) (hn : n < ops.size) :
  ∀ (ord : List (Nat × Bool)) (listed : Array Bool) (a : Act) (w : World), (ord ≠ [] → HeadInv md ops n listed) → ordLB md ops n ord listed = true → (ord ≠ [] → S w) →
  wpOrdL P ops Q S ord a w → wpAnyK P md ops (Qn Q) S n ord.length listed a w
 | [], listed, a, w, _, hB, _, h => ⟨by simpa [ordLB, List.isEmpty_iff] using hB, h⟩
 | (i, true) :: r, listed, a, w, inv, hB, hS, h => by
  obtain ⟨o, v, hi, hy, h'⟩ := h
  simp only [ordLB, Bool.and_eq_true, decide_eq_true_eq] at hB
  obtain ⟨⟨⟨hin, hr⟩, hf⟩, hB⟩ := hB
  have hr' : i ∈ Region.ready md ops listed := by simpa using hr
  exact wpAnyK_first hi (Region.noSelect_spec hsel) (fun _ _ _ h => h.elim) hs hc hn hin r.length listed a w (inv (by simp)) (Region.free_spec hi hf) hr' hy (hS (by simp))
   (wpOrdL_sound hsel hs hc hn r _ _ _ (fun _ => (inv (by simp)).set hr' hin) hB (fun _ => hS (by simp)) h')
 | (i, false) :: r, listed, a, w, inv, hB, hS, h => by
  simp only [ordLB, Bool.and_eq_true, Bool.or_eq_true, Bool.not_eq_true', decide_eq_true_eq, List.isEmpty_iff] at hB
  obtain ⟨⟨hin, hr⟩, hB⟩ := hB
  refine ⟨fun h0 => (by rw [hr] at h0; cases h0), fun j hj => ?_⟩
  have hj' := hj
  rw [hr] at hj
  have : j = i := by simpa using hj
  subst this
  refine wpOp_mono (fun a' w' h' => ?_) h
  rcases hin with ⟨hin, hne⟩ | ⟨rfl, hin⟩
  ·have hne' : r ≠ [] := fun e => by rw [e] at hne; cases hne
   have hS' := h'.1.resolve_left hne'
   exact ⟨.inr hS', wpOrdL_sound hsel hs hc hn r _ _ _ (fun _ => (inv (by simp)).set hj' hin) hB (fun _ => hS') h'.2⟩
  ·exact ⟨.inl hin, wpOrdL_sound hsel hs hc hn [] _ _ _ (fun h => absurd rfl h) hB (fun h => absurd rfl h) h'.2⟩
/-- The operations themselves, in the order that is walked. -/
def wpO (P : Program) (ops : Array Oper) (Q : Act → World → Prop) (S : World → Prop) : List (Oper × Bool) → Act → World → Prop
 | [], a, w => Q a w
 | (o, true) :: r, a, w => ∃ v, YieldsIf P ops S o v a ∧ wpO P ops Q S r (a.put o.dst v) w
 | (o, false) :: r, a, w => if Region.wanted o (yielded ops a.tmps) then o.wp P a w (fun a' w' => (r = [] ∨ S w') ∧ wpO P ops Q S r a' w') (Qn Q) else (r = [] ∨ S w) ∧ wpO P ops Q S r (a.put o.dst undef) w
theorem wpOrdL_of_O {Q : Act → World → Prop} : ∀ (ord : List (Nat × Bool)) (a : Act) (w : World), (∀ p ∈ ord, p.1 < ops.size) → wpO P ops Q S (ord.map fun p => ((ops.toList[p.1]?).getD default, p.2)) a w → wpOrdL P ops Q S ord a w
 | [], _, _, _, h => h
 | (i, true) :: r, a, w, hl, h => by
  have hi : i < ops.size := hl (i, true) (by simp)
  have he : ops[i]? = some ((ops.toList[i]?).getD default) := by simp [hi]
  obtain ⟨v, hy, h'⟩ := h
  exact ⟨_, v, he, hy, wpOrdL_of_O r _ _ (fun p hp => hl p (by simp [hp])) h'⟩
 | (i, false) :: r, a, w, hl, h => by
  have hi : i < ops.size := hl (i, false) (by simp)
  have he : ops[i]? = some ((ops.toList[i]?).getD default) := by simp [hi]
  have hr := wpOrdL_of_O (Q := Q) r
  show wpOp _ _ _ _ _ _ _
  unfold wpOp
  rw [he]
  simp only [List.map_cons, wpO, List.map_eq_nil_iff] at h
  show if Region.wanted ((ops.toList[i]?).getD default) (yielded ops a.tmps) = true then _ else _
  split
  ·rename_i hw
   rw [if_pos hw] at h
   exact .inl (Oper.wp_mono (fun a' w' h' => ⟨h'.1, hr a' w' (fun p hp => hl p (by simp [hp])) h'.2⟩) h)
  ·rename_i hw
   rw [if_neg hw] at h
   exact ⟨h.1, hr _ _ (fun p hp => hl p (by simp [hp])) h.2⟩
theorem wpOrd_of_O {Q : Act → World → Prop} : ∀ (ord : List (Nat × Bool)) (a : Act) (w : World), (∀ p ∈ ord, p.1 < ops.size) → S w → (∀ p ∈ ord, p.2 = true) → wpO P ops Q S (ord.map fun p => ((ops.toList[p.1]?).getD default, p.2)) a w → wpOrd P ops Q S ord a w
 | [], _, _, _, _, _, h => h
 | (i, true) :: r, a, w, hl, hS, ht, h => by
  have hi : i < ops.size := hl (i, true) (by simp)
  have he : ops[i]? = some ((ops.toList[i]?).getD default) := by simp [hi]
  obtain ⟨v, hy, h'⟩ := h
  exact ⟨_, v, he, hy, wpOrd_of_O r _ _ (fun p hp => hl p (by simp [hp])) hS (fun p hp => ht p (by simp [hp])) h'⟩
 | (i, false) :: r, a, w, hl, hS, ht, h => by
  have := ht (i, false) (by simp)
  cases this
/-- A region whose last operation waits for all others. -/
theorem wp_region_ordL {id : Nat} {Q : Exit → Act → World → Prop} {a : Act} {w : World} {l : List Oper} (ord : List (Nat × Bool)) (S : World → Prop) (hm : P.follows .mixedOrders = true)
  (hB : (decide (ord.length = l.length) && Region.noSelect l.toArray && decide (l.length - 1 < l.toArray.size) && Region.sinkB .any l.toArray (l.length - 1) && Region.chainB .any l.toArray (l.length - 1) && ordLB .any l.toArray (l.length - 1) ord (Array.replicate l.toArray.size false) && ord.all (fun p => decide (p.1 < l.length))) = true) (hS : S w.drew)
  (h : wpO P l.toArray (fun a' w' => Q .normal a' w') S (ord.map fun p => ((l[p.1]?).getD default, p.2)) a w.drew) : (Code.region id l.toArray true).wp P Q a w := by
 simp only [Bool.and_eq_true, decide_eq_true_eq, List.all_eq_true] at hB
 obtain ⟨⟨⟨⟨⟨⟨h1, h2⟩, h3⟩, h4⟩, h5⟩, h6⟩, h7⟩ := hB
 refine wp_mono (Q := Qn (fun a' w' => Q .normal a' w')) (wp_region_any hm ?_) (fun e a w h => by cases e <;> first | exact h | exact h.elim)
 have inv0 : HeadInv .any l.toArray (l.length - 1) (Array.replicate l.toArray.size false) :=
  ⟨by simp, fun j oj _ hl => (by rw [getD_replicate_false] at hl; cases hl), fun t _ ht => getD_in (by simpa using ht) (getD_replicate_false _ _)⟩
 have h' := wpOrdL_of_O (ops := l.toArray) ord a w.drew (fun p hp => by simpa using h7 p hp) (by simpa using h)
 have := wpAny_of_K _ _ _ _ (wpOrdL_sound (md := .any) h2 h4 h5 h3 ord _ a w.drew (fun _ => inv0) h6 (fun _ => hS) h')
 rw [h1] at this
 simpa using this
/-- A region that only reads: in the text's order, or another. -/
theorem wp_region_ordQ {id : Nat} {Q : Exit → Act → World → Prop} {a : Act} {w : World} {l : List Oper} (ord : List (Nat × Bool)) (S : World → Prop) (hm : P.follows .mixedOrders = true)
  (hB : (decide (ord.length = l.length) && Region.noSelect l.toArray && ordB .any l.toArray ord (Array.replicate l.toArray.size false) && ord.all (fun p => p.2 && decide (p.1 < l.length))) = true) (hS : S w.drew)
  (h : wpO P l.toArray (fun a' w' => Q .normal a' w') S (ord.map fun p => ((l[p.1]?).getD default, p.2)) a w.drew) : (Code.region id l.toArray true).wp P Q a w := by
 simp only [Bool.and_eq_true, decide_eq_true_eq, List.all_eq_true] at hB
 obtain ⟨⟨⟨h1, h2⟩, h6⟩, h7⟩ := hB
 refine wp_mono (Q := Qn (fun a' w' => Q .normal a' w')) (wp_region_held (S := S) hm ?_) (fun e a w h => by cases e <;> first | exact h | exact h.elim)
 have h' := wpOrd_of_O (ops := l.toArray) ord a w.drew (fun p hp => by simpa using (h7 p hp).2) hS (fun p hp => (h7 p hp).1) (by simpa using h)
 have := wpOrd_sound (md := .any) h2 ord _ a w.drew h6 hS h'
 rw [h1] at this
 simpa using this
section
variable {Q : Act → World → Prop} {a : Act} {w : World} {r : List (Oper × Bool)} {o : Oper}
theorem wpO_nil (h : Q a w) : wpO P ops Q S [] a w := h
theorem wpO_pure {v : Value} (hg : Region.wanted o (yielded ops a.tmps) = true) (hv : ∀ w, S w → (execOp a.eval o).run P w = .ok (.value v) w) (h : wpO P ops Q S r (a.put o.dst v) w) : wpO P ops Q S ((o, true) :: r) a w :=
 ⟨v, .inl ⟨hg, hv⟩, h⟩
theorem wpO_skip (hg : Region.wanted o (yielded ops a.tmps) = false) (h : wpO P ops Q S r (a.put o.dst undef) w) : wpO P ops Q S ((o, true) :: r) a w :=
 ⟨undef, .inr ⟨hg, rfl⟩, h⟩
theorem wpO_skipf (hg : Region.wanted o (yielded ops a.tmps) = false) (hS : r = [] ∨ S w) (h : wpO P ops Q S r (a.put o.dst undef) w) : wpO P ops Q S ((o, false) :: r) a w := by
 simp only [wpO, hg, Bool.false_eq_true, if_false]; exact ⟨hS, h⟩
theorem wpO_run {v : Value} {w1 : World} (hg : Region.wanted o (yielded ops a.tmps) = true) (hv : (execOp a.eval o).run P w = .ok (.value v) w1) (hS : r = [] ∨ S w1) (h : wpO P ops Q S r (a.put o.dst v) w1) : wpO P ops Q S ((o, false) :: r) a w := by
 simp only [wpO, hg, if_true, Oper.wp, hv, Oper.upon]; exact ⟨hS, h⟩
theorem wpO_store {w1 : World} (hg : Region.wanted o (yielded ops a.tmps) = true) (hv : (execOp a.eval o).run P w = .ok .skip w1) (hS : r = [] ∨ S w1) (h : wpO P ops Q S r (a.put o.dst undef) w1) : wpO P ops Q S ((o, false) :: r) a w := by
 simp only [wpO, hg, if_true, Oper.wp, hv, Oper.upon]; exact ⟨hS, h⟩
theorem wpO_call {f : FuncId} {args : Array Value} (hg : Region.wanted o (yielded ops a.tmps) = true) (hv : (execOp a.eval o).run P w = .ok (.enter f args) w)
  (h : Calls P f args w (fun e w1 => ∃ v, e = .returned v ∧ (r = [] ∨ S w1) ∧ wpO P ops Q S r (a.put o.dst v) w1)) : wpO P ops Q S ((o, false) :: r) a w := by
 simp only [wpO, hg, if_true, Oper.wp, hv, Oper.upon]
 refine h.mono fun e w1 ⟨v, he, hS, hr⟩ => ?_
 subst he
 exact ⟨hS, hr⟩
end
/-- The same of a call that only reads: taken first. -/
theorem exec_call {a : Act} {w : World} {o : Oper} (f : FuncId) (xs : Array Operand) (ts : Array TypeId) (ho : o.op = .call { callee := .value (.func f), args := xs, argTypes := ts }) {fn : Func} (hf : P.funcs[f]? = some fn) (hn : (fn.name == "runtime.NumGoroutine") = false) (hb : fn.body.isNone = false) :
  (execOp a.eval o).run P w = .ok (.enter f (xs.map a.eval)) w := by
 have h1 : ¬ fn.name = "runtime.NumGoroutine" := by simpa using hn
 have h2 : ¬ fn.body = none := by intro h; rw [h] at hb; cases hb
 simp [execOp, ho, resolve, Deferred.ofValue, Act.eval, invoke, callFunc, Sem.run_bind, Sem.run_pure, Result.andThen, hf, h1, h2]
theorem exec_load_blk {a : Act} {w : World} {o : Oper} (ty : TypeId) (x : Operand) (ho : o.op = .load ty x) (b k : Nat) (zs cs : List Value) (t : TypeId) (d : TypeDesc) {z : Option Value} {bytes : Nat}
  (hx : a.eval x = .pointer (some ⟨b, k, none⟩)) (hb : BlockIs w b zs t) (hc : ∀ j v, cs[j]? = some v → zs[k + j]? = some v)
  (hu : P.underlying ty = some d) (hd : d.isRow = true) (hi : (P.info? ty).map (fun i => (i.zero, i.size, i.bytes)) = some (z, cs.length, bytes)) : (execOp a.eval o).run P w = .ok (.value (.agg cs.toArray)) w := by
 unfold execOp
 simp only [ho, hx, Instr.loadAt, Instr.sureAddr, Sem.run_bind, Sem.run_pure, Result.andThen_ok, run_loadVar_mid w b k ty cs d (hb.range k cs hc) hu hd (info_size hi)]
theorem exec_buildSlice1 {a : Act} {w : World} {o : Oper} (T E : TypeId) (x : Operand) (ho : o.op = .buildSlice T 1 #[(0, x)]) (hT : P.underlying T = some (.slice E)) (cs : List Value) (z : Value) {size bytes : Nat} (hi : (P.info? E).map (fun i => (i.zero, i.size, i.bytes)) = some (some z, size, bytes)) (hz : z.cells.size = size) (h0 : 0 < size) (hm : size ≤ 16777216)
  (hx : (a.eval x).cells = cs.toArray) (hl : cs.length = size) : (execOp a.eval o).run P w = .ok (.value (.slice (some ⟨w.heap.size, 0, none⟩) 1 1)) (w.alloc (.cells cs.toArray E)) := by
 have hi' : (P.info? E).map (fun i => (i.zero, i.size)) = some (some z, size) := by
  cases hq : P.info? E with
  | none => simp [hq] at hi
  | some i => simp [hq] at hi ⊢; exact ⟨hi.1, hi.2.1⟩
 have := run_buildSlice1 (P := P) (w := w) T E (a.eval x) hT size z hi' hz h0 hm cs hx hl
 unfold execOp
 simp only [ho, List.map_toArray, List.map_cons, List.map_nil, Sem.run_bind, Sem.run_pure, Result.andThen_ok, this]
theorem exec_store_cell {a : Act} {w : World} {o : Oper} (ty : TypeId) (x y : Operand) (ho : o.op = .store ty x y) (b k : Nat) (v : Value) (zs : List Value) (t : TypeId) {z : Option Value} {bytes : Nat}
  (hx : a.eval x = .pointer (some ⟨b, k, none⟩)) (hy : a.eval y = v) (hb : BlockIs w b zs t) (hk : k < zs.length) (h1 : v.oneCell' = true) (hc : v.cells = #[v]) (hi : (P.info? ty).map (fun i => (i.zero, i.size, i.bytes)) = some (z, 1, bytes)) :
  (execOp a.eval o).run P w = .ok .skip (w.setCell ⟨b, k, none⟩ v) := by
 have ht := hb.there k 1 (by omega)
 have hst := run_storeCells_cells (P := P) b k [v] 0 w (fun j hj => by simpa using (ht j (by simpa using hj)).1) (fun j hj => by simpa using (ht j (by simpa using hj)).2) (by simpa using h1)
 cases hq : P.info? ty with
 | none => simp [hq] at hi
 | some i =>
  have hs : i.size = 1 := by simp [hq] at hi; exact hi.2.1
  simp only [Nat.add_zero, World.setCells] at hst
  simp [execOp, ho, hx, hy, Instr.storeAt, Instr.sureAddr, storeVar, sizeOf, typeInfo, hq, hs, hc, hst]
theorem exec_buildSlice0 {a : Act} {w : World} {o : Oper} (T E : TypeId) (ho : o.op = .buildSlice T 0 #[]) (hT : P.underlying T = some (.slice E)) {i : TypeInfo} (hi : P.info? E = some i) : (execOp a.eval o).run P w = .ok (.value (.slice (some ⟨w.heap.size, 0, none⟩) 0 0)) (w.alloc (.cells #[] E)) := by
 unfold execOp
 simp [ho, Instr.buildSlice, run_underlying hT, sizeOf, typeInfo, hi, newRow, Instr.fill]
 rw [show (Array.range 0) = #[] from Array.eq_empty_of_size_eq_zero (by simp)]
 simp
theorem exec_call' {a : Act} {w : World} {o : Oper} (f : FuncId) (xs : Array Operand) (ts : Array TypeId) (ho : o.op = .call { callee := .value (.func f), args := xs, argTypes := ts }) {fn : Func} (hf : P.funcs[f]? = some fn) (hn : (fn.name == "runtime.NumGoroutine") = false) (hb : fn.body.isNone = false) (args : Array Value) (ha : xs.map a.eval = args) :
  (execOp a.eval o).run P w = .ok (.enter f args) w := by rw [← ha]; exact exec_call f xs ts ho hf hn hb
end
theorem add_add (ad : Addr) (i j : Nat) : (ad.add i).add j = ad.add (i + j) := by
 unfold Addr.add
 by_cases h1 : i = 0 <;> by_cases h2 : j = 0 <;> simp [h1, h2, Nat.add_assoc]
theorem Reads.drop {w : World} {A : Option Addr} {cs : List Value} (h : Reads w A cs) (c l : Nat) (hc : cs.length ≤ c) : Reads w (if c = l then A else A.map (·.add l)) (cs.drop l) := by
 intro j u hu
 rw [List.getElem?_drop] at hu
 obtain ⟨ad, rfl, hx⟩ := h _ u hu
 have hlt : l + j < cs.length := (List.getElem?_eq_some_iff.1 hu).1
 rw [if_neg (by omega)]
 exact ⟨_, rfl, by rw [add_add]; exact hx⟩
theorem Reads.take {w : World} {A : Option Addr} {cs : List Value} (h : Reads w A cs) (n : Nat) : Reads w A (cs.take n) := by
 intro j u hu
 rw [List.getElem?_take] at hu
 split at hu
 ·exact h j u hu
 ·cases hu
/-- 'xs[l:]', the new address a letter. -/
theorem cut_low {P : Program} (t e : TypeId) (kl : IntKind) {z : Option Value} {bytes : Nat} (ht : P.underlying t = some (.slice e)) (hi : (P.info? e).map (fun i => (i.zero, i.size, i.bytes)) = some (z, 1, bytes)) (A : Option Addr) (n c l : Nat) (hl : l ≤ n) :
  ∃ A' : Option Addr, (∀ W : World, (Instr.sliceAt t (.slice A n c) (some (.int kl (l : Int))) none none).run P W = .ok (.slice A' (n - l) (c - l)) W) ∧
   ∀ (w : World) (cs : List Value), cs.length ≤ c → Reads w A cs → Reads w A' (cs.drop l) := by
 refine ⟨if c = l then A else A.map (·.add l), fun W => ?_, fun w cs hc h => h.drop c l hc⟩
 have hel : P.elem t = e := by simp [Program.elem, ht]
 have hu : P.underlying t = some (.slice (P.elem t)) := by rw [hel]; exact ht
 cases hq : P.info? e with
 | none => simp [hq] at hi
 | some i =>
  have hs : i.size = 1 := by simp [hq] at hi; exact hi.2.1
  rw [run_sliceAt_slice W t _ _ _ _ hu, run_slice_l W t A n c hu kl (l : Int) (Int.natCast_nonneg _) (by omega), hel]
  simp [sizeOf, typeInfo, hq, hs, sliced, Result.andThen]
theorem exec_sliceAt {P : Program} {a : Act} {w : World} {o : Oper} (t : TypeId) (x : Operand) (lo hi : Option Operand) (ho : o.op = .slice t x lo hi none) {v r : Value} {lv hv : Option Value}
  (hx : a.eval x = v) (hl : lo.map a.eval = lv) (hh : hi.map a.eval = hv) (hr : (Instr.sliceAt t v lv hv none).run P w = .ok r w) : (execOp a.eval o).run P w = .ok (.value r) w := by
 simp [execOp, ho, hx, hl, hh, hr, Result.andThen]
theorem Rows.ne {w : World} {F : Nat → Prop} {e t : TypeId} {size g : Nat} {v : Value} {xs : List (List Value)} {cs : List Value} (h : Rows w F e size v xs) (hb : BlockIs w g cs t) (hne : e ≠ t) : v.ownBlock ≠ some g := by
 intro hk
 rcases h.own.2 with ⟨rfl, _⟩ | ⟨g', cap, cur, rfl, _, hh, _⟩
 ·simp [Value.ownBlock] at hk
 ·have : g' = g := by simpa [Value.ownBlock] using hk
  subst this
  unfold BlockIs at hb
  rw [hh] at hb
  injection hb with hb
  injection hb with _ ht
  exact hne ht
theorem Rows.ne2 {w : World} {F F' : Nat → Prop} {e e' : TypeId} {size size' : Nat} {v v' : Value} {xs xs' : List (List Value)} (h : Rows w F e size v xs) (h' : Rows w F' e' size' v' xs') (hne : e ≠ e') : ∀ k, v.ownBlock = some k → v'.ownBlock ≠ some k := by
 intro k hk hk'
 rcases h'.own.2 with ⟨rfl, _⟩ | ⟨g', cap, cur, rfl, _, hh, _⟩
 ·simp [Value.ownBlock] at hk'
 ·have : g' = k := by simpa [Value.ownBlock] using hk'
  subst this
  exact h.ne (g := g') (cs := cur.toList) (t := e') (by unfold BlockIs; simpa using hh) hne hk
/-- Rows, behind a step that leaves their own block alone. -/
theorem Rows.stay {w w' : World} {F G : Nat → Prop} {e : TypeId} {size : Nat} {v : Value} {xs : List (List Value)} (h : Rows w F e size v xs) (hk : Keep G w w') (hd : ∀ k, v.ownBlock = some k → ¬ G k) : Rows w' F e size v xs := by
 have h' : Rows w (fun k => v.ownBlock = some k) e size v xs := ⟨h.own, h.each, fun _ hk => hk⟩
 exact ⟨(h'.keep hk (fun k a b => hd k a b)).own, h.each, h.foot⟩
structure DevAt (w : World) (F : Nat → Prop) (g : Nat) (vl vr : Value) (D : DS) : Prop where
 lt : Lt F w
 here : F g
 blk : BlockIs w g [vl, vr, .int .i64 (D.ops : Int), .int .i64 D.fuse, .bool D.down] 96
 l : Rows w F 103 64 vl (D.l.map bv)
 row : Rows w F 105 65 vr (D.row.map wv)
def DevIs (w : World) (F : Nat → Prop) (g : Nat) (D : DS) : Prop := ∃ vl vr, DevAt w F g vl vr D
theorem DevAt.keep {w w' : World} {F G : Nat → Prop} {g : Nat} {vl vr : Value} {D : DS} (h : DevAt w F g vl vr D) (hk : Keep G w w') (hd : Dj F G) : DevAt w' F g vl vr D :=
 ⟨fun k hf => Nat.lt_of_lt_of_le (h.lt k hf) hk.size, h.here, h.blk.keep hk (fun hg => hd g h.here hg), h.l.keep hk hd, h.row.keep hk hd⟩
theorem DevIs.keep {w w' : World} {F G : Nat → Prop} {g : Nat} {D : DS} (h : DevIs w F g D) (hk : Keep G w w') (hd : Dj F G) : DevIs w' F g D := by
 obtain ⟨vl, vr, h⟩ := h; exact ⟨vl, vr, h.keep hk hd⟩
theorem Dj.noth (F : Nat → Prop) : Dj F Noth := fun _ _ h => h.elim
theorem DevIs.lt {w : World} {F : Nat → Prop} {g : Nat} {D : DS} (h : DevIs w F g D) : Lt F w := by obtain ⟨_, _, h⟩ := h; exact h.lt
theorem DevIs.mono {w : World} {F G : Nat → Prop} {g : Nat} {D : DS} (h : DevIs w F g D) (hG : ∀ k, F k → G k) (hl : Lt G w) : DevIs w G g D := by
 obtain ⟨vl, vr, h⟩ := h
 exact ⟨vl, vr, hl, hG _ h.here, h.blk, h.l.mono hG, h.row.mono hG⟩
/-- What the walk wants of a device: its cells. -/
theorem DevAt.cells {w : World} {F : Nat → Prop} {g : Nat} {vl vr : Value} {D : DS} (h : DevAt w F g vl vr D) :
  (w.cell? ⟨g, 0, none⟩ = some vl ∧ w.cell? ⟨g, 1, none⟩ = some vr ∧ w.cell? ⟨g, 2, none⟩ = some (.int .i64 (D.ops : Int)) ∧ w.cell? ⟨g, 3, none⟩ = some (.int .i64 D.fuse) ∧ w.cell? ⟨g, 4, none⟩ = some (.bool D.down)) ∧
  (w.frozen? ⟨g, 0, none⟩ = false ∧ w.frozen? ⟨g, 1, none⟩ = false ∧ w.frozen? ⟨g, 2, none⟩ = false ∧ w.frozen? ⟨g, 3, none⟩ = false ∧ w.frozen? ⟨g, 4, none⟩ = false) :=
 ⟨⟨h.blk.cell 0, h.blk.cell 1, h.blk.cell 2, h.blk.cell 3, h.blk.cell 4⟩, ⟨h.blk.frozen 0, h.blk.frozen 1, h.blk.frozen 2, h.blk.frozen 3, h.blk.frozen 4⟩⟩
/-- A device of which its own block alone has turned. -/
theorem DevAt.turn {w w' : World} {F : Nat → Prop} {g : Nat} {vl vr : Value} {D D' : DS} (h : DevAt w F g vl vr D) (hk : Keep (Only g) w w')
  (hb : BlockIs w' g [vl, vr, .int .i64 (D'.ops : Int), .int .i64 D'.fuse, .bool D'.down] 96) (hl : D'.l = D.l) (hr : D'.row = D.row) : DevAt w' F g vl vr D' :=
 ⟨fun k hf => Nat.lt_of_lt_of_le (h.lt k hf) hk.size, h.here, hb,
   by rw [hl]; exact h.l.stay hk (fun k hk' e => h.l.ne h.blk (by decide) (by rw [hk', e])),
   by rw [hr]; exact h.row.stay hk (fun k hk' e => h.row.ne h.blk (by decide) (by rw [hk', e]))⟩
structure StAt (w : World) (F : Nat → Prop) (vl vr : Value) (D : DS) : Prop where
 l : Rows w F 52 64 vl (D.l.map bv)
 row : Rows w F 54 65 vr (D.row.map wv)
def stv (vl vr : Value) (D : DS) : List Value := [vl, vr, .int .i64 (D.ops : Int), .int .i64 D.fuse, .bool D.down]
theorem StAt.keep {w w' : World} {F G : Nat → Prop} {vl vr : Value} {D : DS} (h : StAt w F vl vr D) (hk : Keep G w w') (hd : Dj F G) : StAt w' F vl vr D := ⟨h.l.keep hk hd, h.row.keep hk hd⟩
theorem StAt.mono {w : World} {F G : Nat → Prop} {vl vr : Value} {D : DS} (h : StAt w F vl vr D) (hG : ∀ k, F k → G k) : StAt w G vl vr D := ⟨h.l.mono hG, h.row.mono hG⟩
def zv : Value := .agg (bv zb).toArray
def zw : Value := .agg (wv (0, zb)).toArray
def zst : Value := .agg (stv (.slice none 0 0) (.slice none 0 0) ⟨[], [], 0, 0, false⟩).toArray
theorem wv0_length : (wv (0, zb)).length = 65 := by simp [wv, zb]
theorem zb_length : zb.length = 64 := by simp [zb]
theorem bvz_length : (bv zb).length = 64 := by simp [zb]
theorem zw_cells : zw.cells = (wv (0, zb)).toArray := rfl
theorem zv_cells : zv.cells = (bv zb).toArray := rfl
theorem info52 : (Try.prog.info? 52).map (fun i => (i.zero, i.size, i.bytes)) = some (some zv, 64, 64) := by kernel_rfl
theorem info103 : (Try.prog.info? 103).map (fun i => (i.zero, i.size, i.bytes)) = some (some zv, 64, 64) := by kernel_rfl
theorem info54 : (Try.prog.info? 54).map (fun i => (i.zero, i.size, i.bytes)) = some (some zw, 65, 72) := by kernel_rfl
theorem info105 : (Try.prog.info? 105).map (fun i => (i.zero, i.size, i.bytes)) = some (some zw, 65, 72) := by kernel_rfl
theorem info30 : (Try.prog.info? 30).map (fun i => (i.zero, i.size, i.bytes)) = some (some zst, 5, 72) := by kernel_rfl
theorem info5 : (Try.prog.info? 5).map (fun i => (i.zero, i.size, i.bytes)) = some (some (.int .u8 0), 1, 1) := by kernel_rfl
theorem info3 : (Try.prog.info? 3).map (fun i => (i.zero, i.size, i.bytes)) = some (some (.int .i64 0), 1, 8) := by kernel_rfl
theorem info94 : (Try.prog.info? 94).map (fun i => (i.zero, i.size, i.bytes)) = some (some (.slice none 0 0), 1, 24) := by kernel_rfl
theorem info93 : (Try.prog.info? 93).map (fun i => (i.zero, i.size, i.bytes)) = some (some (.slice none 0 0), 1, 24) := by kernel_rfl
theorem info27 : (Try.prog.info? 27).map (fun i => (i.zero, i.size, i.bytes)) = some (some (.slice none 0 0), 1, 24) := by kernel_rfl
theorem info28 : (Try.prog.info? 28).map (fun i => (i.zero, i.size, i.bytes)) = some (some (.slice none 0 0), 1, 24) := by kernel_rfl
def zdev : Value := .agg [.slice none 0 0, .slice none 0 0, .int .i64 0, .int .i64 0, .bool false].toArray
theorem info96 : (Try.prog.info? 96).map (fun i => (i.zero, i.size, i.bytes)) = some (some zdev, 5, 72) := by kernel_rfl
theorem size5 : (Try.prog.info? 5).map (·.size) = some 1 := by kernel_rfl
theorem sl93 : Try.prog.underlying 93 = some (.slice 103) := by kernel_rfl
theorem sl94 : Try.prog.underlying 94 = some (.slice 105) := by kernel_rfl
theorem sl27 : Try.prog.underlying 27 = some (.slice 52) := by kernel_rfl
theorem sl28 : Try.prog.underlying 28 = some (.slice 54) := by kernel_rfl
theorem sl33 : Try.prog.underlying 33 = some (.slice 5) := by kernel_rfl
theorem follows_mixed : Try.prog.follows .mixedOrders = true := by kernel_rfl
end Go.Proofs.Ytffcglfepobdjaa
set_option maxRecDepth 10000
namespace Go.Proofs.Ytffcglfepobdjaa
open Go.RowKit
theorem strOf_bv (bs : List UInt8) : strOfNums (bs.map fun x => (x.toNat : Int)) = ⟨bs.toArray⟩ := by
 unfold strOfNums
 congr 2
 rw [List.map_map]
 conv => rhs; rw [← List.map_id bs]
 apply List.map_congr_left
 intro x _
 simp
theorem run_conv {P : Program} {w : World} (src e dst : TypeId) (hs : P.underlying src = some (.slice e)) (he : P.underlying e = some (.int .u8)) (hd : P.underlying dst = some .string) (A : Option Addr) (n c : Nat) (bs : List UInt8) (hn : n = bs.length) (hA : Reads w A (bv bs)) :
  (convert src dst (.slice A n c)).run P w = .ok (.string ⟨bs.toArray⟩) w := by
 rcases A with _ | ad
 ·have : bs = [] := by
   cases bs with
   | nil => rfl
   | cons x bs => obtain ⟨ad, h, _⟩ := hA 0 (u8 x) (by simp [bv]); cases h
  subst this
  exact run_convert_bytes_nil w src e hs he n c dst hd
 ·subst hn
  have hl := run_loadCells_list (P := P) w ad (bv bs) (fun j v hj => by
   obtain ⟨ad', h, hc⟩ := hA j v hj
   injection h with h
   subst h; exact hc)
  have hl' : (loadCells ad bs.length).run P w = .ok ((bs.map fun x => (x.toNat : Int)).map (Value.int .u8)).toArray w := by
   rw [bv_length] at hl
   rw [hl, List.map_map]
   rfl
  rw [run_convert_bytes_string w src dst e _ bs.length c hs he hd, run_bytesToString w _ bs.length c _ hl', foldl_push_bytes]
  have h2 := strOf_bv bs
  unfold strOfNums at h2
  have h3 : (List.map (fun n : Int => UInt8.ofNat n.toNat) (bs.map fun x => (x.toNat : Int))).toArray = bs.toArray := by injection h2
  show Result.ok (Value.string ⟨#[] ++ (List.map (fun n : Int => UInt8.ofNat n.toNat) (bs.map fun x => (x.toNat : Int))).toArray⟩) w = _
  rw [h3, Array.empty_append]
/-- What is new in w'. -/
def Fresh (w w' : World) : Nat → Prop := fun k => w.heap.size ≤ k ∧ k < w'.heap.size
theorem Fresh.grow {w w1 w2 : World} (h : w1.heap.size ≤ w2.heap.size) : ∀ k, Fresh w w1 k → Fresh w w2 k := fun k hk => ⟨hk.1, Nat.lt_of_lt_of_le hk.2 h⟩
/-- A row of the call's own, gathered since w1. -/
structure Acc (w1 wr : World) (e : TypeId) (size : Nat) (v : Value) (xs : List (List Value)) : Prop where
 rows : Rows wr (Fresh w1 wr) e size v xs
 kept : Keep Noth w1 wr
theorem Acc.nil (w : World) (e : TypeId) (size : Nat) : Acc w w e size (.slice none 0 0) [] := ⟨Rows.nil _ _ _ _, Keep.refl _ _⟩
theorem Acc.append {w1 wr w2 w3 : World} {e : TypeId} {size : Nat} {u v : Value} {xs ys : List (List Value)} (h : Acc w1 wr e size u xs) (K2 : Keep Noth wr w2)
  (H : Rows w3 (fun k => u.ownBlock = some k ∨ (w2.heap.size ≤ k ∧ k < w3.heap.size)) e size v ys) (K3 : Keep (fun k => u.ownBlock = some k) w2 w3) : Acc w1 w3 e size v ys := by
 have h1 := h.kept.size
 have h2 := K2.size
 have h3 := K3.size
 refine ⟨H.mono (fun k hk => ?_), (h.kept.trans K2 (fun _ _ h => h)).trans K3 (fun i hi e => ?_)⟩
 ·rcases hk with hk | hk
  ·have := h.rows.foot k hk
   exact ⟨this.1, by have := this.2; omega⟩
  ·exact ⟨by omega, hk.2⟩
 ·have := (h.rows.foot i e).1
  omega
theorem bvs_one {l : List Bk} : ∀ u ∈ (l.map bv).flatten, u.oneCell' = true := by
 intro u hu
 simp only [List.mem_flatten, List.mem_map] at hu
 obtain ⟨_, ⟨b, _, rfl⟩, hu⟩ := hu
 exact bv_one b u hu
theorem wvs_one {l : List (Nat × Bk)} : ∀ u ∈ (l.map wv).flatten, u.oneCell' = true := by
 intro u hu
 simp only [List.mem_flatten, List.mem_map] at hu
 obtain ⟨_, ⟨b, _, rfl⟩, hu⟩ := hu
 exact wv_one b u hu
theorem clone61_calls {w : World} {F : Nat → Prop} {v : Value} {xs : List Bk} (H : Rows w F 103 64 v (xs.map bv)) (hl : xs.length ≤ 1099511627776) :
  Calls Try.prog 61 #[v] w (fun e w' => ∃ v', e = .returned v' ∧ Rows w' (Fresh w w') 103 64 v' (xs.map bv) ∧ Keep Noth w w') := by
 rcases H.own.2 with ⟨rfl, h0⟩ | ⟨g, cap, cur, rfl, _⟩
 ·obtain rfl : xs = [] := List.eq_nil_of_length_eq_zero (by simpa using h0)
  have hq := fun (W : World) => Lib.run_eql_slice_nil (P := Try.prog) W 93 103 none 0 0 0 0 sl93
  go_enter Try.func61, Try.ntmps61
  go_wp2_with fail
  go_ret
  exact ⟨_, rfl, Rows.nil _ _ _ _, Keep.refl _ _⟩
 ·have hq := fun (W : World) (n : Nat) => Lib.run_eql_slice_nil (P := Try.prog) W 93 103 (some ⟨g, 0, none⟩) n cap 0 0 sl93
  have HR : Reads (w.alloc (.cells #[] 103)) (some ⟨g, 0, none⟩) (xs.map bv).flatten := (rd_of_own H).keep ((Keep.refl Noth w).alloc _) (fun _ _ => id)
  have hE := Rows.empty w 103 64
  go_enter Try.func61, Try.ntmps61
  go_wp2_with (at_builtin; refine wpList_append_rows rfl _ _ 93 rfl 103 zv 64 64 sl93 info103 ?_ (by decide) (by decide) _ _ [] (xs.map bv) rfl hE (some ⟨g, 0, none⟩) (xs.map bv).length cap rfl rfl ?_ H.each HR bvs_one ?_ ?_)
  ·rfl
  ·intro h; cases h
  ·simp only [List.length_nil, List.length_map]; omega
  ·intro v' w' H' K'
   have hfin : Rows w' (Fresh w w') 103 64 v' (xs.map bv) ∧ Keep Noth w w' := by
    refine ⟨Rows.mono (by simpa using H') (fun k hk => ?_), ((Keep.refl Noth w).alloc _).trans K' (fun i hi h => ?_)⟩
    ·have hs := K'.size
     simp only [World.size_alloc] at hs hk
     rcases hk with hk | hk
     ·simp only [Value.ownBlock, Option.some.injEq] at hk
      exact ⟨by omega, by omega⟩
     ·exact ⟨by omega, hk.2⟩
    ·simp only [Value.ownBlock, Option.some.injEq] at h
     omega
   clear H' K' HR hE H
   go_wp2_with fail
   go_ret
   exact ⟨v', rfl, hfin.1, hfin.2⟩
theorem clone62_calls {w : World} {F : Nat → Prop} {v : Value} {xs : List (Nat × Bk)} (H : Rows w F 105 65 v (xs.map wv)) (hl : xs.length ≤ 1099511627776) :
  Calls Try.prog 62 #[v] w (fun e w' => ∃ v', e = .returned v' ∧ Rows w' (Fresh w w') 105 65 v' (xs.map wv) ∧ Keep Noth w w') := by
 rcases H.own.2 with ⟨rfl, h0⟩ | ⟨g, cap, cur, rfl, _⟩
 ·obtain rfl : xs = [] := List.eq_nil_of_length_eq_zero (by simpa using h0)
  have hq := fun (W : World) => Lib.run_eql_slice_nil (P := Try.prog) W 94 105 none 0 0 0 0 sl94
  go_enter Try.func62, Try.ntmps62
  go_wp2_with fail
  go_ret
  exact ⟨_, rfl, Rows.nil _ _ _ _, Keep.refl _ _⟩
 ·have hq := fun (W : World) (n : Nat) => Lib.run_eql_slice_nil (P := Try.prog) W 94 105 (some ⟨g, 0, none⟩) n cap 0 0 sl94
  have HR : Reads (w.alloc (.cells #[] 105)) (some ⟨g, 0, none⟩) (xs.map wv).flatten := (rd_of_own H).keep ((Keep.refl Noth w).alloc _) (fun _ _ => id)
  have hE := Rows.empty w 105 65
  go_enter Try.func62, Try.ntmps62
  go_wp2_with (at_builtin; refine wpList_append_rows rfl _ _ 94 rfl 105 zw 65 72 sl94 info105 ?_ (by decide) (by decide) _ _ [] (xs.map wv) rfl hE (some ⟨g, 0, none⟩) (xs.map wv).length cap rfl rfl ?_ H.each HR wvs_one ?_ ?_)
  ·rfl
  ·intro h; cases h
  ·simp only [List.length_nil, List.length_map]; omega
  ·intro v' w' H' K'
   have hfin : Rows w' (Fresh w w') 105 65 v' (xs.map wv) ∧ Keep Noth w w' := by
    refine ⟨Rows.mono (by simpa using H') (fun k hk => ?_), ((Keep.refl Noth w).alloc _).trans K' (fun i hi h => ?_)⟩
    ·have hs := K'.size
     simp only [World.size_alloc] at hs hk
     rcases hk with hk | hk
     ·simp only [Value.ownBlock, Option.some.injEq] at hk
      exact ⟨by omega, by omega⟩
     ·exact ⟨by omega, hk.2⟩
    ·simp only [Value.ownBlock, Option.some.injEq] at h
     omega
   clear H' K' HR hE H
   go_wp2_with fail
   go_ret
   exact ⟨v', rfl, hfin.1, hfin.2⟩
def putAll (l : List Bk) (r : List (Nat × Bk)) : List Bk := r.foldl (fun l p => l.set p.1 p.2) l
def DS.all (D : DS) : List Bk := putAll D.l D.row
theorem putAll_length (r : List (Nat × Bk)) : ∀ l : List Bk, (putAll l r).length = l.length := by
 induction r with
 | nil => intro l; rfl
 | cons p r ih => intro l; show (putAll (l.set p.1 p.2) r).length = _; rw [ih]; simp
theorem putAll_snoc (l : List Bk) (r : List (Nat × Bk)) (p : Nat × Bk) : putAll l (r ++ [p]) = (putAll l r).set p.1 p.2 := by simp [putAll]
theorem putAll_64 (r : List (Nat × Bk)) : ∀ l : List Bk, (∀ b ∈ l, b.length = 64) → (∀ p ∈ r, p.2.length = 64) → ∀ b ∈ putAll l r, b.length = 64 := by
 induction r with
 | nil => intro l h _; exact h
 | cons p r ih =>
  intro l h hr
  refine ih _ (fun b hb => ?_) (fun q hq => hr q (by simp [hq]))
  rcases List.mem_or_eq_of_mem_set hb with h' | rfl
  ·exact h b h'
  ·exact hr p (by simp)
theorem take_snoc' {α : Type} (l : List α) (k : Nat) (h : k < l.length) : l.take (k + 1) = l.take k ++ [l[k]] := by
 rw [List.take_succ_eq_append_getElem h]
def AllRel (w : World) (l : List Bk) (row : List (Nat × Bk)) (v : Value) (k : Nat) (wr : World) : Prop :=
 k ≤ row.length ∧ Rows wr (Fresh w wr) 103 64 v ((putAll l (row.take k)).map bv) ∧ Keep Noth w wr
theorem AllRel.start {w w1 : World} {l : List Bk} {row : List (Nat × Bk)} {v : Value} (h : Rows w1 (Fresh w w1) 103 64 v (l.map bv)) (hk : Keep Noth w w1) : AllRel w l row v 0 w1 := ⟨Nat.zero_le _, h, hk⟩
theorem AllRel.next {w wr w2 w3 : World} {l : List Bk} {row : List (Nat × Bk)} {go n co : Nat} {k : Nat} (hlt : k < row.length) (hf : Fresh w wr go) (HK : Keep Noth w wr) (K2 : Keep Noth wr w2) (K3 : Keep (Only go) w2 w3)
  (H : Rows w3 (Fresh w w2) 103 64 (.slice (some ⟨go, 0, none⟩) n co) (((putAll l (row.take k)).map bv).set row[k].1 (bv row[k].2))) : AllRel w l row (.slice (some ⟨go, 0, none⟩) n co) (k + 1) w3 := by
 refine ⟨hlt, ?_, (HK.trans K2 (fun _ _ h => h)).trans K3 (fun i hi e => ?_)⟩
 ·rw [take_snoc' _ _ hlt, putAll_snoc, List.map_set]
  exact H.mono (Fresh.grow K3.size)
 ·unfold Only at e
  have := hf.1
  omega
set_option maxRecDepth 10000 in
theorem all_calls {w : World} {F : Nat → Prop} {g : Nat} {vl vr : Value} {D : DS} (hD : DevAt w F g vl vr D) (hok : D.ok) (hr : D.row.length ≤ 1099511627776) :
  Calls Try.prog 59 #[.pointer (some ⟨g, 0, none⟩)] w (fun e w' => ∃ v', e = .returned v' ∧ Rows w' (Fresh w w') 103 64 v' (D.all.map bv) ∧ Keep Noth w w') := by
 obtain ⟨⟨h0, h1, -⟩, -⟩ := hD.cells
 obtain ⟨Al, cl, rfl⟩ := hD.l.valm
 obtain ⟨Ar, cr, rfl⟩ := hD.row.valm
 have hl0 := hok.most
 go_enter Try.func59, Try.ntmps59
 go_wp2_with (go_at_call 61; refine (clone61_calls hD.l (by omega)).mono ?_; rintro e w1 ⟨v', rfl, H1, K1⟩; have hD1 := hD.keep K1 (Dj.noth _); obtain ⟨⟨-, h1', -⟩, -⟩ := hD1.cells)
 have hK0 : 0 < D.l.length := hok.one
 obtain ⟨go, co, hv, hgo, -⟩ := H1.at (by rw [List.length_map]; exact hK0)
 rw [List.length_map] at hv
 subst hv
 go_loopw [16] (fun i wr => ∃ k : Nat, i = .int .i64 k ∧ AllRel w D.l D.row (.slice (some ⟨go, 0, none⟩) D.l.length co) k wr) (fun i _ => D.row.length - (intOf i).toNat)
 case atStart => exact ⟨0, rfl, AllRel.start H1 K1⟩
 case round =>
  obtain ⟨k, rfl, hkl, HR, HK⟩ := hrel
  have Hgo : Hid (Fresh w wr go) := HR.foot go rfl
  clear h0 h1 h1' hD1 H1 K1
  by_cases hlt : k < D.row.length
  ·obtain ⟨gr, rfl⟩ := hD.row.some_at (by rw [List.length_map]; omega)
   have hDr := hD.keep HK (Dj.noth _)
   have hlt' : (k : Int) < D.row.length := by omega
   have hp := hok.row64 D.row[k] (List.getElem_mem hlt)
   have hi0 : (0 : Int) ≤ (D.row[k].1 : Int) := by omega
   have hi1 : (D.row[k].1 : Int) < (D.l.length : Int) := by omega
   have hw65 : (wv D.row[k]).length = 65 := by simp [wv, hp.2]
   have Hw65 := hid hw65
   have Hp := hid hp
   clear hw65 hp
   have Hpl : (putAll D.l (List.take k D.row)).length = D.l.length := putAll_length _ _
   have HPl := hid Hpl
   clear Hpl
   go_wp2_with (first | (refine wpList_load_row' rfl 105 _ rfl F 105 65 gr _ cr (D.row.map wv) k _ (wv D.row[k]) _ hDr.row (by rw [List.length_map]; exact hlt) (List.getElem_map ..) rfl (by rfl) Try.underlying105 rfl info105 ?_) | (refine wpList_alloc_store rfl 105 rfl 5 _ rfl (by rfl) rfl rfl (by decide) zw (wv D.row[k]) (by rw [Hw65.out]; exact info105) (wv (0, zb)) zw_cells (Hw65.out.trans wv0_length.symm) (by rfl) (wv_one _) ?_; intro b w2 hb2 B2 K2; have hc2 := B2.cell 0; simp only [wv, List.getElem?_cons_zero] at hc2) | (refine wpList_load_blk rfl 103 _ rfl b 1 (wv D.row[k]) (bv D.row[k].2) 105 _ (by rfl) B2 (part1 _ _) Try.underlying103 rfl (by rw [bv_length, Hp.out.2]; exact info103) ?_) | (refine wpList_store_row rfl 103 _ _ rfl (Fresh w w2) 103 64 go _ co _ D.row[k].1 _ (bv D.row[k].2) ((HR.keep K2 (Dj.noth _)).mono (fun q hq => ⟨hq.1, Nat.lt_of_lt_of_le hq.2 K2.size⟩)) (by rw [List.length_map, HPl.out]; exact Hp.out.1) rfl (by rfl) (by rfl) (by rw [bv_length]; exact Hp.out.2) info103 (bv_one _) ?_; intro w3 HR3 K3))
   go_roundw
   case rel => exact ⟨k + 1, by go_num, AllRel.next hlt Hgo.out HK K2 K3 HR3⟩
   case measure => simp [intOf]; omega
  ·have hge : k = D.row.length := by omega
   subst hge
   go_wp2_with fail
   go_ret
   rw [List.take_length] at HR
   exact ⟨_, rfl, HR, HK⟩
/-- Bytes of the call's own. -/
def u1 (l : List UInt8) : List (List Value) := l.map fun x => [u8 x]
theorem u1_flatten (l : List UInt8) : (u1 l).flatten = bv l := by
 induction l with
 | nil => rfl
 | cons x l ih => simp only [u1, List.map_cons, List.flatten_cons] at ih ⊢; rw [ih]; rfl
theorem u1_length (l : List UInt8) : (u1 l).length = l.length := by simp [u1]
theorem u1_each (l : List UInt8) : ∀ x ∈ u1 l, x.length = 1 := by
 intro x hx; simp only [u1, List.mem_map] at hx; obtain ⟨y, _, rfl⟩ := hx; rfl
theorem u1_append (a b : List UInt8) : u1 (a ++ b) = u1 a ++ u1 b := by simp [u1]
theorem u1_one (l : List UInt8) : ∀ u ∈ (u1 l).flatten, u.oneCell' = true := by rw [u1_flatten]; exact bv_one l
abbrev Bytes (w : World) (F : Nat → Prop) (v : Value) (l : List UInt8) : Prop := Rows w F 5 1 v (u1 l)
end Go.Proofs.Ytffcglfepobdjaa
set_option maxHeartbeats 1000000
namespace Go.Proofs.Ytffcglfepobdjaa
open Go.RowKit
def DS.tick (D : DS) : DS := { D with ops := D.ops + 1, down := D.fuse == 0, fuse := max (D.fuse - 1) (-1) }
def DS.arm (D : DS) (n : Int) : DS := { D with fuse := max n (-1) }
theorem ret_int {k : IntKind} {a b : Int} (h : a = b) : Ending.returned (.int k a) = .returned (.int k b) := by rw [h]
theorem op_end {w : World} {F : Nat → Prop} {g : Nat} {vl vr : Value} {D : DS} (h : DevAt w F g vl vr D) (x : Int) (hx : x = max (D.fuse - 1) (-1)) :
  DevAt (((w.setCell ⟨g, 2, none⟩ (.int .i64 ((D.ops : Int) + 1))).setCell ⟨g, 4, none⟩ (.bool (D.fuse == 0))).setCell ⟨g, 3, none⟩ (.int .i64 x)) F g vl vr D.tick ∧
  Keep (Only g) w (((w.setCell ⟨g, 2, none⟩ (.int .i64 ((D.ops : Int) + 1))).setCell ⟨g, 4, none⟩ (.bool (D.fuse == 0))).setCell ⟨g, 3, none⟩ (.int .i64 x)) := by
 subst hx
 have hk := (((Keep.refl (Only g) w).cell 2 (.int .i64 ((D.ops : Int) + 1))).cell 4 (.bool (D.fuse == 0))).cell 3 (.int .i64 (max (D.fuse - 1) (-1)))
 have hb := ((h.blk.set 2 (.int .i64 ((D.ops : Int) + 1))).set 4 (.bool (D.fuse == 0))).set 3 (.int .i64 (max (D.fuse - 1) (-1)))
 exact ⟨h.turn hk (by simpa [DS.tick] using hb) rfl rfl, hk⟩
theorem op_calls {w : World} {F : Nat → Prop} {g : Nat} {vl vr : Value} {D : DS} (hD : DevAt w F g vl vr D) (ho : D.ops ≤ 1152921504606846976) (hf : -1 ≤ D.fuse) (hf' : D.fuse ≤ 9223372036854775807) :
  Calls Try.prog 60 #[.pointer (some ⟨g, 0, none⟩)] w (fun e w' => e = .returned (.bool (!(D.fuse == 0))) ∧ DevAt w' F g vl vr D.tick ∧ Keep (Only g) w w') := by
 obtain ⟨⟨-, -, h2, h3, h4⟩, -, -, f2, f3, f4⟩ := hD.cells
 have ho' : (D.ops : Int) ≤ 1152921504606846976 := by omega
 go_enter Try.func60, Try.ntmps60
 go_wp2
 all_goals
  go_ret
  exact ⟨rfl, op_end hD _ (by omega)⟩
theorem count_calls {w : World} {F : Nat → Prop} {g : Nat} {vl vr : Value} {D : DS} (h : DevAt w F g vl vr D) :
  Calls Try.prog 24 #[.pointer (some ⟨g, 0, none⟩)] w (fun e w' => e = .returned (.int .i64 (D.l.length : Int)) ∧ w = w') := by
 obtain ⟨⟨h0, -⟩, -⟩ := h.cells
 obtain ⟨A, c, rfl⟩ := h.l.val
 rw [List.length_map] at h0
 go_enter Try.func24, Try.ntmps24
 go_wp2
 go_ret
 exact ⟨rfl, rfl⟩
theorem down_calls {w : World} {F : Nat → Prop} {g : Nat} {vl vr : Value} {D : DS} (h : DevAt w F g vl vr D) :
  Calls Try.prog 28 #[.pointer (some ⟨g, 0, none⟩)] w (fun e w' => e = .returned (.bool D.down) ∧ w = w') := by
 obtain ⟨⟨-, -, -, -, h4⟩, -⟩ := h.cells
 go_enter Try.func28, Try.ntmps28
 go_wp2
 go_ret
 exact ⟨rfl, rfl⟩
theorem arm_calls {w : World} {F : Nat → Prop} {g : Nat} {vl vr : Value} {D : DS} (h : DevAt w F g vl vr D) (n : Int) :
  Calls Try.prog 27 #[.pointer (some ⟨g, 0, none⟩), .int .i64 n] w (fun e w' => e = .returned (.tuple #[]) ∧ DevAt w' F g vl vr (D.arm n) ∧ Keep (Only g) w w') := by
 obtain ⟨⟨-, -, -, h3, -⟩, -, -, -, f3, -⟩ := h.cells
 have fin : ∀ x : Int, x = max n (-1) → DevAt (w.setCell ⟨g, 3, none⟩ (.int .i64 x)) F g vl vr (D.arm n) ∧ Keep (Only g) w (w.setCell ⟨g, 3, none⟩ (.int .i64 x)) := by
  intro x hx
  subst hx
  have hk := (Keep.refl (Only g) w).cell 3 (.int .i64 (max n (-1)))
  exact ⟨h.turn hk (by simpa [DS.arm] using h.blk.set 3 (.int .i64 (max n (-1)))) rfl rfl, hk⟩
 have Fin := hid fin
 clear fin
 go_enter Try.func27, Try.ntmps27
 go_wp2
 all_goals
  go_end0
  exact ⟨rfl, Fin.out _ (by omega)⟩
def DS.new (n : Nat) : DS := ⟨List.replicate n zb, [], 0, -1, false⟩
/-- How many blocks a count asks for. -/
def clampN (c : Int) : Nat := (min (max c 1) 4096).toNat
theorem new_fin {w W1 W2 : World} {n g : Nat} (hn1 : 1 ≤ n) (HR : Rows W1 (fun k => k = w.heap.size) 103 64 (.slice (some ⟨w.heap.size, 0, none⟩) n n) (List.replicate n (bv zb))) (HK : Keep Noth w W1)
  (hg : W1.heap.size ≤ g) (hb : BlockIs W2 g [.slice (some ⟨w.heap.size, 0, none⟩) n n, .slice none 0 0, .int .i64 0, .int .i64 (-1), .bool false] 96) (hk : Keep Noth W1 W2) : DevIs W2 (Fresh w W2) g (DS.new n) ∧ Keep Noth w W2 := by
 have hs := HK.size
 have hs2 := hk.size
 have hlt : w.heap.size < W1.heap.size := (HR.own.lt _ rfl).2
 refine ⟨⟨_, _, fun k hk => hk.2, ⟨by omega, hb.lt⟩, hb, ?_, Rows.nil _ _ _ _⟩, HK.trans hk (fun _ _ h => h)⟩
 have := (HR.keep hk (Dj.noth _)).mono (G := Fresh w W2) (fun k hk' => by subst hk'; exact ⟨Nat.le_refl _, by omega⟩)
 simpa [DS.new] using this
theorem new_calls (w : World) (c : Int) :
  Calls Try.prog 17 #[.int .i64 c] w (fun e w' => ∃ g, e = .returned (.pointer (some ⟨g, 0, none⟩)) ∧ DevIs w' (Fresh w w') g (DS.new (clampN c)) ∧ Keep Noth w w') := by
 obtain ⟨i0, hi, hz0, hz1, hz2⟩ := info_parts info103
 obtain ⟨n, hn⟩ : ∃ n, n = clampN c := ⟨_, rfl⟩
 have hn1 : 1 ≤ n := by rw [hn]; unfold clampN; omega
 have hn2 : n ≤ 4096 := by rw [hn]; unfold clampN; omega
 have hnc : (n : Int) = min (max c 1) 4096 := by rw [hn]; unfold clampN; omega
 rw [← hn]
 have Hnc := hid hnc
 have Hi := hid hi
 have Hz0 := hid hz0
 have Hz1 := hid hz1
 have Hz2 := hid hz2
 clear hn hnc hi hz0 hz1 hz2
 go_enter Try.func17, Try.ntmps17
 go_wp2_with (first | (refine wpList_make_full _ rfl _ _ 93 rfl 0 103 i0 zv 64 sl93 Hi.out Hz0.out Hz1.out .i64 .i64 _ _ n (by rfl) (by rfl) (by have := Hnc.out; omega) (by have := Hnc.out; omega) (by rw [Hz2.out]; omega) (by unfold maxLen; omega) (Nat.zero_le _) ?_; intro W1 HO1 HG1) | (refine wpList_box_v rfl 96 _ rfl [.slice (some ⟨w.heap.size, 0, none⟩) n n, .slice none 0 0, .int .i64 0, .int .i64 (-1), .bool false] (by rfl) ?_; intro b W2 hb B2 K2))
 all_goals
  go_ret
  rw [zv_cells] at HO1
  exact ⟨b, rfl, new_fin hn1 (Rows.made bvz_length (by decide) HO1) ((Keep.refl _ _).grown HG1 (fun _ h => by cases h)) hb B2 K2⟩
/-- Bytes, and zeros behind. -/
def fillz (b : List UInt8) : Bk := splice zb 0 b
theorem fillz_length (b : List UInt8) (h : b.length ≤ 64) : (fillz b).length = 64 := by unfold fillz; rw [length_splice _ _ _ (by rw [zb_length]; omega), zb_length]
def DS.put (D : DS) (k : Nat) (b : List UInt8) : DS := { D with row := D.row ++ [(k, fillz b)] }
theorem build105 (k : Int) (W : World) : (Instr.build 105 #[(0, .int .i64 k)]).run Try.prog W = .ok (.agg (.int .i64 k :: bv zb).toArray) W := by kernel_rfl
theorem bv_fillz (b : List UInt8) (k : Nat) : wv (k, fillz b) = splice (wv (k, zb)) 1 (bv b) := by
 unfold wv fillz splice bv
 simp [List.map_take, List.map_drop, Nat.add_comm]
theorem write_down {w : World} {F : Nat → Prop} {g : Nat} {vl vr : Value} {D : DS} (hD : DevAt w F g vl vr D) (hd : D.down = true) (k : Int) (v : Value) :
  Calls Try.prog 36 #[.pointer (some ⟨g, 0, none⟩), .int .i64 k, v] w (fun e w' => e = .returned (.int .i64 100) ∧ w = w') := by
 obtain ⟨⟨-, -, -, -, h4⟩, -⟩ := hD.cells
 rw [hd] at h4
 clear hd hD
 go_enter Try.func36, Try.ntmps36
 go_wp2_with fail
 go_ret
 exact ⟨rfl, rfl⟩
theorem write_at {w : World} {F : Nat → Prop} {g : Nat} {vl vr : Value} {D : DS} (hD : DevAt w F g vl vr D) (hd : D.down = false) (k : Int) (A : Option Addr) (n c : Nat) (hn : n ≤ 140737488351232) (hk : k < 0 ∨ (D.l.length : Int) ≤ k ∨ 64 < n) :
  Calls Try.prog 36 #[.pointer (some ⟨g, 0, none⟩), .int .i64 k, .slice A n c] w (fun e w' => e = .returned (.int .i64 101) ∧ w = w') := by
 obtain ⟨⟨h0, -, -, -, h4⟩, -⟩ := hD.cells
 obtain ⟨Al, cl, rfl⟩ := hD.l.valm
 rw [hd] at h4
 clear hd hD
 by_cases h1 : k < 0
 ·go_enter Try.func36, Try.ntmps36
  go_wp2_with fail
  go_ret
  exact ⟨rfl, rfl⟩
 ·by_cases h2 : (D.l.length : Int) ≤ k
  ·go_enter Try.func36, Try.ntmps36
   go_wp2_with fail
   go_ret
   exact ⟨rfl, rfl⟩
  ·have h3 : (64 : Int) < n := by omega
   have h1' : 0 ≤ k := by omega
   have h2' : k < (D.l.length : Int) := by omega
   clear hk h1 h2
   go_enter Try.func36, Try.ntmps36
   go_wp2_with fail
   go_ret
   exact ⟨rfl, rfl⟩
theorem DevAt.rowed {w w4 : World} {F : Nat → Prop} {g : Nat} {vl vr v' : Value} {D : DS} {row' : List (Nat × Bk)} (hD : DevAt w F g vl vr D) (K : Keep (fun q => vr.ownBlock = some q) w w4) (B4 : BlockIs w4 g [vl, vr, .int .i64 (D.ops : Int), .int .i64 D.fuse, .bool D.down] 96)
  (H4 : Rows w4 (fun q => vr.ownBlock = some q ∨ (w.heap.size ≤ q ∧ q < w4.heap.size)) 105 65 v' (row'.map wv)) :
  DevAt (w4.setCell ⟨g, 1, none⟩ v') (grow F w (w4.setCell ⟨g, 1, none⟩ v')) g vl v' { D with row := row' } ∧ Keep F w (w4.setCell ⟨g, 1, none⟩ v') := by
 have hrow : ∀ q, vr.ownBlock = some q → F q ∧ q ≠ g := fun q hq => ⟨hD.row.foot q hq, fun e => hD.row.ne hD.blk (by decide) (by rw [hq, e])⟩
 have hg := hD.lt g hD.here
 have hK5 : Keep (Only g) w4 (w4.setCell ⟨g, 1, none⟩ v') := (Keep.refl _ _).cell 1 v'
 have hs := K.size
 have hs5 := hK5.size
 refine ⟨⟨grow_lt hD.lt (Nat.le_trans hs hs5), .inl hD.here, B4.set 1 v', ?_, ?_⟩, (K.mono (fun i _ h => (hrow i h).1)).trans hK5 (fun i _ e => by unfold Only at e; subst e; exact hD.here)⟩
 ·have h1 := hD.l.stay K (fun q hq hq' => hD.l.ne2 hD.row (by decide) q hq hq')
  have h2 := h1.stay hK5 (fun q hq e => hD.l.ne hD.blk (by decide) (by rw [hq, e]))
  exact h2.mono (fun q hq => .inl hq)
 ·have h2 := H4.stay hK5 (fun q hq e => by
   rcases H4.foot q hq with h | h
   ·exact (hrow q h).2 e
   ·unfold Only at e; omega)
  refine h2.mono (fun q hq => ?_)
  rcases hq with h | h
  ·exact .inl (hrow q h).1
  ·exact .inr ⟨h.1, Nat.lt_of_lt_of_le h.2 hs5⟩
theorem grow_more {F : Nat → Prop} {w w1 w2 : World} (h : w1.heap.size ≤ w2.heap.size) : ∀ k, grow F w w1 k → grow F w w2 k := fun k hk => hk.imp id (fun h' => ⟨h'.1, Nat.lt_of_lt_of_le h'.2 h⟩)
theorem Rows.one_val {w : World} {F : Nat → Prop} {e : TypeId} {size : Nat} {v : Value} {xs : List (List Value)} (h : Rows w F e size v xs) : v.oneCell' = true ∧ v.cells = #[v] := by
 obtain ⟨A, c, rfl⟩ := h.val
 exact ⟨rfl, rfl⟩
set_option maxHeartbeats 1000000 in
theorem write_ok {w : World} {F : Nat → Prop} {g : Nat} {vl vr : Value} {D : DS} (hD : DevAt w F g vl vr D) (hd : D.down = false) (hok : D.ok) (ho : D.ops ≤ 1099511627776) (hr : D.row.length ≤ 1099511627776) (k : Nat) (hk : k < D.l.length)
  (A : Option Addr) (c : Nat) (b : List UInt8) (hb : b.length ≤ 64) (hA : Reads w A (bv b)) :
  Calls Try.prog 36 #[.pointer (some ⟨g, 0, none⟩), .int .i64 (k : Int), .slice A b.length c] w (fun e w' => e = .returned (.int .i64 (if D.fuse == 0 then 100 else 0)) ∧ DevIs w' (grow F w w') g (D.put k b).tick ∧ Keep F w w') := by
 obtain ⟨⟨h0, h1, -, -, h4⟩, -⟩ := hD.cells
 have Hdev := hid hD
 obtain ⟨Al, cl, rfl⟩ := hD.l.valm
 obtain ⟨Ar, cr, rfl⟩ := hD.row.valm
 rw [hd] at h4
 have hk0 : (0 : Int) ≤ k := by omega
 have hk1 : (k : Int) < D.l.length := by omega
 have hb1 : (b.length : Int) ≤ 64 := by omega
 have HA := hid hA
 clear hd hA
 go_enter Try.func36, Try.ntmps36
 have hmin : (bv b).length = Nat.min b.length 64 := by rw [bv_length]; exact (Nat.min_eq_left hb).symm
 have Hmin := hid hmin
 clear hmin
 go_wp2_with (first | (refine wpList_run rfl _ _ (build105 _ _) ?_) | (refine wpList_alloc_store rfl 105 rfl 7 _ rfl (by rfl) rfl rfl (by decide) zw (wv (k, zb)) (by rw [show (wv (k, zb)).length = 65 from wv0_length]; exact info105) (wv (0, zb)) zw_cells rfl (by rfl) (wv_one _) ?_; intro bw w1 hbw B1 K1) | (refine wpList_copy_blk rfl _ _ 33 33 rfl 5 sl33 size5 bw 1 A 64 _ _ c (by rfl) (by rfl) (bv b) (wv (k, zb)) 105 B1 Hmin.out (HA.out.keep K1 (fun _ _ => id)) (by rw [bv_length, show (wv (k, zb)).length = 65 from wv0_length]; omega) (bv_one b) ?_; intro w2 B2 K2))
 rw [← bv_fillz] at B2
 have hBg : BlockIs w2 g [.slice Al D.l.length cl, .slice Ar D.row.length cr, .int .i64 (D.ops : Int), .int .i64 D.fuse, .bool D.down] 96 :=
  (Hdev.out.blk.keep K1 id).keep K2 (fun e => by have := Hdev.out.lt g Hdev.out.here; unfold Only at e; omega)
 have Hw65 : Hid ((wv (k, fillz b)).length = 65) := by show _ = _; simp [wv, fillz_length b hb]
 refine wp_region_ordL [(0, true), (1, true), (2, true), (3, true), (4, true), (5, true), (6, false), (7, false), (8, true), (9, true), (10, false)] (fun w' => BlockIs w' g [.slice Al D.l.length cl, .slice Ar D.row.length cr, .int .i64 (D.ops : Int), .int .i64 D.fuse, .bool D.down] 96 ∧ BlockIs w' bw (wv (k, fillz b)) 105) follows_mixed (by kernel_rfl) ⟨hBg, B2⟩ ?_
 simp only [List.map_cons, List.map_nil, List.getElem?_cons_succ, List.getElem?_cons_zero, Option.getD_some]
 go_frame
 refine wpO_pure (v := .pointer (some ⟨g, 0, none⟩)) (by rfl) (fun w' hw' => by rfl) ?_
 go_frame
 refine wpO_pure (v := .pointer (some ⟨g, 0, none⟩)) (by rfl) (fun w' hw' => by rfl) ?_
 go_frame
 refine wpO_pure (v := .pointer (some ⟨g, 0, none⟩)) (by rfl) (fun w' hw' => by rfl) ?_
 go_frame
 refine wpO_pure (v := .pointer (some ⟨g, 1, none⟩)) (by rfl) (fun w' hw' => by go_simp) ?_
 go_frame
 refine wpO_pure (v := .slice Ar D.row.length cr) (by rfl) (fun w' hw' => by have hc := hw'.1.cell 1; simp only [List.getElem?_cons_succ, List.getElem?_cons_zero] at hc; go_simp) ?_
 go_frame
 refine wpO_pure (v := .agg (wv (k, fillz b)).toArray) (by rfl) (fun w' hw' => exec_load_blk 105 _ rfl bw 0 _ (wv (k, fillz b)) 105 _ (by simp [Act.eval]) hw'.2 (part0 _) Try.underlying105 rfl (by rw [Hw65.out]; exact info105)) ?_
 go_frame
 refine wpO_run (by rfl) (exec_buildSlice1 94 105 _ rfl sl94 (wv (k, fillz b)) zw info105 (by rw [zw_cells, List.size_toArray]; exact wv0_length) (by decide) (by decide) (by simp [Act.eval, Value.cells]) Hw65.out) (.inr ⟨hBg.drew.alloc _, B2.drew.alloc _⟩) ?_
 have K3 : Keep Noth w (w2.drew.alloc (.cells (wv (k, fillz b)).toArray 105)) := ((K1.trans K2 (fun i hi e => by unfold Only at e; omega)).drew).alloc _
 have B3 : BlockIs (w2.drew.alloc (.cells (wv (k, fillz b)).toArray 105)) w2.heap.size (wv (k, fillz b)) 105 := BlockIs.new w2.drew _ _
 have hBg3 := hBg.drew.alloc (.cells (wv (k, fillz b)).toArray 105)
 have hbw3 := B2.drew.alloc (.cells (wv (k, fillz b)).toArray 105)
 obtain ⟨v', w4, hr4, H4, K4⟩ := run_append_rows (P := Try.prog) 94 94 105 zw 65 72 sl94 info105 (by rw [zw_cells, List.size_toArray]; exact wv0_length) (by decide) (by decide) F (.slice Ar D.row.length cr) (D.row.map wv) [wv (k, fillz b)] (Hdev.out.row.keep K3 (Dj.noth _)) (some ⟨w2.heap.size, 0, none⟩) 1 1 rfl (fun h => by cases h)
  (fun y hy => by rw [List.mem_singleton.1 hy]; exact Hw65.out) (by rw [List.flatten_singleton]; exact Reads.of_range B3.rangeAll) (by rw [List.flatten_singleton]; exact wv_one _) (by rw [List.length_map]; omega)
 have hrow : ∀ q, (Value.slice Ar D.row.length cr).ownBlock = some q → F q ∧ q < w.heap.size ∧ q ≠ g := fun q hq =>
  ⟨Hdev.out.row.foot q hq, Hdev.out.lt q (Hdev.out.row.foot q hq), fun e => Hdev.out.row.ne Hdev.out.blk (by decide) (by rw [hq, e])⟩
 have hBg4 := hBg3.keep K4 (fun e => (hrow g e).2.2 rfl)
 have hbw4 := hbw3.keep K4 (fun e => by have := (hrow bw e).2.1; omega)
 go_frame
 refine wpO_run (by rfl) (exec_append _ _ 94 rfl (by simp [Act.eval]) (by simp [Act.eval]) hr4) (.inr ⟨hBg4, hbw4⟩) ?_
 go_frame
 refine wpO_pure (v := .pointer (some ⟨g, 0, none⟩)) (by rfl) (fun w' hw' => by rfl) ?_
 go_frame
 refine wpO_pure (v := .pointer (some ⟨g, 1, none⟩)) (by rfl) (fun w' hw' => by go_simp) ?_
 go_frame
 refine wpO_store (by rfl) (exec_store_cell 94 _ _ rfl g 1 v' _ 96 (by simp [Act.eval]) (by simp [Act.eval]) hBg4 (by simp) ?_ ?_ info94) (.inl rfl) ?_
 ·exact H4.one_val.1
 ·exact H4.one_val.2
 refine wpO_nil ?_
 go_frame
 have hKK : Keep (fun q => (Value.slice Ar D.row.length cr).ownBlock = some q) w w4 := (K3.mono (fun _ _ h => h.elim)).trans K4 (fun _ _ h => h)
 have hs3 := K3.size
 obtain ⟨hD5, K5⟩ := Hdev.out.rowed hKK hBg4 (row' := D.row ++ [(k, fillz b)]) ((show Rows w4 _ 105 65 v' ((D.row ++ [(k, fillz b)]).map wv) from by rw [List.map_append]; exact H4).mono (fun q hq => by
  rcases hq with h | h
  ·exact .inl h
  ·exact .inr ⟨Nat.le_trans hs3 h.1, h.2⟩))
 generalize hw5 : w4.setCell ⟨g, 1, none⟩ v' = w5 at *
 clear hw5 hBg4 hbw4 hrow hr4 H4 K4 hBg3 hbw3 B3 K3 hBg B2 K2 B1 K1 h0 h1 h4
 have hop := op_calls hD5 (show D.ops ≤ 1152921504606846976 by omega) hok.fuse hok.fuse'
 cases hf : (D.fuse == 0) with
 | true =>
  go_wp2_with (go_at_call 60; refine hop.mono ?_; rintro e w6 ⟨rfl, H6, K6⟩; dsimp only; rw [hf])
  go_ret
  exact ⟨rfl, DevIs.mono ⟨_, _, H6⟩ (grow_more K6.size) (grow_lt Hdev.out.lt (Nat.le_trans K5.size K6.size)), K5.trans K6 (fun i _ e => by unfold Only at e; subst e; exact Hdev.out.here)⟩
 | false =>
  go_wp2_with (go_at_call 60; refine hop.mono ?_; rintro e w6 ⟨rfl, H6, K6⟩; dsimp only; rw [hf])
  go_ret
  exact ⟨rfl, DevIs.mono ⟨_, _, H6⟩ (grow_more K6.size) (grow_lt Hdev.out.lt (Nat.le_trans K5.size K6.size)), K5.trans K6 (fun i _ e => by unfold Only at e; subst e; exact Hdev.out.here)⟩
def DS.flushed (D : DS) : DS := { D.tick with l := D.all, row := [] }
theorem tick_ok {D : DS} (h : D.ok) : D.tick.ok := ⟨h.l64, h.row64, h.one, h.most, by simp only [DS.tick]; omega, by have := h.fuse'; simp only [DS.tick]; omega⟩
theorem grow_less {F : Nat → Prop} {w w1 w2 : World} (h : w.heap.size ≤ w1.heap.size) : ∀ k, grow F w1 w2 k → grow F w w2 k := fun k hk => hk.imp id (fun h' => ⟨Nat.le_trans h h'.1, h'.2⟩)
theorem flush_down {w : World} {F : Nat → Prop} {g : Nat} {vl vr : Value} {D : DS} (hD : DevAt w F g vl vr D) (hd : D.down = true) :
  Calls Try.prog 31 #[.pointer (some ⟨g, 0, none⟩)] w (fun e w' => e = .returned (.int .i64 100) ∧ w = w') := by
 obtain ⟨⟨-, -, -, -, h4⟩, -⟩ := hD.cells
 rw [hd] at h4
 clear hd hD
 go_enter Try.func31, Try.ntmps31
 go_wp2_with fail
 go_ret
 exact ⟨rfl, rfl⟩
theorem flush_blow {w : World} {F : Nat → Prop} {g : Nat} {vl vr : Value} {D : DS} (hD : DevAt w F g vl vr D) (hd : D.down = false) (ho : D.ops ≤ 1099511627776) (hf : D.fuse = 0) :
  Calls Try.prog 31 #[.pointer (some ⟨g, 0, none⟩)] w (fun e w' => e = .returned (.int .i64 100) ∧ DevAt w' F g vl vr D.tick ∧ Keep (Only g) w w') := by
 obtain ⟨⟨-, -, -, -, h4⟩, -⟩ := hD.cells
 rw [hd] at h4
 have hop := op_calls hD (show D.ops ≤ 1152921504606846976 by omega) (by omega) (by omega)
 have Hf := hid hf
 clear hd hD hf
 go_enter Try.func31, Try.ntmps31
 go_wp2_with (go_at_call 60; refine hop.mono ?_; rintro e w1 ⟨rfl, H1, K1⟩; dsimp only; rw [Hf.out])
 go_ret
 exact ⟨rfl, H1, K1⟩
theorem DevAt.flush_end {w w2 : World} {F : Nat → Prop} {g : Nat} {vl vr v' : Value} {D : DS} (hok : D.ok) (hD : DevAt w F g vl vr D.tick) (H2 : Rows w2 (Fresh w w2) 103 64 v' (D.all.map bv)) (K2 : Keep Noth w w2) :
  DevIs ((w2.setCell ⟨g, 0, none⟩ v').setCell ⟨g, 1, none⟩ (.slice none 0 0)) (grow F w ((w2.setCell ⟨g, 0, none⟩ v').setCell ⟨g, 1, none⟩ (.slice none 0 0))) g D.flushed ∧
  Keep F w ((w2.setCell ⟨g, 0, none⟩ v').setCell ⟨g, 1, none⟩ (.slice none 0 0)) := by
 have hg := hD.lt g hD.here
 have hb2 := hD.blk.keep K2 id
 have hb4 := (hb2.set 0 v').set 1 (.slice none 0 0)
 have hk : Keep (Only g) w2 ((w2.setCell ⟨g, 0, none⟩ v').setCell ⟨g, 1, none⟩ (.slice none 0 0)) := ((Keep.refl _ _).cell 0 v').cell 1 _
 have hs := K2.size
 have hs2 := hk.size
 refine ⟨⟨v', .slice none 0 0, grow_lt hD.lt (Nat.le_trans hs hs2), .inl hD.here, hb4, ?_, Rows.nil _ _ _ _⟩, (K2.mono (fun _ _ h => h.elim)).trans hk (fun i _ e => by unfold Only at e; subst e; exact hD.here)⟩
 refine (H2.stay hk (fun q hq e => ?_)).mono (fun q hq => .inr ⟨hq.1, Nat.lt_of_lt_of_le hq.2 hs2⟩)
 have := (H2.foot q hq).1
 unfold Only at e
 omega
theorem flush_ok {w : World} {F : Nat → Prop} {g : Nat} {vl vr : Value} {D : DS} (hD : DevAt w F g vl vr D) (hd : D.down = false) (hok : D.ok) (ho : D.ops ≤ 1099511627776) (hr : D.row.length ≤ 1099511627776) (hf : D.fuse ≠ 0) :
  Calls Try.prog 31 #[.pointer (some ⟨g, 0, none⟩)] w (fun e w' => e = .returned (.int .i64 0) ∧ DevIs w' (grow F w w') g D.flushed ∧ Keep F w w') := by
 obtain ⟨⟨-, -, -, -, h4⟩, -⟩ := hD.cells
 rw [hd] at h4
 have hop := op_calls hD (show D.ops ≤ 1152921504606846976 by omega) hok.fuse hok.fuse'
 have Hf : Hid ((D.fuse == 0) = false) := by show _ = _; simpa using hf
 have Hg := hid hD.here
 clear hd hD hf
 go_enter Try.func31, Try.ntmps31
 go_wp2_with (first | (go_at_call 60; refine hop.mono ?_; rintro e w1 ⟨rfl, H1, K1⟩; dsimp only; rw [Hf.out]; have hall := all_calls H1 (tick_ok hok) hr) | (go_at_call 59; refine hall.mono ?_; rintro e w2 ⟨v', rfl, H2, K2⟩; obtain ⟨A2, c2, hv2⟩ := H2.valm; subst hv2; obtain ⟨⟨c0, c1, -, -, -⟩, ⟨f0, f1, -, -, -⟩⟩ := (H1.keep K2 (Dj.noth _)).cells))
 go_ret
 obtain ⟨E1, E2⟩ := H1.flush_end hok H2 K2
 exact ⟨rfl, E1.mono (grow_less K1.size) (fun k hk => hk.elim (fun h => E1.lt k (.inl h)) (fun h => h.2)), (K1.mono (fun i _ e => by unfold Only at e; subst e; exact Hg.out)).trans E2 (fun _ _ h => h)⟩
end Go.Proofs.Ytffcglfepobdjaa
set_option maxHeartbeats 2000000
namespace Go.Proofs.Ytffcglfepobdjaa
open Go.RowKit
theorem five_one {v1 v2 : Value} (h1 : v1.oneCell' = true) (h2 : v2.oneCell' = true) (a b : Int) (d : Bool) : ∀ u ∈ [v1, v2, .int .i64 a, .int .i64 b, .bool d], u.oneCell' = true := by
 intro u hu
 simp only [List.mem_cons, List.not_mem_nil, or_false] at hu
 rcases hu with rfl | rfl | rfl | rfl | rfl <;> first | assumption | rfl
theorem copy_calls {w : World} {F : Nat → Prop} {g : Nat} {vl vr : Value} {D : DS} (hD : DevAt w F g vl vr D) (hok : D.ok) (hr : D.row.length ≤ 1099511627776) :
  Calls Try.prog 32 #[.pointer (some ⟨g, 0, none⟩)] w (fun e w' => ∃ gn, e = .returned (.pointer (some ⟨gn, 0, none⟩)) ∧ DevIs w' (Fresh w w') gn D ∧ Keep Noth w w') := by
 have Hdev := hid hD
 obtain ⟨Al, cl, rfl⟩ := hD.l.valm
 obtain ⟨Ar, cr, rfl⟩ := hD.row.valm
 have hmost := hok.most
 clear hD
 go_enter Try.func32, Try.ntmps32
 go_wp2_with (first | (refine wpList_load_blk rfl 96 _ rfl g 0 _ [.slice Al D.l.length cl, .slice Ar D.row.length cr, .int .i64 (D.ops : Int), .int .i64 D.fuse, .bool D.down] 96 _ (by rfl) Hdev.out.blk (part0 _) Try.underlying96 rfl info96 ?_) | (refine wpList_alloc_store rfl 96 rfl 3 _ rfl (by rfl) rfl rfl (by decide) zdev [.slice Al D.l.length cl, .slice Ar D.row.length cr, .int .i64 (D.ops : Int), .int .i64 D.fuse, .bool D.down] info96 _ rfl rfl (by rfl) (five_one rfl rfl _ _ _) ?_; intro gn w1 hgn B1 K1))
 have hb1 := Hdev.out.blk.keep K1 id
 go_frame
 refine wp_region_ordL [(0, true), (1, true), (2, true), (3, true), (5, true), (6, true), (7, true), (8, true), (4, false), (9, false), (10, true), (11, false), (12, true), (13, false)] (fun w' => BlockIs w' g [.slice Al D.l.length cl, .slice Ar D.row.length cr, .int .i64 (D.ops : Int), .int .i64 D.fuse, .bool D.down] 96) follows_mixed (by kernel_rfl) hb1 ?_
 simp only [List.map_cons, List.map_nil, List.getElem?_cons_succ, List.getElem?_cons_zero, Option.getD_some]
 refine wpO_pure (v := .pointer (some ⟨g, 0, none⟩)) (by rfl) (fun w' hw' => by rfl) ?_
 go_frame
 refine wpO_pure (v := .pointer (some ⟨g, 0, none⟩)) (by rfl) (fun w' hw' => by rfl) ?_
 go_frame
 refine wpO_pure (v := .pointer (some ⟨g, 0, none⟩)) (by rfl) (fun w' hw' => by go_simp) ?_
 go_frame
 refine wpO_pure (v := .slice Al D.l.length cl) (by rfl) (fun w' hw' => by have hc := hw'.cell 0; simp only [List.getElem?_cons_zero] at hc; go_simp) ?_
 go_frame
 refine wpO_pure (v := .pointer (some ⟨g, 0, none⟩)) (by rfl) (fun w' hw' => by rfl) ?_
 go_frame
 refine wpO_pure (v := .pointer (some ⟨g, 0, none⟩)) (by rfl) (fun w' hw' => by rfl) ?_
 go_frame
 refine wpO_pure (v := .pointer (some ⟨g, 1, none⟩)) (by rfl) (fun w' hw' => by go_simp) ?_
 go_frame
 refine wpO_pure (v := .slice Ar D.row.length cr) (by rfl) (fun w' hw' => by have hc := hw'.cell 1; simp only [List.getElem?_cons_zero, List.getElem?_cons_succ] at hc; go_simp) ?_
 go_frame
 have hD1 := (Hdev.out.keep K1 (Dj.noth _)).keep ((Keep.refl Noth w1).drew) (Dj.noth _)
 refine wpO_call (by rfl) (exec_call' 61 _ _ rfl Try.func61 (by kernel_rfl) (by rfl) #[.slice Al D.l.length cl] (by simp [Act.eval])) ((clone61_calls hD1.l (by omega)).mono ?_)
 rintro e w2 ⟨v2, rfl, H2, K2⟩
 have hD2 := hD1.keep K2 (Dj.noth _)
 refine ⟨v2, rfl, .inr hD2.blk, ?_⟩
 go_frame
 refine wpO_call (by rfl) (exec_call' 62 _ _ rfl Try.func62 (by kernel_rfl) (by rfl) #[.slice Ar D.row.length cr] (by simp [Act.eval])) ((clone62_calls hD2.row hr).mono ?_)
 rintro e w3 ⟨v3, rfl, H3, K3⟩
 have hD3 := hD2.keep K3 (Dj.noth _)
 have B3 := (B1.drew.keep K2 id).keep K3 id
 refine ⟨v3, rfl, .inr hD3.blk, ?_⟩
 go_frame
 have hgg : g ≠ gn := by have := Hdev.out.lt g Hdev.out.here; omega
 refine wpO_pure (v := .pointer (some ⟨gn, 0, none⟩)) (by rfl) (fun w' hw' => by go_simp) ?_
 go_frame
 refine wpO_store (by rfl) (exec_store_cell 93 _ _ rfl gn 0 v2 _ 96 (by simp [Act.eval]) (by simp [Act.eval]) B3 (by simp) H2.one_val.1 H2.one_val.2 info93) (.inr (hD3.blk.far _ hgg _)) ?_
 go_frame
 refine wpO_pure (v := .pointer (some ⟨gn, 1, none⟩)) (by rfl) (fun w' hw' => by go_simp) ?_
 go_frame
 refine wpO_store (by rfl) (exec_store_cell 94 _ _ rfl gn 1 v3 _ 96 (by simp [Act.eval]) (by simp [Act.eval]) (B3.set 0 v2) (by simp) H3.one_val.1 H3.one_val.2 info94) (.inl rfl) ?_
 refine wpO_nil ?_
 go_frame
 have B5 := (B3.set 0 v2).set 1 v3
 generalize hw5 : ((w3.setCell ⟨gn, 0, none⟩ v2).setCell ⟨gn, 1, none⟩ v3) = w5 at *
 have hs1 := K1.size
 have hs2 := K2.size
 have hs3 := K3.size
 have hs5 : w5.heap.size = w3.heap.size := by rw [← hw5]; simp
 simp only [World.size_drew] at hs2
 have K35 : Keep (Only gn) w3 w5 := by rw [← hw5]; exact ((Keep.refl _ _).cell 0 v2).cell 1 v3
 have hfin : DevIs w5 (Fresh w w5) gn D ∧ Keep Noth w w5 := by
  have hlt := B1.lt
  refine ⟨⟨v2, v3, fun k hk => hk.2, ⟨hgn, by omega⟩, by simpa using B5, ?_, ?_⟩, (((K1.drew.trans K2 (fun _ _ h => h)).trans K3 (fun _ _ h => h)).trans K35 (fun i hi e => by unfold Only at e; omega))⟩
  ·refine ((H2.keep K3 (Dj.noth _)).stay K35 (fun q hq e => ?_)).mono (fun q hq => ⟨by have := hq.1; simp only [World.size_drew] at this; omega, by have := hq.2; omega⟩)
   have := (H2.foot q hq).1
   unfold Only at e
   simp only [World.size_drew] at this
   omega
  ·refine (H3.stay K35 (fun q hq e => ?_)).mono (fun q hq => ⟨by have := hq.1; omega, by have := hq.2; omega⟩)
   have := (H3.foot q hq).1
   unfold Only at e
   omega
 clear K35 hw5 hs5 B5 B3 H2 H3 K2 K3 hD1 hD2 hD3 K1 B1
 go_wp2_with fail
 go_ret
 exact ⟨gn, rfl, hfin.1, hfin.2⟩
/-- A block of an image's bytes, from one on. -/
def chunk (im : List UInt8) (o : Nat) : Bk := fillz ((im.drop o).take 64)
theorem chunk_length (im : List UInt8) (o : Nat) : (chunk im o).length = 64 := fillz_length _ (by rw [List.length_take]; omega)
def ofN (im : List UInt8) : Nat := clampN (((im.length + 63) / 64 : Nat) : Int)
def ofL (im : List UInt8) (n k : Nat) : List Bk := (List.range n).map fun j => if j < k then chunk im (64 * j) else zb
def DS.of (im : List UInt8) : DS := ⟨ofL im (ofN im) (ofN im), [], 0, -1, false⟩
def DS.ofK (im : List UInt8) (k : Nat) : DS := ⟨ofL im (ofN im) k, [], 0, -1, false⟩
theorem ofL_length (im : List UInt8) (n k : Nat) : (ofL im n k).length = n := by simp [ofL]
theorem ofL_zero (im : List UInt8) (n : Nat) : ofL im n 0 = List.replicate n zb := by
 apply List.ext_getElem?
 intro j
 by_cases h : j < n <;> simp [ofL, h]
theorem ofL_succ (im : List UInt8) (n k : Nat) (hk : k < n) : ofL im n (k + 1) = (ofL im n k).set k (chunk im (64 * k)) := by
 apply List.ext_getElem?
 intro j
 by_cases h : j < n
 ·by_cases h2 : k = j
  ·subst h2
   simp [ofL, h]
  ·have h3 : (j < k + 1) = (j < k) := by simp; omega
   simp [ofL, h, h2, h3]
 ·simp [ofL, h, hk]
theorem new_of (im : List UInt8) : DS.new (ofN im) = DS.ofK im 0 := by simp [DS.new, DS.ofK, ofL_zero]
theorem ofL_at (im : List UInt8) (n k : Nat) (hk : k < n) : (ofL im n k)[k]'(by rw [ofL_length]; exact hk) = zb := by simp [ofL]
theorem bv_splice (L : List UInt8) (o : Nat) (b : List UInt8) : bv (splice L o b) = splice (bv L) o (bv b) := by
 unfold bv splice
 simp [List.map_take, List.map_drop]
theorem chunk_of (im : List UInt8) (k l : Nat) (hl : l = min (k * 64) im.length) : (im.drop l).take 64 = (im.drop (64 * k)).take 64 := by
 by_cases h : k * 64 ≤ im.length
 ·have : l = 64 * k := by omega
  rw [this]
 ·have e : l = im.length := by omega
  rw [e, List.drop_length, List.drop_eq_nil_of_le (by omega)]
theorem DevAt.of_chunk {w : World} {F : Nat → Prop} {g gl cl k l : Nat} {vr : Value} {im : List UInt8} (h : DevAt w F g (.slice (some ⟨gl, 0, none⟩) (ofN im) cl) vr (DS.ofK im k)) (hk : k < ofN im) (hl : l = min (k * 64) im.length) :
  DevAt (w.setCells gl (k * 64) (bv ((im.drop l).take 64))) F g (.slice (some ⟨gl, 0, none⟩) (ofN im) cl) vr (DS.ofK im (k + 1)) ∧ Keep (Only gl) w (w.setCells gl (k * 64) (bv ((im.drop l).take 64))) := by
 have hK : Keep (Only gl) w (w.setCells gl (k * 64) (bv ((im.drop l).take 64))) := Keep.setCells _ _ (Keep.refl _ _) (fun _ => rfl)
 have hne : ¬ Only gl g := fun e => h.l.ne h.blk (by decide) (by unfold Only at e; rw [← e]; rfl)
 have hlen : k < ((DS.ofK im k).l.map bv).length := by rw [List.length_map]; show k < (ofL im (ofN im) k).length; rw [ofL_length]; exact hk
 refine ⟨⟨fun q hq => Nat.lt_of_lt_of_le (h.lt q hq) hK.size, h.here, h.blk.keep hK hne, ?_, h.row.stay hK (fun q hq e => h.l.ne2 h.row (by decide) gl rfl (by unfold Only at e; rw [hq, e]))⟩, hK⟩
 have := h.l.splice k 0 (bv ((im.drop l).take 64)) hlen (by rw [bv_length, List.length_take]; omega)
 rw [Nat.add_zero] at this
 have e : ((DS.ofK im k).l.map bv).set k (splice ((DS.ofK im k).l.map bv)[k] 0 (bv ((im.drop l).take 64))) = (DS.ofK im (k + 1)).l.map bv := by
  have hz : ((DS.ofK im k).l.map bv)[k] = bv zb := by rw [List.getElem_map]; exact congrArg bv (ofL_at im _ k hk)
  rw [hz, ← bv_splice, ← List.map_set, chunk_of im k l hl]
  exact congrArg (List.map bv) (ofL_succ im _ k hk).symm
 rw [e] at this
 exact this
theorem of_calls0 (w : World) (A : Option Addr) (c : Nat) (im : List UInt8) (hA : Reads w A (bv im)) (hl : im.length ≤ 262144) (hc : im.length ≤ c) :
  Calls Try.prog 33 #[.slice A im.length c] w (fun e w' => ∃ g, e = .returned (.pointer (some ⟨g, 0, none⟩)) ∧ DevIs w' (Fresh w w') g (DS.of im) ∧ Keep Noth w w') := by
 have hn1 : 1 ≤ ofN im := by unfold ofN clampN; omega
 have hn2 : ofN im ≤ 4096 := by unfold ofN clampN; omega
 have hlI : (im.length : Int) ≤ 262144 := by omega
 have hcI : (im.length : Int) ≤ c := by omega
 have hdiv : ((im.length : Int) + 64 - 1) / 64 = (((im.length + 63) / 64 : Nat) : Int) := by omega
 have Hdiv := hid hdiv
 have HA := hid hA
 clear hA hdiv
 go_enter Try.func33, Try.ntmps33
 go_wp2_with (go_at_call 17; rw [Hdiv.out]; refine (new_calls _ _).mono ?_; rintro e w1 ⟨g, rfl, hdev, K1⟩; rw [show DS.new (clampN (((im.length + 63) / 64 : Nat) : Int)) = DS.ofK im 0 from new_of im] at hdev; obtain ⟨vl, vr, H1⟩ := hdev; obtain ⟨Al, cl, hvl⟩ := H1.l.valm; rw [show (DS.ofK im 0).l.length = ofN im from ofL_length _ _ _] at hvl; subst hvl; have hc0 := H1.cells.1.1)
 obtain ⟨gl, rfl⟩ := H1.l.some_at (by rw [List.length_map]; show 0 < (ofL im (ofN im) 0).length; rw [ofL_length]; omega)
 have hg : Fresh w w1 g := H1.here
 have Hg := hid hg
 have hgl0 : Fresh w w1 gl := H1.l.foot gl rfl
 have Hgl := hid hgl0
 clear hgl0 hg
 go_loopw [21] (fun i wr => ∃ k : Nat, i = .int .i64 k ∧ k ≤ ofN im ∧ DevAt wr (Fresh w w1) g (.slice (some ⟨gl, 0, none⟩) (ofN im) cl) vr (DS.ofK im k) ∧ Keep (Fresh w w1) w1 wr) (fun i _ => ofN im - (intOf i).toNat)
 case atStart => exact ⟨0, rfl, Nat.zero_le _, H1, Keep.refl _ _⟩
 case round =>
  obtain ⟨k, rfl, hkn, HD, HK⟩ := hrel
  clear hc0 H1
  by_cases hlt : k < ofN im
  ·have hlt' : (k : Int) < ofN im := by omega
   have hk4 : (k : Int) ≤ 4096 := by omega
   obtain ⟨l, hl0⟩ : ∃ l : Nat, l = min (k * 64) im.length := ⟨_, rfl⟩
   have hl1 : l ≤ im.length := by omega
   obtain ⟨A', hcut, hA'⟩ := cut_low (P := Try.prog) 33 5 .i64 sl33 info5 A im.length c l hl1
   have hcell := HD.cells
   have HD' := hid HD
   have Hl0 := hid hl0
   have Hcut := hid hcut
   have HA' := hid hA'
   clear hl0 hcut hA' hcell
   go_wp2_with fail
   have hBg := HD'.out.blk
   refine wp_region_ordL [(0, true), (1, true), (2, true), (3, true), (4, true), (5, true), (6, true), (7, true), (8, true), (9, true), (10, true), (11, true), (12, true), (13, true), (14, false)] (fun w' => BlockIs w' g [.slice (some ⟨gl, 0, none⟩) (ofN im) cl, vr, .int .i64 ((DS.ofK im k).ops : Int), .int .i64 (DS.ofK im k).fuse, .bool (DS.ofK im k).down] 96) follows_mixed (by kernel_rfl) hBg ?_
   simp only [List.map_cons, List.map_nil, List.getElem?_cons_succ, List.getElem?_cons_zero, Option.getD_some]
   refine wpO_pure (v := .pointer (some ⟨g, 0, none⟩)) (by rfl) (fun w' hw' => by rfl) ?_
   go_frame
   refine wpO_pure (v := .pointer (some ⟨g, 0, none⟩)) (by rfl) (fun w' hw' => by rfl) ?_
   go_frame
   refine wpO_pure (v := .pointer (some ⟨g, 0, none⟩)) (by rfl) (fun w' hw' => by go_simp) ?_
   go_frame
   refine wpO_pure (v := .slice (some ⟨gl, 0, none⟩) (ofN im) cl) (by rfl) (fun w' hw' => by have hc := hw'.cell 0; simp only [List.getElem?_cons_zero] at hc; go_simp) ?_
   go_frame
   refine wpO_pure (v := .int .i64 (k : Int)) (by rfl) (fun w' hw' => by rfl) ?_
   go_frame
   refine wpO_pure (v := .pointer (some ⟨gl, k * 64, none⟩)) (by rfl) (fun w' hw' => by go_simp) ?_
   go_frame
   refine wpO_pure (v := .slice (some ⟨gl, k * 64, none⟩) 64 64) (by rfl) (fun w' hw' => by go_simp) ?_
   go_frame
   refine wpO_pure (v := .slice A im.length c) (by rfl) (fun w' hw' => by rfl) ?_
   go_frame
   refine wpO_pure (v := .int .i64 (k : Int)) (by rfl) (fun w' hw' => by rfl) ?_
   go_frame
   refine wpO_pure (v := .int .i64 ((k : Int) * 64)) (by rfl) (fun w' hw' => by go_simp; exact IntWalk.i64_in _ (by omega)) ?_
   go_frame
   refine wpO_pure (v := .slice A im.length c) (by rfl) (fun w' hw' => by rfl) ?_
   go_frame
   refine wpO_pure (v := .int .i64 (im.length : Int)) (by rfl) (fun w' hw' => by go_simp) ?_
   go_frame
   have hm : (l : Int) = if (im.length : Int) < (k : Int) * 64 then (im.length : Int) else (k : Int) * 64 := by have := Hl0.out; split <;> omega
   have Hm := hid hm
   clear hm
   refine wpO_pure (v := .int .i64 (l : Int)) (by rfl) (fun w' hw' => by rw [Hm.out]; go_simp) ?_
   go_frame
   refine wpO_pure (v := .slice A' (im.length - l) (c - l)) (by rfl) (fun w' hw' => exec_sliceAt 33 _ _ _ rfl (by simp [Act.eval]) (by simp [Act.eval]) (by simp) (Hcut.out w')) ?_
   go_frame
   have hvs : ((im.drop l).take 64).length = Nat.min (im.length - l) 64 := by rw [List.length_take, List.length_drop]; exact Nat.min_comm _ _
   have hsrc : Reads wr.drew A' (bv ((im.drop l).take 64)) := by
    have h1 := HA'.out _ _ (by rw [bv_length]; exact hc) (HA.out.keep ((K1.trans HK (fun i hi e => by have := e.1; omega)).drew : Keep Noth w wr.drew) (fun _ _ => id))
    have h2 := h1.take 64
    unfold bv at h2 ⊢
    rw [← List.map_drop, ← List.map_take] at h2
    exact h2
   have hRl := HD'.out.l
   have hlen : k < ((DS.ofK im k).l.map bv).length := by rw [List.length_map]; show k < (ofL im (ofN im) k).length; rw [ofL_length]; exact hlt
   have hth := hRl.there k hlen
   refine wpO_run (by rfl) (exec_copy _ _ 33 33 rfl (by simp [Act.eval]) (by simp [Act.eval]) (run_copy_any 33 33 3 5 (some ⟨gl, k * 64, none⟩) A' 64 64 (im.length - l) (c - l) (bv ((im.drop l).take 64)) gl (k * 64) sl33 size5 (by rw [bv_length, hvs]) (fun _ => rfl) hsrc ?_ (bv_one _))) (.inl rfl) ?_
   ·intro j hj
    rw [bv_length, hvs] at hj
    exact hth j (Nat.lt_of_lt_of_le hj (Nat.min_le_right _ _))
   refine wpO_nil ?_
   go_frame
   have hnew := (HD'.out.keep ((Keep.refl Noth wr).drew) (Dj.noth _)).of_chunk hlt Hl0.out
   have Hnew := hid hnew
   clear hnew
   go_wp2_with fail
   go_roundw
   case rel => exact ⟨k + 1, by go_num, hlt, Hnew.out.1, HK.drew.trans Hnew.out.2 (fun i hi e => by unfold Only at e; subst e; exact Hgl.out)⟩
   case measure => simp [intOf]; omega
  ·have hge : k = ofN im := by omega
   subst hge
   go_wp2_with fail
   go_ret
   exact ⟨g, rfl, DevIs.mono ⟨_, _, HD⟩ (Fresh.grow HK.size) (fun q hq => hq.2), K1.trans HK (fun i hi e => by have := e.1; omega)⟩
end Go.Proofs.Ytffcglfepobdjaa
set_option maxHeartbeats 4000000
namespace Go.Proofs.Ytffcglfepobdjaa
open Go.RowKit
/-- What becomes of the k-th write. -/
def formOf (fs : List Int) (k : Nat) : Nat := if fs.length = 0 then 0 else ((max (fs.getD (k % fs.length) 0) 0) % 4).toNat
theorem formOf_lt (fs : List Int) (k : Nat) : formOf fs k < 4 := by unfold formOf; split <;> omega
/-- The half of a block. -/
def mix (f : Nat) (a b : Bk) : Bk := (if f = 1 ∨ f = 2 then b.take 32 else a.take 32) ++ (if f = 1 ∨ f = 3 then b.drop 32 else a.drop 32)
def crash1 (fs : List Int) (l : List Bk) (k : Nat) (p : Nat × Bk) : List Bk := l.set p.1 (mix (formOf fs k) (l.getD p.1 []) p.2)
def crashK (fs : List Int) (l : List Bk) (row : List (Nat × Bk)) : Nat → List Bk
 | 0 => l
 | k + 1 => crash1 fs (crashK fs l row k) k (row.getD k (0, []))
def DS.crash (D : DS) (fs : List Int) : DS := { D with l := crashK fs D.l D.row D.row.length, row := [], fuse := -1, down := false }
theorem crashK_length (fs : List Int) (l : List Bk) (row : List (Nat × Bk)) : ∀ k, (crashK fs l row k).length = l.length
 | 0 => rfl
 | k + 1 => by simp [crashK, crash1, crashK_length fs l row k]
theorem mix_length (f : Nat) (a b : Bk) (ha : a.length = 64) (hb : b.length = 64) : (mix f a b).length = 64 := by
 unfold mix
 rw [List.length_append]
 split <;> split <;> simp [ha, hb]
theorem crashK_64 (fs : List Int) {l : List Bk} {row : List (Nat × Bk)} (hl : ∀ b ∈ l, b.length = 64) (hr : ∀ p ∈ row, p.1 < l.length ∧ p.2.length = 64) : ∀ k, k ≤ row.length → ∀ b ∈ crashK fs l row k, b.length = 64
 | 0, _ => hl
 | k + 1, hk => by
  have ih := crashK_64 fs hl hr k (by omega)
  intro b hb
  have hp := hr row[k] (List.getElem_mem (by omega))
  have e : row.getD k (0, []) = row[k] := by simp [List.getD_eq_getElem?_getD, show k < row.length by omega]
  simp only [crashK, crash1, e] at hb
  rcases List.mem_or_eq_of_mem_set hb with h | rfl
  ·exact ih b h
  ·have hlt : row[k].1 < (crashK fs l row k).length := by rw [crashK_length]; exact hp.1
   refine mix_length _ _ _ ?_ hp.2
   rw [List.getD_eq_getElem?_getD, List.getElem?_eq_getElem hlt]
   exact ih _ (List.getElem_mem hlt)
theorem crash_ok {D : DS} (h : D.ok) (fs : List Int) : (D.crash fs).ok :=
 ⟨crashK_64 fs h.l64 h.row64 _ (Nat.le_refl _), fun _ hp => by simp [DS.crash] at hp, by show 1 ≤ (crashK _ _ _ _).length; rw [crashK_length]; exact h.one, by show (crashK _ _ _ _).length ≤ _; rw [crashK_length]; exact h.most, by simp [DS.crash], by simp [DS.crash]⟩
def ints (l : List Int) : List Value := l.map (Value.int .i64)
/-- A part of a block is written over. -/
def patch (L : List Bk) (i o : Nat) (cs : List UInt8) : List Bk := L.set i (splice (L.getD i []) o cs)
theorem patch_length (L : List Bk) (i o : Nat) (cs : List UInt8) : (patch L i o cs).length = L.length := by simp [patch]
theorem mix_none {L : List Bk} {i : Nat} {b : Bk} (hL : ∀ x ∈ L, x.length = 64) (hi : i < L.length ∧ b.length = 64) : L.set i (mix 0 (L.getD i []) b) = L := by
 have e : L.getD i [] = L[i] := by simp [List.getD_eq_getElem?_getD, hi.1]
 rw [e]
 unfold mix
 simp
theorem getD_set_same {L : List Bk} {i : Nat} (h : i < L.length) (x : Bk) : (L.set i x).getD i [] = x := by simp [List.getD_eq_getElem?_getD, h]
theorem mix_front {L : List Bk} {i : Nat} {b : Bk} (hL : ∀ x ∈ L, x.length = 64) (hi : i < L.length ∧ b.length = 64) : L.set i (mix 2 (L.getD i []) b) = patch L i 0 (b.take 32) := by
 have ht : (b.take 32).length = 32 := by rw [List.length_take, hi.2]; rfl
 unfold patch mix splice
 simp [ht, hi.2]
theorem mix_back {L : List Bk} {i : Nat} {b : Bk} (hL : ∀ x ∈ L, x.length = 64) (hi : i < L.length ∧ b.length = 64) : L.set i (mix 3 (L.getD i []) b) = patch L i 32 (b.drop 32) := by
 have e : L.getD i [] = L[i] := by simp [List.getD_eq_getElem?_getD, hi.1]
 have h64 : L[i].length = 64 := hL _ (List.getElem_mem hi.1)
 have ht : (b.drop 32).length = 32 := by rw [List.length_drop, hi.2]
 have hz : L[i].drop 64 = [] := List.drop_eq_nil_of_le (by omega)
 unfold patch mix splice
 rw [e]
 simp [ht, h64, hi.2, hz]
theorem mix_both {L : List Bk} {i : Nat} {b : Bk} (hL : ∀ x ∈ L, x.length = 64) (hi : i < L.length ∧ b.length = 64) : L.set i (mix 1 (L.getD i []) b) = patch (patch L i 0 (b.take 32)) i 32 (b.drop 32) := by
 have e : L.getD i [] = L[i] := by simp [List.getD_eq_getElem?_getD, hi.1]
 have h64 : L[i].length = 64 := hL _ (List.getElem_mem hi.1)
 have ht : (b.take 32).length = 32 := by rw [List.length_take, hi.2]; rfl
 have hd : (b.drop 32).length = 32 := by rw [List.length_drop, hi.2]
 have h1 : (patch L i 0 (b.take 32)).getD i [] = b.take 32 ++ L[i].drop 32 := by
  unfold patch
  rw [getD_set_same hi.1, e]
  simp [splice, ht, hi.2]
 unfold patch at h1 ⊢
 rw [h1]
 have hz : (b.take 32 ++ L[i].drop 32).drop 64 = [] := List.drop_eq_nil_of_le (by rw [List.length_append, ht, List.length_drop]; omega)
 simp [mix, splice, ht, hd, h64, hi.2, hz]
theorem wv_lo (p : Nat × Bk) : ∀ j v, (bv (p.2.take 32))[j]? = some v → (wv p)[1 + j]? = some v := by
 intro j v h
 rw [Nat.add_comm, wv, List.getElem?_cons_succ]
 unfold bv at h ⊢
 rw [List.map_take, List.getElem?_take] at h
 split at h
 ·exact h
 ·cases h
theorem wv_hi (p : Nat × Bk) : ∀ j v, (bv (p.2.drop 32))[j]? = some v → (wv p)[33 + j]? = some v := by
 intro j v h
 rw [show 33 + j = (32 + j) + 1 by omega, wv, List.getElem?_cons_succ]
 unfold bv at h ⊢
 rw [List.map_drop, List.getElem?_drop] at h
 exact h
theorem DevAt.step {w w1 w2 : World} {F : Nat → Prop} {g b : Nat} {vl vr : Value} {D : DS} (h : DevAt w F g vl vr D) (K1 : Keep Noth w w1) (K2 : Keep (Only b) w1 w2) (hb : w.heap.size ≤ b) : DevAt w2 F g vl vr D :=
 h.keep (K1.trans K2 (fun i hi e => by unfold Only at e; omega)) (Dj.noth _)
theorem Keep.step {F : Nat → Prop} {w0 w w1 w2 : World} {b : Nat} (h : Keep F w0 w) (K1 : Keep Noth w w1) (K2 : Keep (Only b) w1 w2) (hb : w.heap.size ≤ b) : Keep F w0 w2 :=
 h.trans (K1.trans K2 (fun i hi e => by unfold Only at e; omega)) (fun i hi (e : Noth i) => e.elim)
theorem DevAt.patched {w : World} {F : Nat → Prop} {g gl n cl : Nat} {vr : Value} {D : DS} {L : List Bk} (h : DevAt w F g (.slice (some ⟨gl, 0, none⟩) n cl) vr { D with l := L }) (i o : Nat) (cs : List UInt8) (hi : i < L.length) (ho : o + cs.length ≤ 64) :
  DevAt (w.setCells gl (i * 64 + o) (bv cs)) F g (.slice (some ⟨gl, 0, none⟩) n cl) vr { D with l := Go.Proofs.Ytffcglfepobdjaa.patch L i o cs } ∧ Keep (Only gl) w (w.setCells gl (i * 64 + o) (bv cs)) ∧ w.there gl (i * 64 + o) (bv cs).length := by
 have hK : Keep (Only gl) w (w.setCells gl (i * 64 + o) (bv cs)) := Keep.setCells _ _ (Keep.refl _ _) (fun _ => rfl)
 have hne : ¬ Only gl g := fun e => h.l.ne h.blk (by decide) (by unfold Only at e; rw [← e]; rfl)
 have hlen : i < (L.map bv).length := by rw [List.length_map]; exact hi
 refine ⟨⟨fun q hq => Nat.lt_of_lt_of_le (h.lt q hq) hK.size, h.here, h.blk.keep hK hne, ?_, h.row.stay hK (fun q hq e => h.l.ne2 h.row (by decide) gl rfl (by unfold Only at e; rw [hq, e]))⟩, hK, ?_⟩
 ·have := Rows.splice (xs := L.map bv) h.l i o (bv cs) hlen (by rw [bv_length]; exact ho)
  have e : (L.map bv).set i (splice (L.map bv)[i] o (bv cs)) = (patch L i o cs).map bv := by
   rw [List.getElem_map, ← bv_splice, ← List.map_set]
   unfold patch
   have e : L.getD i [] = L[i] := by simp [List.getD_eq_getElem?_getD, hi]
   rw [e]
  rw [e] at this
  exact this
 ·intro j hj
  rw [bv_length] at hj
  have := Rows.there (xs := L.map bv) h.l i hlen (o + j) (by omega)
  rw [Nat.add_assoc]
  exact this
theorem DevAt.patched' {w : World} {F : Nat → Prop} {g gl n cl : Nat} {vr : Value} {D : DS} {L : List Bk} (h : DevAt w F g (.slice (some ⟨gl, 0, none⟩) n cl) vr { D with l := L }) (i o : Nat) (cs : List UInt8) (hi : i < L.length) (ho : o + cs.length ≤ 64) (off : Nat) (hoff : off = i * 64 + o) :
  DevAt (w.setCells gl off (bv cs)) F g (.slice (some ⟨gl, 0, none⟩) n cl) vr { D with l := patch L i o cs } ∧ Keep (Only gl) w (w.setCells gl off (bv cs)) ∧ w.there gl off (bv cs).length := by
 subst hoff
 exact h.patched i o cs hi ho
theorem DevAt.crash_end {w : World} {F : Nat → Prop} {g : Nat} {vl vr : Value} {D : DS} (fs : List Int) (h : DevAt w F g vl vr { D with l := crashK fs D.l D.row D.row.length }) :
  DevAt (((w.setCell ⟨g, 1, none⟩ (.slice none 0 0)).setCell ⟨g, 4, none⟩ (.bool false)).setCell ⟨g, 3, none⟩ (.int .i64 (-1))) F g vl (.slice none 0 0) (D.crash fs) ∧
  Keep (Only g) w (((w.setCell ⟨g, 1, none⟩ (.slice none 0 0)).setCell ⟨g, 4, none⟩ (.bool false)).setCell ⟨g, 3, none⟩ (.int .i64 (-1))) := by
 have hk := (((Keep.refl (Only g) w).cell 1 (.slice none 0 0)).cell 4 (.bool false)).cell 3 (.int .i64 (-1))
 have hb := ((h.blk.set 1 (.slice none 0 0)).set 4 (.bool false)).set 3 (.int .i64 (-1))
 exact ⟨⟨fun k hf => Nat.lt_of_lt_of_le (h.lt k hf) hk.size, h.here, by simpa [DS.crash] using hb, h.l.stay hk (fun k hk' e => h.l.ne h.blk (by decide) (by rw [hk', e])), Rows.nil _ _ _ _⟩, hk⟩
theorem crash_calls {w : World} {F : Nat → Prop} {g : Nat} {vl vr : Value} {D : DS} (hD : DevAt w F g vl vr D) (hok : D.ok) (hr : D.row.length ≤ 1099511627776)
  (A : Option Addr) (c : Nat) (fs : List Int) (hA : Reads w A (ints fs)) (hAF : ∀ ad, A = some ad → fs ≠ [] → ¬ F ad.block) (hfl : fs.length ≤ 140737488351232) (hfw : ∀ x ∈ fs, -9223372036854775808 ≤ x ∧ x ≤ 9223372036854775807) :
  Calls Try.prog 23 #[.pointer (some ⟨g, 0, none⟩), .slice A fs.length c] w (fun e w' => e = .returned (.tuple #[]) ∧ DevIs w' F g (D.crash fs) ∧ Keep F w w') := by
 obtain ⟨⟨h0, h1, -, -, h4⟩, -⟩ := hD.cells
 obtain ⟨Al, cl, rfl⟩ := hD.l.valm
 obtain ⟨Ar, cr, rfl⟩ := hD.row.valm
 obtain ⟨gl, rfl⟩ := hD.l.some_at (by rw [List.length_map]; have := hok.one; omega)
 have Hdev := hid hD
 have HglF : Hid (F gl) := hD.l.foot gl rfl
 have HA := hid hA
 have hflI : (fs.length : Int) ≤ 140737488351232 := by omega
 have Hfw := hid hfw
 clear hD hA hfw
 go_enter Try.func23, Try.ntmps23
 go_wp2_with fail
 go_loopw [13] (fun i wr => ∃ k : Nat, i = .int .i64 k ∧ k ≤ D.row.length ∧ DevAt wr F g (.slice (some ⟨gl, 0, none⟩) D.l.length cl) (.slice Ar D.row.length cr) { D with l := crashK fs D.l D.row k } ∧ Keep F w wr) (fun i _ => D.row.length - (intOf i).toNat)
 case atStart => exact ⟨0, rfl, Nat.zero_le _, Hdev.out, Keep.refl _ _⟩
 case round =>
  obtain ⟨k, rfl, hkn, HD, HK⟩ := hrel
  clear h0 h1 h4
  by_cases hlt : k < D.row.length
  case neg =>
   have hge : k = D.row.length := by omega
   subst hge
   have hc := HD.cells
   have HD' := hid HD
   have HK' := hid HK
   obtain ⟨⟨c0, c1, c2, c3, c4⟩, f0, f1, f2, f3, f4⟩ := hc
   clear HD HK
   have hfin := HD'.out.crash_end fs
   have Hfin := hid hfin
   clear hfin
   go_wp2_with fail
   go_end0
   exact ⟨rfl, ⟨_, _, Hfin.out.1⟩, HK'.out.trans Hfin.out.2 (fun i hi e => by unfold Only at e; subst e; exact Hdev.out.here)⟩
  obtain ⟨gr, rfl⟩ := Hdev.out.row.some_at (by rw [List.length_map]; omega)
  have hlt' : (k : Int) < D.row.length := by omega
  have hp := hok.row64 D.row[k] (List.getElem_mem hlt)
  have hi0 : (0 : Int) ≤ (D.row[k].1 : Int) := by omega
  have hp1 := hp.1
  have hi1 : (D.row[k].1 : Int) < (D.l.length : Int) := by omega
  clear hp1
  have Hw65 : Hid ((wv D.row[k]).length = 65) := by show _ = _; simp [wv, hp.2]
  have Ht : Hid ((D.row[k].2.take 32).length = 32) := by show _ = _; rw [List.length_take, hp.2]; rfl
  have Hd : Hid ((D.row[k].2.drop 32).length = 32) := by show _ = _; rw [List.length_drop, hp.2]
  have Hp := hid hp
  have HDh := hid HD
  have HL : Hid ((crashK fs D.l D.row k).length = D.l.length) := crashK_length fs D.l D.row k
  have Hcl : Hid (∀ b ∈ crashK fs D.l D.row k, b.length = 64) := crashK_64 fs hok.l64 hok.row64 k (by omega)
  have Hpl : Hid (D.row[k].1 < (crashK fs D.l D.row k).length ∧ D.row[k].2.length = 64) := ⟨by rw [HL.out]; exact hp.1, hp.2⟩
  have Hnx : Hid (crashK fs D.l D.row (k + 1) = (crashK fs D.l D.row k).set D.row[k].1 (mix (formOf fs k) ((crashK fs D.l D.row k).getD D.row[k].1 []) D.row[k].2)) := by
   show _ = _
   simp [crashK, crash1, List.getD_eq_getElem?_getD, hlt]
  have Hgl : Hid (gl < wr.heap.size) := HD.lt gl HglF.out
  clear hp HD
  by_cases hf0 : fs.length = 0
  ·have hdf : decide (0 < fs.length) = false := by rw [hf0]; rfl
   have Hfm : Hid (formOf fs k = 0) := by show _ = _; unfold formOf; rw [if_pos hf0]
   clear hf0
   go_wp2_with (first | (refine wpList_load_row' rfl 105 _ rfl F 105 65 gr _ cr (D.row.map wv) k _ (wv D.row[k]) _ HDh.out.row (by rw [List.length_map]; exact hlt) (List.getElem_map ..) rfl (by rfl) Try.underlying105 rfl info105 ?_) | (refine wpList_alloc_v rfl 105 rfl zw info105 (wv (0, zb)) zw_cells ?_; intro b w1 hb B1 K1) | (refine wpList_store_whole rfl 105 _ _ rfl b _ (wv D.row[k]) 105 (by rfl) (by rfl) B1 (Hw65.out.trans wv0_length.symm) (by rw [Hw65.out]; exact info105) (wv_one _) ?_; intro w2 B2 K2; have HD2 := hid (HDh.out.step K1 K2 hb); have HK2 := hid (HK.step K1 K2 hb)))
   refine wp_region_ordQ [(0, true), (1, true), (2, true), (3, true), (4, true), (5, true), (6, true), (7, true)] (fun w' => BlockIs w' g [.slice (some ⟨gl, 0, none⟩) D.l.length cl, .slice (some ⟨gr, 0, none⟩) D.row.length cr, .int .i64 (D.ops : Int), .int .i64 D.fuse, .bool D.down] 96 ∧ BlockIs w' b (wv D.row[k]) 105) follows_mixed (by kernel_rfl) ⟨HD2.out.blk, B2⟩ ?_
   simp only [List.map_cons, List.map_nil, List.getElem?_cons_succ, List.getElem?_cons_zero, Option.getD_some]
   refine wpO_pure (v := .pointer (some ⟨g, 0, none⟩)) (by rfl) (fun w' hw' => by rfl) ?_
   go_frame
   refine wpO_pure (v := .pointer (some ⟨g, 0, none⟩)) (by rfl) (fun w' hw' => by rfl) ?_
   go_frame
   refine wpO_pure (v := .pointer (some ⟨g, 0, none⟩)) (by rfl) (fun w' hw' => by go_simp) ?_
   go_frame
   refine wpO_pure (v := .slice (some ⟨gl, 0, none⟩) D.l.length cl) (by rfl) (fun w' hw' => by have hc := hw'.1.cell 0; simp only [List.getElem?_cons_zero] at hc; go_simp) ?_
   go_frame
   refine wpO_pure (v := .pointer (some ⟨b, 0, none⟩)) (by rfl) (fun w' hw' => by go_simp) ?_
   go_frame
   refine wpO_pure (v := .int .i64 (D.row[k].1 : Int)) (by rfl) (fun w' hw' => by have hc := hw'.2.cell 0; simp only [wv, List.getElem?_cons_zero] at hc; go_simp) ?_
   go_frame
   refine wpO_pure (v := .pointer (some ⟨gl, D.row[k].1 * 64, none⟩)) (by rfl) (fun w' hw' => by go_simp) ?_
   go_frame
   refine wpO_pure (v := .pointer (some ⟨gl, D.row[k].1 * 64, none⟩)) (by rfl) (fun w' hw' => by rfl) ?_
   go_frame
   refine wpO_nil ?_
   go_wp2_with fail
   go_roundw
   case rel => exact ⟨k + 1, by go_num, hlt, by rw [Hnx.out, Hfm.out, mix_none Hcl.out Hpl.out]; exact (HD2.out.keep ((Keep.refl Noth w2).drew) (Dj.noth _)), HK2.out.drew⟩
   case measure => simp [intOf]; omega
  ·have hf0' : (0 : Int) < fs.length := by omega
   have hmod : k % fs.length < fs.length := Nat.mod_lt _ (by omega)
   obtain ⟨ad, rfl, -⟩ := HA.out 0 (.int .i64 fs[0]) (by simp [ints, show 0 < fs.length by omega])
   obtain ⟨x, hx⟩ : ∃ x, x = fs[k % fs.length] := ⟨_, rfl⟩
   have hxb := Hfw.out x (by rw [hx]; exact List.getElem_mem _)
   have hxl := hxb.1
   have hxu := hxb.2
   have hfm : formOf fs k = ((max x 0) % 4).toNat := by unfold formOf; rw [if_neg hf0, hx]; simp [List.getD_eq_getElem?_getD, hmod]
   have hcA : ∀ wx : World, Keep F w wx → wx.cell? (ad.add (k % fs.length)) = some (.int .i64 x) := by
    intro wx K
    obtain ⟨ad', e, hc⟩ := (HA.out.keep K (fun ad h => hAF ad h (fun e0 => by have h0 := hmod; rw [e0] at h0; simp at h0))) (k % fs.length) (.int .i64 x) (by simp [ints, hmod, hx])
    injection e with e
    subst e
    exact hc
   have HcA := hid hcA
   have Hf := hid hfm
   have Hf0 := hid hf0
   have hmod0 : (0 : Int) ≤ (k : Int) % (fs.length : Int) := Int.emod_nonneg _ (by omega)
   have hmod1 : (k : Int) % (fs.length : Int) < (fs.length : Int) := Int.emod_lt_of_pos _ (by omega)
   clear hx hxb hfm hcA hf0
   by_cases hneg : x < 0
   ·have Hfm : Hid (formOf fs k = 0) := by show _ = _; rw [Hf.out]; omega
    go_wp2_with (first | (refine wpList_load_row' rfl 105 _ rfl F 105 65 gr _ cr (D.row.map wv) k _ (wv D.row[k]) _ HDh.out.row (by rw [List.length_map]; exact hlt) (List.getElem_map ..) rfl (by rfl) Try.underlying105 rfl info105 ?_) | (refine wpList_alloc_v rfl 105 rfl zw info105 (wv (0, zb)) zw_cells ?_; intro b w1 hb B1 K1) | (refine wpList_store_whole rfl 105 _ _ rfl b _ (wv D.row[k]) 105 (by rfl) (by rfl) B1 (Hw65.out.trans wv0_length.symm) (by rw [Hw65.out]; exact info105) (wv_one _) ?_; intro w2 B2 K2; have HD2 := hid (HDh.out.step K1 K2 hb); have HK2 := hid (HK.step K1 K2 hb); have hcx := HcA.out w2 HK2.out))
    refine wp_region_ordQ [(0, true), (1, true), (2, true), (3, true), (4, true), (5, true), (6, true), (7, true)] (fun w' => BlockIs w' g [.slice (some ⟨gl, 0, none⟩) D.l.length cl, .slice (some ⟨gr, 0, none⟩) D.row.length cr, .int .i64 (D.ops : Int), .int .i64 D.fuse, .bool D.down] 96 ∧ BlockIs w' b (wv D.row[k]) 105) follows_mixed (by kernel_rfl) ⟨HD2.out.blk, B2⟩ ?_
    simp only [List.map_cons, List.map_nil, List.getElem?_cons_succ, List.getElem?_cons_zero, Option.getD_some]
    refine wpO_pure (v := .pointer (some ⟨g, 0, none⟩)) (by rfl) (fun w' hw' => by rfl) ?_
    go_frame
    refine wpO_pure (v := .pointer (some ⟨g, 0, none⟩)) (by rfl) (fun w' hw' => by rfl) ?_
    go_frame
    refine wpO_pure (v := .pointer (some ⟨g, 0, none⟩)) (by rfl) (fun w' hw' => by go_simp) ?_
    go_frame
    refine wpO_pure (v := .slice (some ⟨gl, 0, none⟩) D.l.length cl) (by rfl) (fun w' hw' => by have hc := hw'.1.cell 0; simp only [List.getElem?_cons_zero] at hc; go_simp) ?_
    go_frame
    refine wpO_pure (v := .pointer (some ⟨b, 0, none⟩)) (by rfl) (fun w' hw' => by go_simp) ?_
    go_frame
    refine wpO_pure (v := .int .i64 (D.row[k].1 : Int)) (by rfl) (fun w' hw' => by have hc := hw'.2.cell 0; simp only [wv, List.getElem?_cons_zero] at hc; go_simp) ?_
    go_frame
    refine wpO_pure (v := .pointer (some ⟨gl, D.row[k].1 * 64, none⟩)) (by rfl) (fun w' hw' => by go_simp) ?_
    go_frame
    refine wpO_pure (v := .pointer (some ⟨gl, D.row[k].1 * 64, none⟩)) (by rfl) (fun w' hw' => by rfl) ?_
    go_frame
    refine wpO_nil ?_
    go_wp2_with fail
    go_roundw
    case rel => exact ⟨k + 1, by go_num, hlt, by rw [Hnx.out, Hfm.out, mix_none Hcl.out Hpl.out]; exact (HD2.out.keep ((Keep.refl Noth w2).drew) (Dj.noth _)), HK2.out.drew⟩
    case measure => simp [intOf]; omega
   ·have hpos : 0 ≤ x := by omega
    have h4 : x % 4 = 0 ∨ x % 4 = 1 ∨ x % 4 = 2 ∨ x % 4 = 3 := by omega
    rcases h4 with h4 | h4 | h4 | h4
    ·have Hfm : Hid (formOf fs k = 0) := by show _ = _; rw [Hf.out]; omega
     have hb1 : (x % 4 == 1) = false := by rw [h4]; rfl
     have hb2 : (x % 4 == 2) = false := by rw [h4]; rfl
     have hb3 : (x % 4 == 3) = false := by rw [h4]; rfl
     clear h4 hneg
     go_wp2_with (first | (refine wpList_load_row' rfl 105 _ rfl F 105 65 gr _ cr (D.row.map wv) k _ (wv D.row[k]) _ HDh.out.row (by rw [List.length_map]; exact hlt) (List.getElem_map ..) rfl (by rfl) Try.underlying105 rfl info105 ?_) | (refine wpList_alloc_v rfl 105 rfl zw info105 (wv (0, zb)) zw_cells ?_; intro b w1 hb B1 K1) | (refine wpList_store_whole rfl 105 _ _ rfl b _ (wv D.row[k]) 105 (by rfl) (by rfl) B1 (Hw65.out.trans wv0_length.symm) (by rw [Hw65.out]; exact info105) (wv_one _) ?_; intro w2 B2 K2; have HD2 := hid (HDh.out.step K1 K2 hb); have HK2 := hid (HK.step K1 K2 hb); have hcx := HcA.out w2 HK2.out))
     refine wp_region_ordQ [(0, true), (1, true), (2, true), (3, true), (4, true), (5, true), (6, true), (7, true)] (fun w' => BlockIs w' g [.slice (some ⟨gl, 0, none⟩) D.l.length cl, .slice (some ⟨gr, 0, none⟩) D.row.length cr, .int .i64 (D.ops : Int), .int .i64 D.fuse, .bool D.down] 96 ∧ BlockIs w' b (wv D.row[k]) 105) follows_mixed (by kernel_rfl) ⟨HD2.out.blk, B2⟩ ?_
     simp only [List.map_cons, List.map_nil, List.getElem?_cons_succ, List.getElem?_cons_zero, Option.getD_some]
     refine wpO_pure (v := .pointer (some ⟨g, 0, none⟩)) (by rfl) (fun w' hw' => by rfl) ?_
     go_frame
     refine wpO_pure (v := .pointer (some ⟨g, 0, none⟩)) (by rfl) (fun w' hw' => by rfl) ?_
     go_frame
     refine wpO_pure (v := .pointer (some ⟨g, 0, none⟩)) (by rfl) (fun w' hw' => by go_simp) ?_
     go_frame
     refine wpO_pure (v := .slice (some ⟨gl, 0, none⟩) D.l.length cl) (by rfl) (fun w' hw' => by have hc := hw'.1.cell 0; simp only [List.getElem?_cons_zero] at hc; go_simp) ?_
     go_frame
     refine wpO_pure (v := .pointer (some ⟨b, 0, none⟩)) (by rfl) (fun w' hw' => by go_simp) ?_
     go_frame
     refine wpO_pure (v := .int .i64 (D.row[k].1 : Int)) (by rfl) (fun w' hw' => by have hc := hw'.2.cell 0; simp only [wv, List.getElem?_cons_zero] at hc; go_simp) ?_
     go_frame
     refine wpO_pure (v := .pointer (some ⟨gl, D.row[k].1 * 64, none⟩)) (by rfl) (fun w' hw' => by go_simp) ?_
     go_frame
     refine wpO_pure (v := .pointer (some ⟨gl, D.row[k].1 * 64, none⟩)) (by rfl) (fun w' hw' => by rfl) ?_
     go_frame
     refine wpO_nil ?_
     go_wp2_with fail
     go_roundw
     case rel => exact ⟨k + 1, by go_num, hlt, by rw [Hnx.out, Hfm.out, mix_none Hcl.out Hpl.out]; exact (HD2.out.keep ((Keep.refl Noth w2).drew) (Dj.noth _)), HK2.out.drew⟩
     case measure => simp [intOf]; omega
    ·have Hfm : Hid (formOf fs k = 1) := by show _ = _; rw [Hf.out]; omega
     have hb1 : (x % 4 == 1) = true := by rw [h4]; rfl
     have hb2 : (x % 4 == 2) = false := by rw [h4]; rfl
     have hb3 : (x % 4 == 3) = false := by rw [h4]; rfl
     clear h4 hneg
     go_wp2_with (first | (refine wpList_load_row' rfl 105 _ rfl F 105 65 gr _ cr (D.row.map wv) k _ (wv D.row[k]) _ HDh.out.row (by rw [List.length_map]; exact hlt) (List.getElem_map ..) rfl (by rfl) Try.underlying105 rfl info105 ?_) | (refine wpList_alloc_v rfl 105 rfl zw info105 (wv (0, zb)) zw_cells ?_; intro b w1 hb B1 K1) | (refine wpList_store_whole rfl 105 _ _ rfl b _ (wv D.row[k]) 105 (by rfl) (by rfl) B1 (Hw65.out.trans wv0_length.symm) (by rw [Hw65.out]; exact info105) (wv_one _) ?_; intro w2 B2 K2; have HD2 := hid (HDh.out.step K1 K2 hb); have HK2 := hid (HK.step K1 K2 hb); have hcx := HcA.out w2 HK2.out))
     refine wp_region_ordQ [(0, true), (1, true), (2, true), (3, true), (4, true), (5, true), (6, true), (7, true)] (fun w' => BlockIs w' g [.slice (some ⟨gl, 0, none⟩) D.l.length cl, .slice (some ⟨gr, 0, none⟩) D.row.length cr, .int .i64 (D.ops : Int), .int .i64 D.fuse, .bool D.down] 96 ∧ BlockIs w' b (wv D.row[k]) 105) follows_mixed (by kernel_rfl) ⟨HD2.out.blk, B2⟩ ?_
     simp only [List.map_cons, List.map_nil, List.getElem?_cons_succ, List.getElem?_cons_zero, Option.getD_some]
     refine wpO_pure (v := .pointer (some ⟨g, 0, none⟩)) (by rfl) (fun w' hw' => by rfl) ?_
     go_frame
     refine wpO_pure (v := .pointer (some ⟨g, 0, none⟩)) (by rfl) (fun w' hw' => by rfl) ?_
     go_frame
     refine wpO_pure (v := .pointer (some ⟨g, 0, none⟩)) (by rfl) (fun w' hw' => by go_simp) ?_
     go_frame
     refine wpO_pure (v := .slice (some ⟨gl, 0, none⟩) D.l.length cl) (by rfl) (fun w' hw' => by have hc := hw'.1.cell 0; simp only [List.getElem?_cons_zero] at hc; go_simp) ?_
     go_frame
     refine wpO_pure (v := .pointer (some ⟨b, 0, none⟩)) (by rfl) (fun w' hw' => by go_simp) ?_
     go_frame
     refine wpO_pure (v := .int .i64 (D.row[k].1 : Int)) (by rfl) (fun w' hw' => by have hc := hw'.2.cell 0; simp only [wv, List.getElem?_cons_zero] at hc; go_simp) ?_
     go_frame
     refine wpO_pure (v := .pointer (some ⟨gl, D.row[k].1 * 64, none⟩)) (by rfl) (fun w' hw' => by go_simp) ?_
     go_frame
     refine wpO_pure (v := .pointer (some ⟨gl, D.row[k].1 * 64, none⟩)) (by rfl) (fun w' hw' => by rfl) ?_
     go_frame
     refine wpO_nil ?_
     go_wp2_with fail
     refine wp_region_ordL [(0, true), (1, true), (2, true), (3, true), (4, true), (5, false)] (fun _ => True) follows_mixed (by kernel_rfl) trivial ?_
     simp only [List.map_cons, List.map_nil, List.getElem?_cons_succ, List.getElem?_cons_zero, Option.getD_some]
     refine wpO_pure (v := .pointer (some ⟨gl, D.row[k].1 * 64, none⟩)) (by rfl) (fun w' hw' => by rfl) ?_
     go_frame
     refine wpO_pure (v := .pointer (some ⟨gl, D.row[k].1 * 64, none⟩)) (by rfl) (fun w' hw' => by rfl) ?_
     go_frame
     refine wpO_pure (v := .slice (some ⟨gl, D.row[k].1 * 64, none⟩) 32 64) (by rfl) (fun w' hw' => by go_simp) ?_
     go_frame
     refine wpO_pure (v := .pointer (some ⟨b, 1, none⟩)) (by rfl) (fun w' hw' => by go_simp) ?_
     go_frame
     refine wpO_pure (v := .slice (some ⟨b, 1, none⟩) 32 64) (by rfl) (fun w' hw' => by go_simp) ?_
     go_frame
     have hP1 := ((HD2.out.keep ((Keep.refl Noth w2).drew) (Dj.noth _) |> hid).out.keep ((Keep.refl Noth w2.drew).drew) (Dj.noth _)).patched' D.row[k].1 0 (D.row[k].2.take 32) (by show _ < (crashK fs D.l D.row k).length; rw [HL.out]; exact Hp.out.1) (by rw [Ht.out]; decide) (D.row[k].1 * 64) (Nat.add_zero _).symm
     have HP1 := hid hP1
     clear hP1
     refine wpO_run (by rfl) (exec_copy _ _ 33 33 rfl (by simp [Act.eval]) (by simp [Act.eval]) (run_copy_any 33 33 3 5 (some ⟨gl, D.row[k].1 * 64, none⟩) (some ⟨b, 1, none⟩) 32 64 32 64 (bv (D.row[k].2.take 32)) gl (D.row[k].1 * 64) sl33 size5 (by rw [bv_length, Ht.out]; rfl) (fun _ => rfl) (Reads.of_range (B2.drew.drew.range 1 _ (wv_lo D.row[k]))) HP1.out.2.2 (bv_one _))) (.inl rfl) ?_
     refine wpO_nil ?_
     go_frame
     have HL1 : Hid ((patch (crashK fs D.l D.row k) D.row[k].1 0 (D.row[k].2.take 32)).length = D.l.length) := by show _ = _; rw [patch_length]; exact HL.out
     have B3 : BlockIs (w2.drew.drew.setCells gl (D.row[k].1 * 64) (bv (D.row[k].2.take 32))) b (wv D.row[k]) 105 := B2.drew.drew.keep HP1.out.2.1 (fun e => by have := Hgl.out; unfold Only at e; omega)
     have HD3 := hid HP1.out.1
     generalize hw3 : w2.drew.drew.setCells gl (D.row[k].1 * 64) (bv (D.row[k].2.take 32)) = w3 at *
     have Hw3 := hid hw3
     clear hw3
     go_wp2_with fail
     refine wp_region_ordL [(0, true), (1, true), (2, true), (3, true), (4, true), (5, false)] (fun _ => True) follows_mixed (by kernel_rfl) trivial ?_
     simp only [List.map_cons, List.map_nil, List.getElem?_cons_succ, List.getElem?_cons_zero, Option.getD_some]
     refine wpO_pure (v := .pointer (some ⟨gl, D.row[k].1 * 64, none⟩)) (by rfl) (fun w' hw' => by rfl) ?_
     go_frame
     refine wpO_pure (v := .pointer (some ⟨gl, D.row[k].1 * 64, none⟩)) (by rfl) (fun w' hw' => by rfl) ?_
     go_frame
     refine wpO_pure (v := .slice (some ⟨gl, D.row[k].1 * 64 + 32, none⟩) 32 32) (by rfl) (fun w' hw' => by go_simp) ?_
     go_frame
     refine wpO_pure (v := .pointer (some ⟨b, 1, none⟩)) (by rfl) (fun w' hw' => by go_simp) ?_
     go_frame
     refine wpO_pure (v := .slice (some ⟨b, 33, none⟩) 32 32) (by rfl) (fun w' hw' => by go_simp) ?_
     go_frame
     have hP2 := (HD3.out.keep ((Keep.refl Noth w3).drew) (Dj.noth _)).patched' D.row[k].1 32 (D.row[k].2.drop 32) (by show _ < (patch (crashK fs D.l D.row k) D.row[k].1 0 (D.row[k].2.take 32)).length; rw [HL1.out]; exact Hp.out.1) (by rw [Hd.out]; decide) (D.row[k].1 * 64 + 32) rfl
     have HP2 := hid hP2
     clear hP2
     refine wpO_run (by rfl) (exec_copy _ _ 33 33 rfl (by simp [Act.eval]) (by simp [Act.eval]) (run_copy_any 33 33 3 5 (some ⟨gl, D.row[k].1 * 64 + 32, none⟩) (some ⟨b, 33, none⟩) 32 32 32 32 (bv (D.row[k].2.drop 32)) gl (D.row[k].1 * 64 + 32) sl33 size5 (by rw [bv_length, Hd.out]; rfl) (fun _ => rfl) (Reads.of_range (B3.drew.range 33 _ (wv_hi D.row[k]))) HP2.out.2.2 (bv_one _))) (.inl rfl) ?_
     refine wpO_nil ?_
     go_frame
     go_wp2_with fail
     go_roundw
     case rel => exact ⟨k + 1, by go_num, hlt, by rw [Hnx.out, Hfm.out, mix_both Hcl.out Hpl.out]; exact HP2.out.1, ((HK2.out.drew.drew.trans HP1.out.2.1 (fun i hi e => by unfold Only at e; subst e; exact HglF.out)).drew.trans HP2.out.2.1 (fun i hi e => by unfold Only at e; subst e; exact HglF.out))⟩
     case measure => simp [intOf]; omega
    ·have Hfm : Hid (formOf fs k = 2) := by show _ = _; rw [Hf.out]; omega
     have hb1 : (x % 4 == 1) = false := by rw [h4]; rfl
     have hb2 : (x % 4 == 2) = true := by rw [h4]; rfl
     have hb3 : (x % 4 == 3) = false := by rw [h4]; rfl
     clear h4 hneg
     go_wp2_with (first | (refine wpList_load_row' rfl 105 _ rfl F 105 65 gr _ cr (D.row.map wv) k _ (wv D.row[k]) _ HDh.out.row (by rw [List.length_map]; exact hlt) (List.getElem_map ..) rfl (by rfl) Try.underlying105 rfl info105 ?_) | (refine wpList_alloc_v rfl 105 rfl zw info105 (wv (0, zb)) zw_cells ?_; intro b w1 hb B1 K1) | (refine wpList_store_whole rfl 105 _ _ rfl b _ (wv D.row[k]) 105 (by rfl) (by rfl) B1 (Hw65.out.trans wv0_length.symm) (by rw [Hw65.out]; exact info105) (wv_one _) ?_; intro w2 B2 K2; have HD2 := hid (HDh.out.step K1 K2 hb); have HK2 := hid (HK.step K1 K2 hb); have hcx := HcA.out w2 HK2.out))
     refine wp_region_ordQ [(0, true), (1, true), (2, true), (3, true), (4, true), (5, true), (6, true), (7, true)] (fun w' => BlockIs w' g [.slice (some ⟨gl, 0, none⟩) D.l.length cl, .slice (some ⟨gr, 0, none⟩) D.row.length cr, .int .i64 (D.ops : Int), .int .i64 D.fuse, .bool D.down] 96 ∧ BlockIs w' b (wv D.row[k]) 105) follows_mixed (by kernel_rfl) ⟨HD2.out.blk, B2⟩ ?_
     simp only [List.map_cons, List.map_nil, List.getElem?_cons_succ, List.getElem?_cons_zero, Option.getD_some]
     refine wpO_pure (v := .pointer (some ⟨g, 0, none⟩)) (by rfl) (fun w' hw' => by rfl) ?_
     go_frame
     refine wpO_pure (v := .pointer (some ⟨g, 0, none⟩)) (by rfl) (fun w' hw' => by rfl) ?_
     go_frame
     refine wpO_pure (v := .pointer (some ⟨g, 0, none⟩)) (by rfl) (fun w' hw' => by go_simp) ?_
     go_frame
     refine wpO_pure (v := .slice (some ⟨gl, 0, none⟩) D.l.length cl) (by rfl) (fun w' hw' => by have hc := hw'.1.cell 0; simp only [List.getElem?_cons_zero] at hc; go_simp) ?_
     go_frame
     refine wpO_pure (v := .pointer (some ⟨b, 0, none⟩)) (by rfl) (fun w' hw' => by go_simp) ?_
     go_frame
     refine wpO_pure (v := .int .i64 (D.row[k].1 : Int)) (by rfl) (fun w' hw' => by have hc := hw'.2.cell 0; simp only [wv, List.getElem?_cons_zero] at hc; go_simp) ?_
     go_frame
     refine wpO_pure (v := .pointer (some ⟨gl, D.row[k].1 * 64, none⟩)) (by rfl) (fun w' hw' => by go_simp) ?_
     go_frame
     refine wpO_pure (v := .pointer (some ⟨gl, D.row[k].1 * 64, none⟩)) (by rfl) (fun w' hw' => by rfl) ?_
     go_frame
     refine wpO_nil ?_
     go_wp2_with fail
     refine wp_region_ordL [(0, true), (1, true), (2, true), (3, true), (4, true), (5, false)] (fun _ => True) follows_mixed (by kernel_rfl) trivial ?_
     simp only [List.map_cons, List.map_nil, List.getElem?_cons_succ, List.getElem?_cons_zero, Option.getD_some]
     refine wpO_pure (v := .pointer (some ⟨gl, D.row[k].1 * 64, none⟩)) (by rfl) (fun w' hw' => by rfl) ?_
     go_frame
     refine wpO_pure (v := .pointer (some ⟨gl, D.row[k].1 * 64, none⟩)) (by rfl) (fun w' hw' => by rfl) ?_
     go_frame
     refine wpO_pure (v := .slice (some ⟨gl, D.row[k].1 * 64, none⟩) 32 64) (by rfl) (fun w' hw' => by go_simp) ?_
     go_frame
     refine wpO_pure (v := .pointer (some ⟨b, 1, none⟩)) (by rfl) (fun w' hw' => by go_simp) ?_
     go_frame
     refine wpO_pure (v := .slice (some ⟨b, 1, none⟩) 32 64) (by rfl) (fun w' hw' => by go_simp) ?_
     go_frame
     have hP1 := ((HD2.out.keep ((Keep.refl Noth w2).drew) (Dj.noth _) |> hid).out.keep ((Keep.refl Noth w2.drew).drew) (Dj.noth _)).patched' D.row[k].1 0 (D.row[k].2.take 32) (by show _ < (crashK fs D.l D.row k).length; rw [HL.out]; exact Hp.out.1) (by rw [Ht.out]; decide) (D.row[k].1 * 64) (Nat.add_zero _).symm
     have HP1 := hid hP1
     clear hP1
     refine wpO_run (by rfl) (exec_copy _ _ 33 33 rfl (by simp [Act.eval]) (by simp [Act.eval]) (run_copy_any 33 33 3 5 (some ⟨gl, D.row[k].1 * 64, none⟩) (some ⟨b, 1, none⟩) 32 64 32 64 (bv (D.row[k].2.take 32)) gl (D.row[k].1 * 64) sl33 size5 (by rw [bv_length, Ht.out]; rfl) (fun _ => rfl) (Reads.of_range (B2.drew.drew.range 1 _ (wv_lo D.row[k]))) HP1.out.2.2 (bv_one _))) (.inl rfl) ?_
     refine wpO_nil ?_
     go_frame
     go_wp2_with fail
     go_roundw
     case rel => exact ⟨k + 1, by go_num, hlt, by rw [Hnx.out, Hfm.out, mix_front Hcl.out Hpl.out]; exact HP1.out.1, (HK2.out.drew.drew.trans HP1.out.2.1 (fun i hi e => by unfold Only at e; subst e; exact HglF.out))⟩
     case measure => simp [intOf]; omega
    ·have Hfm : Hid (formOf fs k = 3) := by show _ = _; rw [Hf.out]; omega
     have hb1 : (x % 4 == 1) = false := by rw [h4]; rfl
     have hb2 : (x % 4 == 2) = false := by rw [h4]; rfl
     have hb3 : (x % 4 == 3) = true := by rw [h4]; rfl
     clear h4 hneg
     go_wp2_with (first | (refine wpList_load_row' rfl 105 _ rfl F 105 65 gr _ cr (D.row.map wv) k _ (wv D.row[k]) _ HDh.out.row (by rw [List.length_map]; exact hlt) (List.getElem_map ..) rfl (by rfl) Try.underlying105 rfl info105 ?_) | (refine wpList_alloc_v rfl 105 rfl zw info105 (wv (0, zb)) zw_cells ?_; intro b w1 hb B1 K1) | (refine wpList_store_whole rfl 105 _ _ rfl b _ (wv D.row[k]) 105 (by rfl) (by rfl) B1 (Hw65.out.trans wv0_length.symm) (by rw [Hw65.out]; exact info105) (wv_one _) ?_; intro w2 B2 K2; have HD2 := hid (HDh.out.step K1 K2 hb); have HK2 := hid (HK.step K1 K2 hb); have hcx := HcA.out w2 HK2.out))
     refine wp_region_ordQ [(0, true), (1, true), (2, true), (3, true), (4, true), (5, true), (6, true), (7, true)] (fun w' => BlockIs w' g [.slice (some ⟨gl, 0, none⟩) D.l.length cl, .slice (some ⟨gr, 0, none⟩) D.row.length cr, .int .i64 (D.ops : Int), .int .i64 D.fuse, .bool D.down] 96 ∧ BlockIs w' b (wv D.row[k]) 105) follows_mixed (by kernel_rfl) ⟨HD2.out.blk, B2⟩ ?_
     simp only [List.map_cons, List.map_nil, List.getElem?_cons_succ, List.getElem?_cons_zero, Option.getD_some]
     refine wpO_pure (v := .pointer (some ⟨g, 0, none⟩)) (by rfl) (fun w' hw' => by rfl) ?_
     go_frame
     refine wpO_pure (v := .pointer (some ⟨g, 0, none⟩)) (by rfl) (fun w' hw' => by rfl) ?_
     go_frame
     refine wpO_pure (v := .pointer (some ⟨g, 0, none⟩)) (by rfl) (fun w' hw' => by go_simp) ?_
     go_frame
     refine wpO_pure (v := .slice (some ⟨gl, 0, none⟩) D.l.length cl) (by rfl) (fun w' hw' => by have hc := hw'.1.cell 0; simp only [List.getElem?_cons_zero] at hc; go_simp) ?_
     go_frame
     refine wpO_pure (v := .pointer (some ⟨b, 0, none⟩)) (by rfl) (fun w' hw' => by go_simp) ?_
     go_frame
     refine wpO_pure (v := .int .i64 (D.row[k].1 : Int)) (by rfl) (fun w' hw' => by have hc := hw'.2.cell 0; simp only [wv, List.getElem?_cons_zero] at hc; go_simp) ?_
     go_frame
     refine wpO_pure (v := .pointer (some ⟨gl, D.row[k].1 * 64, none⟩)) (by rfl) (fun w' hw' => by go_simp) ?_
     go_frame
     refine wpO_pure (v := .pointer (some ⟨gl, D.row[k].1 * 64, none⟩)) (by rfl) (fun w' hw' => by rfl) ?_
     go_frame
     refine wpO_nil ?_
     go_wp2_with fail
     refine wp_region_ordL [(0, true), (1, true), (2, true), (3, true), (4, true), (5, false)] (fun _ => True) follows_mixed (by kernel_rfl) trivial ?_
     simp only [List.map_cons, List.map_nil, List.getElem?_cons_succ, List.getElem?_cons_zero, Option.getD_some]
     refine wpO_pure (v := .pointer (some ⟨gl, D.row[k].1 * 64, none⟩)) (by rfl) (fun w' hw' => by rfl) ?_
     go_frame
     refine wpO_pure (v := .pointer (some ⟨gl, D.row[k].1 * 64, none⟩)) (by rfl) (fun w' hw' => by rfl) ?_
     go_frame
     refine wpO_pure (v := .slice (some ⟨gl, D.row[k].1 * 64 + 32, none⟩) 32 32) (by rfl) (fun w' hw' => by go_simp) ?_
     go_frame
     refine wpO_pure (v := .pointer (some ⟨b, 1, none⟩)) (by rfl) (fun w' hw' => by go_simp) ?_
     go_frame
     refine wpO_pure (v := .slice (some ⟨b, 33, none⟩) 32 32) (by rfl) (fun w' hw' => by go_simp) ?_
     go_frame
     have hP1 := ((HD2.out.keep ((Keep.refl Noth w2).drew) (Dj.noth _) |> hid).out.keep ((Keep.refl Noth w2.drew).drew) (Dj.noth _)).patched' D.row[k].1 32 (D.row[k].2.drop 32) (by show _ < (crashK fs D.l D.row k).length; rw [HL.out]; exact Hp.out.1) (by rw [Hd.out]; decide) (D.row[k].1 * 64 + 32) rfl
     have HP1 := hid hP1
     clear hP1
     refine wpO_run (by rfl) (exec_copy _ _ 33 33 rfl (by simp [Act.eval]) (by simp [Act.eval]) (run_copy_any 33 33 3 5 (some ⟨gl, D.row[k].1 * 64 + 32, none⟩) (some ⟨b, 33, none⟩) 32 32 32 32 (bv (D.row[k].2.drop 32)) gl (D.row[k].1 * 64 + 32) sl33 size5 (by rw [bv_length, Hd.out]; rfl) (fun _ => rfl) (Reads.of_range (B2.drew.drew.range 33 _ (wv_hi D.row[k]))) HP1.out.2.2 (bv_one _))) (.inl rfl) ?_
     refine wpO_nil ?_
     go_frame
     go_wp2_with fail
     go_roundw
     case rel => exact ⟨k + 1, by go_num, hlt, by rw [Hnx.out, Hfm.out, mix_back Hcl.out Hpl.out]; exact HP1.out.1, (HK2.out.drew.drew.trans HP1.out.2.1 (fun i hi e => by unfold Only at e; subst e; exact HglF.out))⟩
     case measure => simp [intOf]; omega
end Go.Proofs.Ytffcglfepobdjaa
set_option maxHeartbeats 1000000
namespace Go.Proofs.Ytffcglfepobdjaa
open Go.RowKit
structure OpV where
 kind : Int
 k : Int
 b : List UInt8
 forms : List Int
structure OpV.ok (o : OpV) : Prop where
 kind : -9223372036854775808 ≤ o.kind ∧ o.kind ≤ 9223372036854775807
 k : -9223372036854775808 ≤ o.k ∧ o.k ≤ 9223372036854775807
 b : o.b.length ≤ 140737488351232
 forms : o.forms.length ≤ 140737488351232
 each : ∀ x ∈ o.forms, -9223372036854775808 ≤ x ∧ x ≤ 9223372036854775807
structure OpAt (w : World) (o : OpV) (Ab Af : Option Addr) : Prop where
 b : Reads w Ab (bv o.b)
 forms : Reads w Af (ints o.forms)
def opv (o : OpV) (Ab Af : Option Addr) (cb cf : Nat) : List Value := [.int .i64 o.kind, .int .i64 o.k, .slice Ab o.b.length cb, .slice Af o.forms.length cf]
/-- Write. -/
def DS.write (D : DS) (k : Int) (b : List UInt8) : DS × Int :=
 if D.down then (D, 100) else if k < 0 ∨ (D.l.length : Int) ≤ k ∨ 64 < b.length then (D, 101) else ((D.put k.toNat b).tick, if D.fuse == 0 then 100 else 0)
/-- Flush. -/
def DS.flush (D : DS) : DS × Int := if D.down then (D, 100) else if D.fuse = 0 then (D.tick, 100) else (D.flushed, 0)
/-- A call. -/
def DS.doOp (D : DS) (o : OpV) : DS × Int :=
 if o.kind = 0 then D.write o.k o.b else if o.kind = 1 then D.flush else if o.kind = 2 then (D.arm o.k, 0) else if o.kind = 3 then (D.crash o.forms, 0) else (D, 0)
theorem put_ok {D : DS} (h : D.ok) (k : Nat) (hk : k < D.l.length) (b : List UInt8) (hb : b.length ≤ 64) : (D.put k b).ok :=
 ⟨h.l64, fun p hp => by
  rcases List.mem_append.1 hp with hp | hp
  ·exact h.row64 p hp
  ·rw [List.mem_singleton.1 hp]; exact ⟨hk, fillz_length b hb⟩, h.one, h.most, h.fuse, h.fuse'⟩
theorem write_ds_ok {D : DS} (h : D.ok) (k : Int) (b : List UInt8) : (D.write k b).1.ok := by
 unfold DS.write
 split
 ·exact h
 ·split
  ·exact h
  ·rename_i hc
   exact tick_ok (put_ok h _ (by omega) _ (by omega))
theorem flushed_ok {D : DS} (h : D.ok) : D.flushed.ok := by
 have ht := tick_ok h
 refine ⟨putAll_64 _ _ h.l64 (fun p hp => (h.row64 p hp).2), fun p hp => by simp [DS.flushed] at hp, ?_, ?_, ht.fuse, ht.fuse'⟩
 ·show 1 ≤ (putAll D.l D.row).length; rw [putAll_length]; exact h.one
 ·show (putAll D.l D.row).length ≤ 4096; rw [putAll_length]; exact h.most
theorem flush_ds_ok {D : DS} (h : D.ok) : D.flush.1.ok := by
 unfold DS.flush
 split
 ·exact h
 ·split
  ·exact tick_ok h
  ·exact flushed_ok h
theorem arm_ok {D : DS} (h : D.ok) (n : Int) (hn : n ≤ 9223372036854775807) : (D.arm n).ok := ⟨h.l64, h.row64, h.one, h.most, by simp only [DS.arm]; omega, by simp only [DS.arm]; omega⟩
theorem doOp_ok {D : DS} (h : D.ok) (o : OpV) (ho : o.ok) : (D.doOp o).1.ok := by
 unfold DS.doOp
 split
 ·exact write_ds_ok h _ _
 ·split
  ·exact flush_ds_ok h
  ·split
   ·exact arm_ok h _ ho.k.2
   ·split
    ·exact crash_ok h _
    ·exact h
theorem doOp_grow (D : DS) (o : OpV) : (D.doOp o).1.ops ≤ D.ops + 1 ∧ (D.doOp o).1.row.length ≤ D.row.length + 1 ∧ D.ops ≤ (D.doOp o).1.ops := by
 unfold DS.doOp DS.write DS.flush
 (repeat' split) <;> simp [DS.tick, DS.put, DS.flushed, DS.arm, DS.crash]
/-- Write and Flush, each on all its ways. -/
theorem write_calls {w : World} {F : Nat → Prop} {g : Nat} {D : DS} (hD : DevIs w F g D) (hok : D.ok) (ho : D.ops ≤ 1099511627776) (hr : D.row.length ≤ 1099511627776) (k : Int)
  (A : Option Addr) (c : Nat) (b : List UInt8) (hb : b.length ≤ 140737488351232) (hA : Reads w A (bv b)) :
  Calls Try.prog 36 #[.pointer (some ⟨g, 0, none⟩), .int .i64 k, .slice A b.length c] w (fun e w' => e = .returned (.int .i64 (D.write k b).2) ∧ DevIs w' (grow F w w') g (D.write k b).1 ∧ Keep F w w') := by
 obtain ⟨vl, vr, hD⟩ := hD
 have same : DevIs w (grow F w w) g D := DevIs.mono ⟨_, _, hD⟩ (fun q hq => .inl hq) (grow_lt hD.lt (Nat.le_refl _))
 unfold DS.write
 split
 ·rename_i hd
  refine (write_down hD hd k _).mono ?_
  rintro e w' ⟨rfl, rfl⟩
  exact ⟨rfl, same, Keep.refl _ _⟩
 ·rename_i hd
  have hd' : D.down = false := by simpa using hd
  split
  ·rename_i hk
   refine (write_at hD hd' k A b.length c hb hk).mono ?_
   rintro e w' ⟨rfl, rfl⟩
   exact ⟨rfl, same, Keep.refl _ _⟩
  ·rename_i hk
   obtain ⟨n, rfl⟩ := Int.eq_ofNat_of_zero_le (show 0 ≤ k by omega)
   rw [Int.toNat_natCast]
   exact write_ok hD hd' hok ho hr n (by omega) A c b (by omega) hA
theorem flush_calls {w : World} {F : Nat → Prop} {g : Nat} {D : DS} (hD : DevIs w F g D) (hok : D.ok) (ho : D.ops ≤ 1099511627776) (hr : D.row.length ≤ 1099511627776) :
  Calls Try.prog 31 #[.pointer (some ⟨g, 0, none⟩)] w (fun e w' => e = .returned (.int .i64 D.flush.2) ∧ DevIs w' (grow F w w') g D.flush.1 ∧ Keep F w w') := by
 obtain ⟨vl, vr, hD⟩ := hD
 unfold DS.flush
 split
 ·rename_i hd
  refine (flush_down hD hd).mono ?_
  rintro e w' ⟨rfl, rfl⟩
  exact ⟨rfl, DevIs.mono ⟨_, _, hD⟩ (fun q hq => .inl hq) (grow_lt hD.lt (Nat.le_refl _)), Keep.refl _ _⟩
 ·rename_i hd
  have hd' : D.down = false := by simpa using hd
  split
  ·rename_i hf
   refine (flush_blow hD hd' ho hf).mono ?_
   rintro e w' ⟨rfl, H, K⟩
   exact ⟨rfl, DevIs.mono ⟨_, _, H⟩ (fun q hq => .inl hq) (grow_lt hD.lt K.size), K.mono (fun i _ e => by unfold Only at e; subst e; exact hD.here)⟩
  ·rename_i hf
   exact flush_ok hD hd' hok ho hr hf
end Go.Proofs.Ytffcglfepobdjaa
set_option maxHeartbeats 2000000
namespace Go.Proofs.Ytffcglfepobdjaa
open Go.RowKit
/-- A block, as Read has it. -/
def DS.at (D : DS) (k : Nat) : Bk := D.all.getD k []
theorem putAll_at_snoc (l : List Bk) (r : List (Nat × Bk)) (p : Nat × Bk) (k : Nat) (hk : k < l.length) : (putAll l (r ++ [p])).getD k [] = if p.1 = k then p.2 else (putAll l r).getD k [] := by
 rw [putAll_snoc]
 by_cases h : p.1 = k
 ·subst h
  simp [List.getD_eq_getElem?_getD, putAll_length, hk]
 ·simp [List.getD_eq_getElem?_getD, h]
theorem at_length {D : DS} (hok : D.ok) (k : Nat) (hk : k < D.l.length) (j : Nat) : ((putAll D.l (D.row.take j)).getD k []).length = 64 := by
 have hl : k < (putAll D.l (D.row.take j)).length := by rw [putAll_length]; exact hk
 rw [List.getD_eq_getElem?_getD, List.getElem?_eq_getElem hl]
 exact putAll_64 _ _ hok.l64 (fun p hp => (hok.row64 p (List.mem_of_mem_take hp)).2) _ (List.getElem_mem hl)
theorem read_at {w : World} {F : Nat → Prop} {g : Nat} {vl vr : Value} {D : DS} (hD : DevAt w F g vl vr D) (hd : D.down = false) (k : Int) (hk : k < 0 ∨ (D.l.length : Int) ≤ k) :
  Calls Try.prog 25 #[.pointer (some ⟨g, 0, none⟩), .int .i64 k] w (fun e w' => e = .returned (.tuple #[.slice none 0 0, .int .i64 101]) ∧ w = w') := by
 obtain ⟨⟨h0, -, -, -, h4⟩, -⟩ := hD.cells
 obtain ⟨Al, cl, rfl⟩ := hD.l.valm
 rw [hd] at h4
 clear hd hD
 by_cases h1 : k < 0
 ·go_enter Try.func25, Try.ntmps25
  go_wp2_with fail
  go_ret2
  exact ⟨rfl, rfl⟩
 ·have h2 : (D.l.length : Int) ≤ k := by omega
  clear hk
  go_enter Try.func25, Try.ntmps25
  go_wp2_with fail
  go_ret2
  exact ⟨rfl, rfl⟩
theorem read_ok {w : World} {F : Nat → Prop} {g : Nat} {vl vr : Value} {D : DS} (hD : DevAt w F g vl vr D) (hd : D.down = false) (hok : D.ok) (hr : D.row.length ≤ 1099511627776) (k : Nat) (hk : k < D.l.length) :
  Calls Try.prog 25 #[.pointer (some ⟨g, 0, none⟩), .int .i64 (k : Int)] w (fun e w' => ∃ b, e = .returned (.tuple #[.slice (some ⟨b, 0, none⟩) 64 64, .int .i64 0]) ∧ w.heap.size ≤ b ∧ BlockIs w' b (bv (D.at k)) 103 ∧ Keep Noth w w') := by
 obtain ⟨⟨h0, h1, -, -, h4⟩, -⟩ := hD.cells
 obtain ⟨Al, cl, rfl⟩ := hD.l.valm
 obtain ⟨Ar, cr, rfl⟩ := hD.row.valm
 obtain ⟨gl, rfl⟩ := hD.l.some_at (by rw [List.length_map]; omega)
 rw [hd] at h4
 have hk0 : (0 : Int) ≤ k := by omega
 have hk1 : (k : Int) < D.l.length := by omega
 have Hdev := hid hD
 have h64 := hok.l64 D.l[k] (List.getElem_mem hk)
 have H64 := hid h64
 have hst : (putAll D.l (D.row.take 0)).getD k [] = D.l[k] := by simp [putAll, List.getD_eq_getElem?_getD, hk]
 have Hst := hid hst
 clear hd h64 hst hD
 go_enter Try.func25, Try.ntmps25
 go_wp2_with (first | (refine wpList_load_row' rfl 103 _ rfl F 103 64 gl _ cl (D.l.map bv) k _ (bv D.l[k]) _ Hdev.out.l (by rw [List.length_map]; exact hk) (List.getElem_map ..) rfl (by rfl) Try.underlying103 rfl info103 ?_) | (refine wpList_alloc_store rfl 103 rfl 6 _ rfl (by rfl) rfl rfl (by decide) zv (bv D.l[k]) (by rw [bv_length, H64.out]; exact info103) (bv zb) zv_cells (by rw [bv_length, H64.out, bvz_length]) (by rfl) (bv_one _) ?_; intro b w1 hb1 B1 K1; have hc1 := ((Hdev.out.keep K1 (Dj.noth _)).cells).1.2.1))
 go_loopw [38] (fun i wr => ∃ j : Nat, i = .int .i64 j ∧ j ≤ D.row.length ∧ BlockIs wr b (bv ((putAll D.l (D.row.take j)).getD k [])) 103 ∧ Keep Noth w wr) (fun i _ => D.row.length - (intOf i).toNat)
 case atStart => exact ⟨0, rfl, Nat.zero_le _, by rw [Hst.out]; exact B1, K1⟩
 case round =>
  obtain ⟨j, rfl, hjl, HB, HK⟩ := hrel
  clear h0 h1 h4 hc1 B1 K1
  by_cases hlt : j < D.row.length
  ·obtain ⟨gr, rfl⟩ := Hdev.out.row.some_at (by rw [List.length_map]; omega)
   have hDr := hid (Hdev.out.keep HK (Dj.noth _))
   have hlt' : (j : Int) < D.row.length := by omega
   have hp := hok.row64 D.row[j] (List.getElem_mem hlt)
   have Hw65 : Hid ((wv D.row[j]).length = 65) := by show _ = _; simp [wv, hp.2]
   have Hp := hid hp
   have hcur := at_length hok k hk j
   have Hcur := hid hcur
   have hnx : (putAll D.l (D.row.take (j + 1))).getD k [] = if D.row[j].1 = k then D.row[j].2 else (putAll D.l (D.row.take j)).getD k [] := by rw [take_snoc' _ _ hlt]; exact putAll_at_snoc _ _ _ _ hk
   have Hnx := hid hnx
   clear hp hcur hnx
   by_cases hkk : D.row[j].1 = k
   ·have hkk' : (((D.row[j].1 : Nat) : Int) == (k : Int)) = true := by simp [hkk]
    have Hkk := hid hkk
    clear hkk
    go_wp2_with (first | (refine wpList_load_row' rfl 105 _ rfl F 105 65 gr _ cr (D.row.map wv) j _ (wv D.row[j]) _ hDr.out.row (by rw [List.length_map]; exact hlt) (List.getElem_map ..) rfl (by rfl) Try.underlying105 rfl info105 ?_) | (refine wpList_alloc_store rfl 105 rfl 8 _ rfl (by rfl) rfl rfl (by decide) zw (wv D.row[j]) (by rw [Hw65.out]; exact info105) (wv (0, zb)) zw_cells (Hw65.out.trans wv0_length.symm) (by rfl) (wv_one _) ?_; intro b2 w2 hb2 B2 K2; have hc2 := B2.cell 0; simp only [wv, List.getElem?_cons_zero] at hc2; have HB2 := hid (HB.keep K2 id)) | (refine wpList_load_blk rfl 103 _ rfl b2 1 (wv D.row[j]) (bv D.row[j].2) 105 _ (by rfl) B2 (part1 _ _) Try.underlying103 rfl (by rw [bv_length, Hp.out.2]; exact info103) ?_) | (refine wpList_store_whole rfl 103 _ _ rfl b (bv ((putAll D.l (D.row.take j)).getD k [])) (bv D.row[j].2) 103 (by rfl) (by rfl) HB2.out (by rw [bv_length, bv_length, Hp.out.2, Hcur.out]) (by rw [bv_length, Hp.out.2]; exact info103) (bv_one _) ?_; intro w3 B3 K3))
    go_roundw
    case rel => exact ⟨j + 1, by go_num, hlt, by rw [Hnx.out, if_pos Hkk.out]; exact B3, (HK.trans K2 (fun _ _ h => h)).trans K3 (fun i hi e => by unfold Only at e; omega)⟩
    case measure => simp [intOf]; omega
   ·have hkk' : (((D.row[j].1 : Nat) : Int) == (k : Int)) = false := by simp; omega
    have Hkk := hid hkk
    clear hkk
    go_wp2_with (first | (refine wpList_load_row' rfl 105 _ rfl F 105 65 gr _ cr (D.row.map wv) j _ (wv D.row[j]) _ hDr.out.row (by rw [List.length_map]; exact hlt) (List.getElem_map ..) rfl (by rfl) Try.underlying105 rfl info105 ?_) | (refine wpList_alloc_store rfl 105 rfl 8 _ rfl (by rfl) rfl rfl (by decide) zw (wv D.row[j]) (by rw [Hw65.out]; exact info105) (wv (0, zb)) zw_cells (Hw65.out.trans wv0_length.symm) (by rfl) (wv_one _) ?_; intro b2 w2 hb2 B2 K2; have hc2 := B2.cell 0; simp only [wv, List.getElem?_cons_zero] at hc2; have HB2 := hid (HB.keep K2 id)))
    go_roundw
    case rel => exact ⟨j + 1, by go_num, hlt, by rw [Hnx.out, if_neg Hkk.out]; exact HB2.out, HK.trans K2 (fun _ _ h => h)⟩
    case measure => simp [intOf]; omega
  ·have hge : j = D.row.length := by omega
   subst hge
   go_wp2_with fail
   go_ret2
   rw [List.take_length] at HB
   exact ⟨b, rfl, hb1, HB, HK⟩
def full : List UInt8 := List.replicate 64 7
theorem new_ok (n : Nat) (h1 : 1 ≤ n) (h2 : n ≤ 4096) : (DS.new n).ok :=
 ⟨fun b hb => by rw [List.eq_of_mem_replicate hb]; exact zb_length, fun p hp => by simp [DS.new] at hp, by simp [DS.new]; omega, by simp [DS.new]; omega, by simp [DS.new], by simp [DS.new]⟩
end Go.Proofs.Ytffcglfepobdjaa
set_option maxHeartbeats 4000000
namespace Go.Proofs.Ytffcglfepobdjaa
open Go.RowKit
theorem Keep.own {w0 w w' : World} {F : Nat → Prop} (h : Keep Noth w0 w) (k : Keep F w w') (hF : ∀ q, F q → w0.heap.size ≤ q) : Keep Noth w0 w' :=
 h.trans k (fun i hi e => by have := hF i e; omega)
end Go.Proofs.Ytffcglfepobdjaa
set_option maxRecDepth 100000
set_option maxHeartbeats 2000000
namespace Go.Proofs.Ytffcglfepobdjaa
open Go.RowKit Go.Shelf
attribute [local go_sem] Oper.semAt_some
/-- What a round of the loop's body leaves alone: the iterator's two variables. -/
def BoxKept (Bs Bn : Nat) (W W' : World) : Prop := W'.cell? ⟨Bs, 0, none⟩ = W.cell? ⟨Bs, 0, none⟩ ∧ W'.cell? ⟨Bn, 0, none⟩ = W.cell? ⟨Bn, 0, none⟩
theorem BoxKept.refl (Bs Bn : Nat) (W : World) : BoxKept Bs Bn W W := ⟨rfl, rfl⟩
theorem BoxKept.trans {Bs Bn : Nat} {A B C : World} (h : BoxKept Bs Bn A B) (k : BoxKept Bs Bn B C) : BoxKept Bs Bn A C := ⟨k.1.trans h.1, k.2.trans h.2⟩
/-- The j-th chunk. -/
def chv (b j : Nat) : Value := .slice (some ⟨b, 64 * j, none⟩) 64 64
theorem chunk1_in (F : Fence) (n : Nat) (h7 : F.fn 107) (hro : F.round = none) (hn : 1 ≤ n) (l Bs Bn b m cap : Nat) (hm : m ≤ 100) (hcap : 64 * m ≤ cap) (hcm : cap ≤ 100000) (J Jx : List (Fin m) → World → Prop) (B0 : Nat) (hJ : AbidesFrom B0 J)
  (hY : ∀ pre x W, J pre W → pre.length < m → YieldAt F (n - 1) Try.prog l #[chv b x.1] W fun e W' =>
   (e = .returned (.bool true) ∧ J (pre ++ [x]) W' ∧ BoxKept Bs Bn W W') ∨ (e = .returned (.bool false) ∧ Jx (pre ++ [x]) W'))
  (W : World) (hBs : W.cell? ⟨Bs, 0, none⟩ = some (.slice (some ⟨b, 0, none⟩) (64 * m) cap)) (hBn : W.cell? ⟨Bn, 0, none⟩ = some (.int .i64 64)) (h0 : J [] W) :
  CallsIn F n Try.prog 107 #[.func (.yield l) #[] #[], .pointer (some ⟨Bs, 0, none⟩), .pointer (some ⟨Bn, 0, none⟩)] W fun e W' => (∃ v, e = .returned v) ∧
   ((∃ ys : List (Fin m), ys.map (fun x => x.1) = List.range m ∧ J ys W') ∨ (∃ pre : List (Fin m), (∃ k, k ≤ m ∧ pre.map (fun x => x.1) = List.range k) ∧ Jx pre W')) := by
 refine callsIn_of_wp Try.func107 rfl h7 ?_ hro
 simp only [Try.ntmps107, List.size_toArray, List.length_cons, List.length_nil, Nat.reduceAdd, Nat.reduceSub, Array.replicate_succ, Array.replicate_zero, List.push_toArray, List.append_toArray, List.nil_append, List.cons_append]
 gi_wp2
 gi_loopw [4] (fun i wr => ∃ (k : Nat) (pre : List (Fin m)), k ≤ m ∧ i = .int .i64 (64 * (k : Int)) ∧ pre.map (fun x => x.1) = List.range k ∧ J pre wr ∧ BoxKept Bs Bn W wr)
  (fun i _ => 64 * m - (intOf i).toNat)
 case atStart => exact ⟨0, [], Nat.zero_le _, rfl, rfl, h0, BoxKept.refl _ _ _⟩
 case round =>
  obtain ⟨k, pre, hk, rfl, hpre, hJs, hnx⟩ := hrel
  have hpl : pre.length = k := by have := congrArg List.length hpre; simpa using this
  have hc1 : wr.cell? ⟨Bs, 0, none⟩ = some (.slice (some ⟨b, 0, none⟩) (64 * m) cap) := hnx.1.trans hBs
  have hc2 : wr.cell? ⟨Bn, 0, none⟩ = some (.int .i64 64) := hnx.2.trans hBn
  by_cases hlt : k < m
  ·have hJd : J pre wr.drew := hJ _ _ _ none hJs ⟨rfl, rfl, rfl, Nat.le_refl _, fun _ _ _ => rfl⟩ (fun r e => by cases e)
   obtain ⟨fn, tmps, assign, body, hy, hR⟩ := hY pre ⟨k, hlt⟩ wr.drew hJd (by rw [hpl]; exact hlt)
   have hpn : (pre ++ [(⟨k, hlt⟩ : Fin m)]).map (fun x => x.1) = List.range (k + 1) := by rw [List.map_append, hpre, List.range_succ]; rfl
   have Hpn := hid hpn
   clear hpn hpre hpl
   have hlt' : (64 : Int) * k < 64 * m := by omega
   have hk4 : (64 : Int) * k ≤ 6400 := by omega
   have hmin : ¬ (((64 * m - 64 * k : Nat) : Int) < 64) := by omega
   have hhi : (64 : Int) * k + 64 ≤ cap := by omega
   have hnx' : BoxKept Bs Bn W wr.drew := hnx
   have Hmin := hid hmin
   clear hJs hnx hmin
   dsimp only [chv] at hy
   gi_wp2
   gi_region
   all_goals
    simp only [if_neg (show ¬ (((64 * m - 64 * k : Nat) : Int) < 64) by omega)]
    gi_wp2
    refine hR.mono ?_
    rintro e W3 (⟨rfl, hJ3, hk3⟩ | ⟨rfl, hJx3⟩)
    ·have hc3 : W3.cell? ⟨Bn, 0, none⟩ = some (.int .i64 64) := hk3.2.trans (hnx'.2.trans hBn)
     gi_wp2
     go_roundw
     case rel => exact ⟨k + 1, _, by omega, by congr 1 <;> omega, Hpn.out, hJ3, hnx'.trans hk3⟩
     case measure => simp [intOf]; omega
    ·gi_wp2
     refine bodyPost_ret (results_none rfl _ _ _) rfl ?_
     exact ⟨⟨_, rfl⟩, .inr ⟨_, ⟨k + 1, by omega, Hpn.out⟩, hJx3⟩⟩
  ·obtain rfl : k = m := by omega
   gi_wp2
   go_end0
   exact ⟨⟨_, rfl⟩, .inl ⟨_, hpre, hJs⟩⟩
/-- slices.Chunk(b, 64): the slice and the number are boxed; the function value captures the boxes. -/
theorem chunk_calls (w : World) (A : Option Addr) (n c : Nat) :
  Calls Try.prog 92 #[.slice A n c, .int .i64 64] w (fun e w' => e = .returned (.func (.func 107) #[] #[.pointer (some ⟨w.heap.size, 0, none⟩), .pointer (some ⟨w.heap.size + 1, 0, none⟩)]) ∧ w' = (w.alloc (.cells #[.slice A n c] 33)).alloc (.cells #[.int .i64 64] 3)) := by
 go_enter Try.func92, Try.ntmps92
 go_wp2_with fail
 go_ret
 exact ⟨rfl, rfl⟩
/-- The value that slices.Chunk hands back, as an iterator. -/
theorem chunk_stops (F : Fence) (n : Nat) (h7 : F.fn 107) (hro : F.round = none) (hn : 1 ≤ n) (Bs Bn b m cap : Nat) (hm : m ≤ 100) (hcap : 64 * m ≤ cap) (hcm : cap ≤ 100000) (w : World) (hBs : Bs < w.heap.size) (hBn : Bn < w.heap.size)
  (h1 : w.cell? ⟨Bs, 0, none⟩ = some (.slice (some ⟨b, 0, none⟩) (64 * m) cap)) (h2 : w.cell? ⟨Bn, 0, none⟩ = some (.int .i64 64)) :
  SeqStopsK F n Try.prog 107 #[.pointer (some ⟨Bs, 0, none⟩), .pointer (some ⟨Bn, 0, none⟩)] (fun j : Fin m => #[chv b j.1]) (BoxKept Bs Bn) (fun ys => ys.map (fun x => x.1) = List.range m) (fun pre => ∃ k, k ≤ m ∧ pre.map (fun x => x.1) = List.range k) m w := fun l J Jx W hW hJ _ hY h0 => by
 exact chunk1_in F n h7 hro hn l Bs Bn b m cap hm hcap hcm J Jx _ hJ hY W ((hW.cell (p := ⟨Bs, 0, none⟩) hBs).trans h1) ((hW.cell (p := ⟨Bn, 0, none⟩) hBn).trans h2) h0
section
variable {P : Program} {w : World} {ops : Array Oper} {rest : List Oper} {o : Oper} {a : Act} {Q : Exit → Act → World → Prop}
theorem wpList_store_blk (hgd : o.guard = none) (ty : TypeId) (x y : Operand) (ho : o.op = .store ty x y) (b k : Nat) (cs : List Value) (t : TypeId) (v : Value) {z : Option Value} {bytes : Nat}
  (hx : a.eval x = .pointer (some ⟨b, k, none⟩)) (hy : a.eval y = v) (hB : BlockIs w b cs t) (hk : k < cs.length) (hv : v.oneCell' = true) (hc : v.cells = #[v]) (hi : (P.info? ty).map (fun i => (i.zero, i.size, i.bytes)) = some (z, 1, bytes))
  (h : ∀ w1, BlockIs w1 b (cs.set k v) t → Keep (Only b) w w1 → wpList P ops Q rest (a.put o.dst undef) w1) : wpList P ops Q (o :: rest) a w := by
 refine wpList_plain hgd fun K' hK' => ?_
 have hr := exec_store_cell (P := P) ty x y ho b k v cs t hx hy hB hk hv hc hi
 unfold Oper.wp
 rw [hr]
 exact hK' _ _ (h _ (hB.set k v) ((Keep.refl _ _).cell k v))
/-- A cell of a variable is loaded. -/
theorem wpList_load_cell (hgd : o.guard = none) (ty : TypeId) (x : Operand) (ho : o.op = .load ty x) (b k : Nat) (cs : List Value) (t : TypeId) (v : Value) (d : TypeDesc)
  (hx : a.eval x = .pointer (some ⟨b, k, none⟩)) (hB : BlockIs w b cs t) (hv : cs[k]? = some v) (hu : P.underlying ty = some d) (hd : d.isRow = false)
  (h : wpList P ops Q rest (a.put o.dst v) w) : wpList P ops Q (o :: rest) a w := by
 refine wpList_run hgd v w ?_ h
 have hagg : (isAgg ty).run P w = .ok false w := by
  unfold isAgg
  rw [Sem.run_bind, run_underlying hu w]
  cases d <;> simp_all
 have hc : w.cell? ⟨b, k, none⟩ = some v := by rw [hB.cell]; exact hv
 have hl : (loadVar ty ⟨b, k, none⟩).run P w = .ok v w := by simp [loadVar, Sem.run_bind, hagg, hc]
 unfold execOp
 simp only [ho, hx, Instr.loadAt, Instr.sureAddr, Sem.run_bind, Sem.run_pure, Result.andThen_ok, hl]
/-- A result that lies in a variable. -/
theorem ret_cell {fn : Func} {R : Ending → World → Prop} {p : Tmp} {ty : TypeId} (h : fn.results = #[.cell p ty]) (b : Nat) (cs : List Value) (t : TypeId) (d : TypeDesc) {z : Option Value} {bytes : Nat}
  (hx : a.tmps.getD p undef = .pointer (some ⟨b, 0, none⟩)) (hB : BlockIs w b cs t) (hu : P.underlying ty = some d) (hd : d.isRow = true) (hi : (P.info? ty).map (fun i => (i.zero, i.size, i.bytes)) = some (z, cs.length, bytes))
  (hdf : a.defers = []) (hR : R (.returned (.agg cs.toArray)) w) : bodyPost P fn R .ret a w := by
 refine bodyPost_ret (v := .agg cs.toArray) ?_ hdf hR
 have hl := run_loadVar_mid w b 0 ty cs d hB.rangeAll hu hd (info_size hi)
 have hx' : a.tmps[p]?.getD undef = .pointer (some ⟨b, 0, none⟩) := by simpa using hx
 simp [results, h, hx', asAddr, Sem.run_bind, hl]
end
end Go.Proofs.Ytffcglfepobdjaa
set_option maxRecDepth 10000
set_option maxHeartbeats 4000000
namespace Go.Proofs.Ytffcglfepobdjaa
open Go.RowKit
theorem stv_one {vl vr : Value} (D : DS) (h1 : vl.oneCell' = true) (h2 : vr.oneCell' = true) : ∀ u ∈ stv vl vr D, u.oneCell' = true := by
 intro u hu
 simp only [stv, List.mem_cons, List.not_mem_nil, or_false] at hu
 rcases hu with rfl | rfl | rfl | rfl | rfl
 ·exact h1
 ·exact h2
 ·rfl
 ·rfl
 ·rfl
def stz : List Value := stv (.slice none 0 0) (.slice none 0 0) ⟨[], [], 0, 0, false⟩
theorem zst_cells : zst.cells = stz.toArray := by rfl
theorem st5_one {vl vr : Value} (h1 : vl.oneCell' = true) (h2 : vr.oneCell' = true) (n m : Int) (b : Bool) : ∀ u ∈ [vl, vr, .int .i64 n, .int .i64 m, .bool b], u.oneCell' = true := by
 intro u hu
 simp only [List.mem_cons, List.not_mem_nil, or_false] at hu
 rcases hu with rfl | rfl | rfl | rfl | rfl
 ·exact h1
 ·exact h2
 ·rfl
 ·rfl
 ·rfl
theorem info4 : (Try.prog.info? 4).map (fun i => (i.zero, i.size, i.bytes)) = some (some (.bool false), 1, 1) := by kernel_rfl
theorem info3' : (Try.prog.info? 3).map (fun i => (i.zero, i.size, i.bytes)) = some (some (.int .i64 0), 1, 8) := by kernel_rfl
theorem st_count {w : World} {vl vr : Value} {D : DS} (hd : D.down = false) (h1 : vl.oneCell' = true) (h2 : vr.oneCell' = true) (ho : D.ops ≤ 1152921504606846976) (hf : -1 ≤ D.fuse) (hf' : D.fuse ≤ 9223372036854775807) :
  Calls Try.prog 57 #[.agg (stv vl vr D).toArray] w (fun e w' => e = .returned (.agg (stv vl vr D.tick).toArray) ∧ Keep Noth w w') := by
 have ho' : (D.ops : Int) ≤ 1152921504606846976 := by omega
 obtain ⟨n, hn⟩ : ∃ n : Int, n = (D.ops : Int) := ⟨_, rfl⟩
 obtain ⟨fu, hfu⟩ : ∃ fu, fu = D.fuse := ⟨_, rfl⟩
 have hs : stv vl vr D = [vl, vr, .int .i64 n, .int .i64 fu, .bool false] := by rw [hn, hfu, ← hd]; rfl
 rw [← hn] at ho'
 rw [← hfu] at hf hf'
 have hn0 : 0 ≤ n := by omega
 rw [hs]
 rcases (show fu = 0 ∨ 0 < fu ∨ fu = -1 by omega) with hf0 | hf0 | hf0
 ·have htick : stv vl vr D.tick = [vl, vr, .int .i64 (n + 1), .int .i64 (-1), .bool true] := by
   simp [stv, DS.tick, ← hfu, hf0, hn]
  rw [htick]
  clear htick hs hn hfu hd ho
  subst hf0
  go_enter Try.func57, Try.ntmps57
  go_wp2_with (first
   | (refine wpList_load_cell rfl 3 _ rfl b _ _ 30 _ _ (by rfl) (by assumption) (by rfl) Try.underlying3 rfl ?_)
   | (refine wpList_store_blk rfl 3 _ _ rfl b 2 _ 30 _ (by rfl) (by rfl) A2 (by simp) rfl rfl info3' ?_; intro w3 A3 K3; have hne : b2 ≠ b := (by have := B1.lt; omega); have B3 := B2.keep K3 hne; simp only [List.set_cons_zero, List.set_cons_succ] at A3)
   | (refine wpList_store_blk rfl 4 _ _ rfl b 4 _ 30 _ (by rfl) (by rfl) A3 (by simp) rfl rfl info4 ?_; intro w4 A4 K4; have B4 := B3.keep K4 hne; simp only [List.set_cons_zero, List.set_cons_succ] at A4)
   | (refine wpList_store_blk rfl 3 _ _ rfl b 3 _ 30 _ (by rfl) (by rfl) A4 (by simp) rfl rfl info3' ?_; intro w5 A5 K5; have B5 := B4.keep K5 hne; simp only [List.set_cons_zero, List.set_cons_succ] at A5)
   | (refine wpList_load_blk rfl 30 _ rfl b 0 [vl, vr, .int .i64 (n + 1), .int .i64 (-1), .bool true] _ 30 _ (by rfl) A5 (fun j v h => by simpa using h) Try.underlying30 rfl info30 ?_)
   | (refine wpList_store_whole rfl 30 _ _ rfl b2 stz [vl, vr, .int .i64 (n + 1), .int .i64 (-1), .bool true] 30 (by rfl) (by rfl) B5 (by rfl) info30 (st5_one h1 h2 _ _ _) ?_; intro w6 B6 K6)
   | (refine wpList_box_v rfl 30 _ rfl [vl, vr, .int .i64 n, .int .i64 0, .bool false] (by rfl) ?_; intro b w1 hb B1 K1)
   | (refine wpList_alloc_v rfl 30 rfl zst info30 stz zst_cells ?_; intro b2 w2 hb2 B2 K2; have A2 := B1.keep K2 id))
  refine ret_cell rfl b2 _ 30 _ (by rfl) B6 Try.underlying30 rfl info30 rfl ?_
  exact ⟨rfl, ((((K1.trans K2 (fun _ _ h => h)).own K3 (fun q e => by unfold Only at e; subst e; exact hb)).own K4 (fun q e => by unfold Only at e; subst e; exact hb)).own K5 (fun q e => by unfold Only at e; subst e; exact hb)).own K6 (fun q e => by unfold Only at e; subst e; exact Nat.le_trans K1.size hb2)⟩
 ·have htick : stv vl vr D.tick = [vl, vr, .int .i64 (n + 1), .int .i64 (fu - 1), .bool false] := by
   have e1 : (fu == 0) = false := by simp; omega
   have e2 : max (fu - 1) (-1) = fu - 1 := by omega
   simp only [stv, DS.tick, ← hfu, e1, e2, hn]; rfl
  rw [htick]
  clear htick hs hn hfu hd ho
  go_enter Try.func57, Try.ntmps57
  go_wp2_with (first
   | (refine wpList_load_cell rfl 3 _ rfl b _ _ 30 _ _ (by rfl) (by assumption) (by rfl) Try.underlying3 rfl ?_)
   | (refine wpList_store_blk rfl 3 _ _ rfl b 2 _ 30 _ (by rfl) (by rfl) A2 (by simp) rfl rfl info3' ?_; intro w3 A3 K3; have hne : b2 ≠ b := (by have := B1.lt; omega); have B3 := B2.keep K3 hne; simp only [List.set_cons_zero, List.set_cons_succ] at A3)
   | (refine wpList_store_blk rfl 3 _ _ rfl b 3 _ 30 _ (by rfl) (by rfl) A3 (by simp) rfl rfl info3' ?_; intro w5 A5 K5; have B5 := B3.keep K5 hne; simp only [List.set_cons_zero, List.set_cons_succ] at A5)
   | (refine wpList_load_blk rfl 30 _ rfl b 0 [vl, vr, .int .i64 (n + 1), .int .i64 (fu - 1), .bool false] _ 30 _ (by rfl) A5 (fun j v h => by simpa using h) Try.underlying30 rfl info30 ?_)
   | (refine wpList_store_whole rfl 30 _ _ rfl b2 stz [vl, vr, .int .i64 (n + 1), .int .i64 (fu - 1), .bool false] 30 (by rfl) (by rfl) B5 (by rfl) info30 (st5_one h1 h2 _ _ _) ?_; intro w6 B6 K6)
   | (refine wpList_box_v rfl 30 _ rfl [vl, vr, .int .i64 n, .int .i64 fu, .bool false] (by rfl) ?_; intro b w1 hb B1 K1)
   | (refine wpList_alloc_v rfl 30 rfl zst info30 stz zst_cells ?_; intro b2 w2 hb2 B2 K2; have A2 := B1.keep K2 id))
  refine ret_cell rfl b2 _ 30 _ (by rfl) B6 Try.underlying30 rfl info30 rfl ?_
  exact ⟨rfl, (((K1.trans K2 (fun _ _ h => h)).own K3 (fun q e => by unfold Only at e; subst e; exact hb)).own K5 (fun q e => by unfold Only at e; subst e; exact hb)).own K6 (fun q e => by unfold Only at e; subst e; exact Nat.le_trans K1.size hb2)⟩
 ·have htick : stv vl vr D.tick = [vl, vr, .int .i64 (n + 1), .int .i64 (-1), .bool false] := by
   simp only [stv, DS.tick, ← hfu, hf0, hn]; rfl
  rw [htick]
  clear htick hs hn hfu hd ho
  subst hf0
  go_enter Try.func57, Try.ntmps57
  go_wp2_with (first
   | (refine wpList_load_cell rfl 3 _ rfl b _ _ 30 _ _ (by rfl) (by assumption) (by rfl) Try.underlying3 rfl ?_)
   | (refine wpList_store_blk rfl 3 _ _ rfl b 2 _ 30 _ (by rfl) (by rfl) A2 (by simp) rfl rfl info3' ?_; intro w3 A3 K3; have hne : b2 ≠ b := (by have := B1.lt; omega); have B3 := B2.keep K3 hne; simp only [List.set_cons_zero, List.set_cons_succ] at A3)
   | (refine wpList_load_blk rfl 30 _ rfl b 0 [vl, vr, .int .i64 (n + 1), .int .i64 (-1), .bool false] _ 30 _ (by rfl) A3 (fun j v h => by simpa using h) Try.underlying30 rfl info30 ?_)
   | (refine wpList_store_whole rfl 30 _ _ rfl b2 stz [vl, vr, .int .i64 (n + 1), .int .i64 (-1), .bool false] 30 (by rfl) (by rfl) B3 (by rfl) info30 (st5_one h1 h2 _ _ _) ?_; intro w6 B6 K6)
   | (refine wpList_box_v rfl 30 _ rfl [vl, vr, .int .i64 n, .int .i64 (-1), .bool false] (by rfl) ?_; intro b w1 hb B1 K1)
   | (refine wpList_alloc_v rfl 30 rfl zst info30 stz zst_cells ?_; intro b2 w2 hb2 B2 K2; have A2 := B1.keep K2 id))
  refine ret_cell rfl b2 _ 30 _ (by rfl) B6 Try.underlying30 rfl info30 rfl ?_
  exact ⟨rfl, ((K1.trans K2 (fun _ _ h => h)).own K3 (fun q e => by unfold Only at e; subst e; exact hb)).own K6 (fun q e => by unfold Only at e; subst e; exact Nat.le_trans K1.size hb2)⟩
end Go.Proofs.Ytffcglfepobdjaa
set_option maxHeartbeats 1000000
namespace Go.Proofs.Ytffcglfepobdjaa
open Go.RowKit
structure OpC where
 o : OpV
 Ab : Option Addr
 Af : Option Addr
 cb : Nat
 cf : Nat
theorem Reads.where {w : World} {A : Option Addr} {cs : List Value} (h : Reads w A cs) (h0 : 0 < cs.length) : ∃ g o, A = some ⟨g, o, none⟩ ∧ w.rangeAt g o cs ∧ g < w.heap.size := by
 obtain ⟨ad, rfl, hc⟩ := h 0 cs[0] (by simp)
 have hlt := World.block_lt_of_cell? w _ hc
 obtain ⟨g, o, sp⟩ := ad
 have hs : sp = none := by
  cases sp with
  | none => rfl
  | some n =>
   simp only [Addr.add, if_true, World.cell?, Option.isSome] at hc
   split at hc <;> cases hc
 subst hs
 refine ⟨g, o, rfl, fun j v hv => ?_, hlt⟩
 obtain ⟨ad, e, hc⟩ := h j v hv
 injection e with e
 subst e
 rw [Addr.add_mid] at hc
 exact hc
theorem range_elem {w : World} {g o size : Nat} {xs : List (List Value)} (h : w.rangeAt g o xs.flatten) (he : ∀ x ∈ xs, x.length = size) (i : Nat) (hi : i < xs.length) : w.rangeAt g (o + i * size) xs[i] := fun j v hv => by
 have := h (i * size + j) v (flatten_at size xs i he hi j v hv)
 rw [Nat.add_assoc]; exact this
def zop : List Value := [.int .i64 0, .int .i64 0, .slice none 0 0, .slice none 0 0]
theorem info36 : (Try.prog.info? 36).map (fun i => (i.zero, i.size, i.bytes)) = some (some (.agg zop.toArray), 4, 64) := by kernel_rfl
section
variable {P : Program} {w : World} {ops : Array Oper} {rest : List Oper} {op : Oper} {a : Act} {Q : Exit → Act → World → Prop}
/-- An element of a slice that is only read is loaded. -/
theorem wpList_load_elem (hgd : op.guard = none) (ty : TypeId) (x : Operand) (ho : op.op = .load ty x) (size g o : Nat) (xs : List (List Value)) (i off : Nat) (cs : List Value) (d : TypeDesc)
  (H : w.rangeAt g o xs.flatten) (he : ∀ x ∈ xs, x.length = size) (hi0 : i < xs.length) (hcs : xs[i] = cs) (hoff : off = o + i * size) (hx : a.eval x = .pointer (some ⟨g, off, none⟩))
  (hu : P.underlying ty = some d) (hd : d.isRow = true) (hi : (P.info? ty).map (·.size) = some size)
  (h : wpList P ops Q rest (a.put op.dst (.agg cs.toArray)) w) : wpList P ops Q (op :: rest) a w := by
 subst hoff
 subst hcs
 exact wpList_load_mid hgd ty x ho g (o + i * size) hx _ d (range_elem H he i hi0) hu hd (by rw [he _ (List.getElem_mem hi0)]; exact hi) h
end
def scriptSize (xs : List OpC) : Nat := (xs.map fun x => x.o.b.length + x.o.forms.length).sum
def few (xs : List OpC) : Int := if xs.length ≤ 80 ∧ scriptSize xs ≤ 8000 then 0 else (scriptSize xs : Int) + xs.length
end Go.Proofs.Ytffcglfepobdjaa
set_option maxHeartbeats 1500000
namespace Go.Proofs.Ytffcglfepobdjaa
open Go.RowKit
theorem info5' : (Try.prog.info? 5).map (fun i => (i.zero, i.size, i.bytes)) = some (some (.int .u8 0), 1, 1) := info5
theorem fillz_set (x : List UInt8) (y : UInt8) (hx : x.length < 64) : (fillz x).set x.length y = fillz (x ++ [y]) := by
 have h0 : zb.length = 64 := zb_length
 unfold fillz splice
 apply List.ext_getElem?
 intro i
 simp only [List.take_zero, List.nil_append, Nat.zero_add, List.length_append, List.length_singleton]
 rw [List.getElem?_set]
 split
 ·rename_i h
  subst h
  simp [h0]
  omega
 ·rename_i h
  rcases Nat.lt_or_ge i x.length with h1 | h1
  ·rw [List.getElem?_append_left h1, List.append_assoc, List.getElem?_append_left h1]
  ·rw [List.getElem?_append_right h1, List.append_assoc, List.getElem?_append_right h1, List.singleton_append, List.getElem?_drop]
   have : i - x.length = (i - x.length - 1) + 1 := by omega
   rw [this, List.getElem?_cons_succ, List.getElem?_drop]
   congr 1
   omega
theorem bv_set (l : List UInt8) (k : Nat) (y : UInt8) : (bv l).set k (u8 y) = bv (l.set k y) := by simp [bv, List.map_set]
theorem st_fill (w : World) (A : Option Addr) (c : Nat) (b : List UInt8) (fr : Nat) (hA : Reads w A (bv b)) (hb : b.length ≤ 140737488355328) (hf : fr ≤ 140737488355328) :
  Calls Try.prog 56 #[.slice A b.length c, .int .i64 (fr : Int)] w (fun e w' => e = .returned (.agg (bv (fillz ((b.drop fr).take 64))).toArray) ∧ Keep Noth w w') := by
 have hb' : (b.length : Int) ≤ 140737488355328 := by omega
 have hf' : (fr : Int) ≤ 140737488355328 := by omega
 have hfz : ∀ k, k ≤ 64 → (fillz ((b.drop fr).take k)).length = 64 := fun k hk => fillz_length _ (by rw [List.length_take]; omega)
 have HA := hid hA
 have Hfz := hid hfz
 clear hA hfz
 go_enter Try.func56, Try.ntmps56
 go_wp2_with (first | (have := B1; refine wpList_alloc_v rfl 52 rfl zv info52 (bv zb) zv_cells ?_; intro b5 w2 hb5 B2 K2; have B12 := B1.keep K2 id) | (refine wpList_alloc_v rfl 52 rfl zv info52 (bv zb) zv_cells ?_; intro b4 w1 hb4 B1 K1))
 have K02 : Keep Noth w w2 := K1.trans K2 (fun _ _ h => h)
 have hb45 : b4 ≠ b5 := by have := B1.lt; omega
 have hs := K1.size
 go_loopw [6] (fun i wr => ∃ k : Nat, i = .int .i64 k ∧ k ≤ 64 ∧ (k = 0 ∨ fr + k ≤ b.length) ∧ BlockIs wr b5 (bv (fillz ((b.drop fr).take k))) 52 ∧ BlockIs wr b4 (bv zb) 52 ∧ Keep Noth w wr) (fun i _ => 64 - (intOf i).toNat)
 case atStart => exact ⟨0, rfl, Nat.zero_le _, .inl rfl, by rw [List.take_zero]; exact B2, B12, K02⟩
 case round =>
  obtain ⟨k, rfl, hk64, hkb, B5, B4, HK⟩ := hrel
  clear B1 B2 B12
  by_cases hlt : k < 64 ∧ fr + k < b.length
  ·obtain ⟨h1, h2⟩ := hlt
   have h1' : (k : Int) < 64 := by omega
   have h2' : (fr : Int) + k < b.length := by omega
   have hRw := HA.out.keep HK (fun _ _ => id)
   obtain ⟨g, o, hAo, hr, hg⟩ := hRw.where (by rw [bv_length]; omega)
   subst hAo
   obtain ⟨y, hy⟩ : ∃ y, b[fr + k]? = some y := ⟨_, List.getElem?_eq_getElem h2⟩
   have hcell : wr.cell? ⟨g, o + (fr + k), none⟩ = some (.int .u8 (y.toNat : Int)) := hr (fr + k) (Go.Proofs.Ytffcglfepobdjaa.u8 y) (by simp [bv, hy])
   have htk : (b.drop fr).take (k + 1) = (b.drop fr).take k ++ [y] := by
    rw [List.take_add_one, List.getElem?_drop, hy]; rfl
   have hxl : ((b.drop fr).take k).length = k := by rw [List.length_take, List.length_drop]; omega
   have hset : (bv (fillz ((b.drop fr).take k))).set k (Go.Proofs.Ytffcglfepobdjaa.u8 y) = bv (fillz ((b.drop fr).take (k + 1))) := by
    rw [bv_set, htk]
    have := fillz_set ((b.drop fr).take k) y (by omega)
    rw [hxl] at this
    rw [this]
   have Hset := hid hset
   have Hl := hid (show (bv (fillz ((b.drop fr).take k))).length = 64 by rw [bv_length]; exact Hfz.out k hk64)
   clear hr htk hset hxl hy
   go_wp2_with (refine wpList_store_blk rfl 5 _ _ rfl b5 k _ 52 (.int .u8 (y.toNat : Int)) (by rfl) (by rfl) B5 (by rw [Hl.out]; exact h1) rfl rfl info5' ?_; intro w7 B7 K7)
   go_roundw
   case rel => exact ⟨k + 1, by go_num, h1, .inr h2, by rw [← Hset.out]; exact B7, B4.keep K7 hb45, HK.own K7 (fun q e => by unfold Only at e; subst e; omega)⟩
   case measure => simp [intOf]; omega
  ·have hfin : (b.drop fr).take k = (b.drop fr).take 64 := by
    rcases Nat.lt_or_ge k 64 with h | h
    ·rw [List.take_of_length_le (by rw [List.length_drop]; omega), List.take_of_length_le (by rw [List.length_drop]; omega)]
    ·rw [show k = 64 by omega]
   rw [hfin] at B5
   have Hl := hid (show (bv (fillz ((b.drop fr).take 64))).length = 64 by rw [bv_length]; exact Hfz.out 64 (Nat.le_refl _))
   have hor : 64 ≤ k ∨ (k < 64 ∧ b.length ≤ fr + k) := by omega
   clear hfin
   rcases hor with h | ⟨h, h'⟩
   ·have h64 : k = 64 := by omega
    subst h64
    go_wp2_with (first | (refine wpList_store_whole rfl 52 _ _ rfl b4 (bv zb) (bv (fillz ((b.drop fr).take 64))) 52 (by rfl) (by rfl) B4 (by rw [Hl.out, bvz_length]) (by rw [Hl.out]; exact info52) (bv_one _) ?_; intro w7 B7 K7) | (refine wpList_load_blk rfl 52 _ rfl b5 0 (bv (fillz ((b.drop fr).take 64))) (bv (fillz ((b.drop fr).take 64))) 52 _ (by rfl) B5 (fun j v h => by simpa using h) Try.underlying52 rfl (by rw [Hl.out]; exact info52) ?_))
    refine ret_cell rfl b4 _ 52 _ (by rfl) B7 Try.underlying52 rfl (by rw [Hl.out]; exact info52) rfl ?_
    exact ⟨rfl, HK.own K7 (fun q e => by unfold Only at e; subst e; omega)⟩
   ·have h1' : (k : Int) < 64 := by omega
    have h2' : (b.length : Int) ≤ (fr : Int) + k := by omega
    go_wp2_with (first | (refine wpList_store_whole rfl 52 _ _ rfl b4 (bv zb) (bv (fillz ((b.drop fr).take 64))) 52 (by rfl) (by rfl) B4 (by rw [Hl.out, bvz_length]) (by rw [Hl.out]; exact info52) (bv_one _) ?_; intro w7 B7 K7) | (refine wpList_load_blk rfl 52 _ rfl b5 0 (bv (fillz ((b.drop fr).take 64))) (bv (fillz ((b.drop fr).take 64))) 52 _ (by rfl) B5 (fun j v h => by simpa using h) Try.underlying52 rfl (by rw [Hl.out]; exact info52) ?_))
    refine ret_cell rfl b4 _ 52 _ (by rfl) B7 Try.underlying52 rfl (by rw [Hl.out]; exact info52) rfl ?_
    exact ⟨rfl, HK.own K7 (fun q e => by unfold Only at e; subst e; omega)⟩
section
variable {P : Program} {w : World} {ops : Array Oper} {rest : List Oper} {o : Oper} {a : Act} {Q : Exit → Act → World → Prop}
/-- A slice of one element, built. -/
theorem wpList_slice1_v (hgd : o.guard = none) (T E : TypeId) (x : Operand) (ho : o.op = .buildSlice T 1 #[(0, x)]) (hT : P.underlying T = some (.slice E)) (cs : List Value) (z : Value) {size bytes : Nat} (hi : (P.info? E).map (fun i => (i.zero, i.size, i.bytes)) = some (some z, size, bytes)) (hz : z.cells.size = size) (h0 : 0 < size) (hm : size ≤ 16777216)
  (hx : (a.eval x).cells = cs.toArray) (hl : cs.length = size)
  (h : ∀ b w1, w.heap.size ≤ b → BlockIs w1 b cs E → Keep Noth w w1 → wpList P ops Q rest (a.put o.dst (.slice (some ⟨b, 0, none⟩) 1 1)) w1) : wpList P ops Q (o :: rest) a w :=
 wpList_run hgd _ _ (exec_buildSlice1 T E x ho hT cs z hi hz h0 hm hx hl) (h _ _ (Nat.le_refl _) (BlockIs.new w cs E) ((Keep.refl _ _).alloc _))
end
def stn : List Value := [.slice none 0 0, .slice none 0 0, .int .i64 0, .int .i64 (-1), .bool false]
theorem build30 (W : World) : (Instr.build 30 #[(3, .int .i64 (-1))]).run Try.prog W = .ok (.agg stn.toArray) W := by kernel_rfl
def lenOf : Option Value → Nat
 | some (.slice _ n _) => n
 | _ => 0
/-- Blocks that the call heaps up, told in cell 0 of its variable b. -/
structure Heap0 (w2 wr : World) (b b' : Nat) (v : Value) (row : List Value) (xs : List (List Value)) : Prop where
 rows : Rows wr (fun q => w2.heap.size ≤ q ∧ q < wr.heap.size) 52 64 v xs
 var : BlockIs wr b (v :: row) 30
 out : BlockIs wr b' stz 30
 kept : Keep (Only b) w2 wr
theorem zv_size : zv.cells.size = 64 := by rw [zv_cells, List.size_toArray]; exact bvz_length
theorem Heap0.next {w2 wr wA w3 w4 : World} {b3 b2 : Nat} {v v3 : Value} {row : List Value} {xs : List (List Value)} {x : List Value} (H : Heap0 w2 wr b3 b2 v row xs) (h22 : b2 < w2.heap.size) (h32 : b3 < w2.heap.size) (hb23 : b2 ≠ b3) (KA : Keep Noth wr wA)
  (HR3 : Rows w3 (fun q => v.ownBlock = some q ∨ (wA.heap.size ≤ q ∧ q < w3.heap.size)) 52 64 v3 (xs ++ [x])) (K3 : Keep (fun q => v.ownBlock = some q) wA w3) (B4 : BlockIs w4 b3 (v3 :: row) 30) (K4 : Keep (Only b3) w3 w4) :
  Heap0 w2 w4 b3 b2 v3 row (xs ++ [x]) := by
 have hno : ∀ q, v.ownBlock = some q → w2.heap.size ≤ q ∧ q < wr.heap.size := H.rows.foot
 have hs := H.kept.size
 have hsA := KA.size
 have hs3 := K3.size
 have hs4 := K4.size
 refine ⟨?_, B4, ((H.out.keep KA id).keep K3 (fun e => by have := (hno b2 e).1; omega)).keep K4 hb23, ?_⟩
 ·have h := HR3.mono (G := fun q => w2.heap.size ≤ q ∧ q < w3.heap.size) (fun q hq => by
   rcases hq with hq | hq
   ·have := hno q hq; omega
   ·have := hq.1; omega)
  exact (h.keep K4 (fun q h1 h2 => by unfold Only at h2; subst h2; omega)).mono (fun q hq => ⟨hq.1, Nat.lt_of_lt_of_le hq.2 hs4⟩)
 ·exact ((H.kept.trans KA (fun _ _ h => h.elim)).trans K3 (fun q hq e => by have h3 := (hno q e).1; omega)).trans K4 (fun _ _ h => h)
theorem Heap0.lenOf {w2 wr : World} {b b' : Nat} {v : Value} {row : List Value} {xs : List (List Value)} (H : Heap0 w2 wr b b' v row xs) : Go.Proofs.Ytffcglfepobdjaa.lenOf (wr.cell? ⟨b, 0, none⟩) = xs.length := by
 obtain ⟨A, c, hv⟩ := H.rows.val
 rw [H.var.cell 0, List.getElem?_cons_zero, hv]; rfl
/-- The first k blocks of an image. -/
def chunks (im : List UInt8) (k : Nat) : List (List Value) := (List.range k).map fun j => bv (chunk im (64 * j))
theorem chunks_length (im : List UInt8) (k : Nat) : (chunks im k).length = k := by simp [chunks]
theorem chunks_succ (im : List UInt8) (k : Nat) : chunks im (k + 1) = chunks im k ++ [bv (chunk im (64 * k))] := by simp [chunks, List.range_succ]
theorem chunks_ofL (im : List UInt8) (n : Nat) : chunks im n = (ofL im n n).map bv := by
 unfold chunks ofL
 rw [List.map_map]
 refine List.map_congr_left fun j hj => ?_
 have : j < n := List.mem_range.1 hj
 simp [this]
theorem of_st {w w2 wr w6 : World} {b2 b3 k c : Nat} {A : Option Addr} {im : List UInt8} (hn : k = ofN im) (HH : Heap0 w2 wr b3 b2 (.slice A k c) [.slice none 0 0, .int .i64 0, .int .i64 (-1), .bool false] (chunks im k)) (K02 : Keep Noth w w2) (hb2 : w.heap.size ≤ b2) (h22 : b2 < w2.heap.size) (hb3 : w.heap.size ≤ b3) (K6 : Keep (Only b2) wr w6) :
  ∃ vl, Ending.returned (.agg [.slice A k c, .slice none 0 0, .int .i64 0, .int .i64 (-1), .bool false].toArray) = .returned (.agg (stv vl (.slice none 0 0) (DS.of im)).toArray) ∧ StAt w6 (Fresh w w6) vl (.slice none 0 0) (DS.of im) ∧ Keep Noth w w6 := by
 have hs := K02.size
 have hs6 := K6.size
 refine ⟨.slice A k c, rfl, ⟨?_, Rows.nil _ _ _ _⟩, (K02.own HH.kept (fun q e => by unfold Only at e; subst e; exact hb3)).own K6 (fun q e => by unfold Only at e; subst e; exact hb2)⟩
 have h := (HH.rows.keep K6 (fun q h1 h2 => by unfold Only at h2; subst h2; omega)).mono (G := Fresh w w6) (fun q hq => ⟨by have := hq.1; omega, by have := hq.2; omega⟩)
 rw [chunks_ofL, hn] at h
 rw [hn]
 exact h
theorem st_of (w : World) (AA : Option Addr) (cc : Nat) (im : List UInt8) (hA : Reads w AA (bv im)) (hl : im.length ≤ 262144) :
  Calls Try.prog 34 #[.slice AA im.length cc] w (fun e w' => ∃ vl, e = .returned (.agg (stv vl (.slice none 0 0) (DS.of im)).toArray) ∧ StAt w' (Fresh w w') vl (.slice none 0 0) (DS.of im) ∧ Keep Noth w w') := by
 have hb30 := build30
 have HA := hid hA
 clear hA
 go_enter Try.func34, Try.ntmps34
 go_wp2_with (first | (guard_target = wpList _ _ _ (Oper.mk _ (Op.alloc _) _ _ _ _ :: _) _ _; first | (refine wpList_alloc_store rfl 30 rfl 3 _ rfl (by rfl) rfl rfl (by decide) zst stn info30 stz zst_cells (by rfl) (by rfl) (by decide) ?_; intro b3 w2 hb3 B2 K2; have B12 := B1.keep K2 id) | (refine wpList_alloc_v rfl 30 rfl zst info30 stz zst_cells ?_; intro b2 w1 hb2 B1 K1)))
 obtain ⟨n, hn⟩ : ∃ n, n = ofN im := ⟨_, rfl⟩
 have hnc : (n : Int) = min (max (((im.length + 63) / 64 : Nat) : Int) 1) 4096 := by rw [hn]; unfold ofN clampN; omega
 have hn1 : 1 ≤ n := by omega
 have hn2 : n ≤ 4096 := by omega
 have hb23 : b2 ≠ b3 := by have := B1.lt; omega
 have h32 : b3 < w2.heap.size := B2.lt
 have h22 : b2 < w2.heap.size := B12.lt
 have K02 : Keep Noth w w2 := K1.trans K2 (fun _ _ h => h)
 have hw2 := K02.size
 have hw3 : w.heap.size ≤ b3 := Nat.le_trans K1.size hb3
 have Hn := hid hn
 clear hn
 have hlI : (im.length : Int) ≤ 262144 := by omega
 go_frame
 go_loopw [] (fun wr => ∃ (k : Nat) (v : Value), k ≤ n ∧ Heap0 w2 wr b3 b2 v [.slice none 0 0, .int .i64 0, .int .i64 (-1), .bool false] (chunks im k)) (fun wr => 4096 - lenOf (wr.cell? ⟨b3, 0, none⟩))
 case atStart => exact ⟨0, .slice none 0 0, Nat.zero_le _, ⟨Rows.nil _ _ _ _, B2, B12, Keep.refl _ _⟩⟩
 case round =>
  obtain ⟨k, v, hkn, HH⟩ := hrel
  obtain ⟨A, c, hv⟩ := HH.rows.val
  rw [chunks_length] at hv
  have hl0 := HH.lenOf
  rw [chunks_length] at hl0
  have hkk : (k : Int) ≤ 4096 := by omega
  by_cases hlt : k < n
  ·have hone := HH.rows.one_val
   subst hv
   have hkk : (k : Int) < 4096 := by omega
   have hor : k = 0 ∨ (1 ≤ k ∧ 64 * (k : Int) < im.length) := by omega
   have hno : ∀ q, (Value.slice A k c).ownBlock = some q → w2.heap.size ≤ q ∧ q < wr.heap.size := HH.rows.foot
   have hs := HH.kept.size
   have c0 := HH.var.cell 0
   simp only [List.getElem?_cons_zero] at c0
   rcases hor with h0 | ⟨h1, h2⟩
   ·have hk1 : (k : Int) < 1 := by omega
    clear h0
    go_wp2_with fail
    clear c0
    refine wp_region_ordL [(0, true), (1, true), (2, true), (3, true), (4, true), (5, true), (6, true), (7, false), (8, false), (9, false), (10, true), (11, false)] (fun w' => BlockIs w' b3 [.slice A k c, .slice none 0 0, .int .i64 0, .int .i64 (-1), .bool false] 30) follows_mixed (by kernel_rfl) HH.var.drew ?_
    simp only [List.map_cons, List.map_nil, List.getElem?_cons_succ, List.getElem?_cons_zero, Option.getD_some]
    refine wpO_pure (v := .pointer (some ⟨b3, 0, none⟩)) (by rfl) (fun w' hw' => by go_simp) ?_
    go_frame
    refine wpO_pure (v := .slice A k c) (by rfl) (fun w' hw' => by have hc := hw'.cell 0; simp only [List.getElem?_cons_zero] at hc; go_simp) ?_
    go_frame
    refine wpO_pure (v := .slice AA im.length cc) (by rfl) (fun w' hw' => by rfl) ?_
    go_frame
    refine wpO_pure (v := .pointer (some ⟨b3, 0, none⟩)) (by rfl) (fun w' hw' => by go_simp) ?_
    go_frame
    refine wpO_pure (v := .slice A k c) (by rfl) (fun w' hw' => by have hc := hw'.cell 0; simp only [List.getElem?_cons_zero] at hc; go_simp) ?_
    go_frame
    refine wpO_pure (v := .int .i64 (k : Int)) (by rfl) (fun w' hw' => by go_simp) ?_
    go_frame
    refine wpO_pure (v := .int .i64 (64 * (k : Int))) (by rfl) (fun w' hw' => by go_simp; exact IntWalk.i64_in _ (by omega)) ?_
    go_frame
    refine wpO_call (by rfl) (exec_call' 56 _ _ rfl Try.func56 (by kernel_rfl) (by rfl) #[.slice AA im.length cc, .int .i64 ((64 * k : Nat) : Int)] (by simp [Act.eval])) ((st_fill _ AA cc im (64 * k) (HA.out.keep ((K02.own HH.kept (fun q e => by unfold Only at e; subst e; exact hw3)).drew) (fun _ _ => id)) (by omega) (by omega)).mono ?_)
    rintro e wA ⟨rfl, KA'⟩
    have KA : Keep Noth wr wA := ((Keep.refl Noth wr).drew).trans KA' (fun _ _ h => h)
    have HB := HH.var.keep KA id
    refine ⟨_, rfl, .inr HB, ?_⟩
    go_frame
    refine wpO_run (by rfl) (exec_buildSlice1 27 52 _ rfl sl27 (bv (chunk im (64 * k))) zv info52 zv_size (by decide) (by decide) (by rfl) (by rw [bv_length]; exact chunk_length _ _)) (.inr (HB.alloc _)) ?_
    have KB : Keep Noth wr (wA.alloc (.cells (bv (chunk im (64 * k))).toArray 52)) := KA.alloc _
    have BA : BlockIs (wA.alloc (.cells (bv (chunk im (64 * k))).toArray 52)) wA.heap.size (bv (chunk im (64 * k))) 52 := BlockIs.new wA _ _
    generalize wA.alloc (.cells (bv (chunk im (64 * k))).toArray 52) = wB at *
    go_frame
    have hc64 : (bv (chunk im (64 * k))).length = 64 := by rw [bv_length]; exact chunk_length _ _
    obtain ⟨v3, w3, hr3, HR3, K3⟩ := run_append_rows (P := Try.prog) (w := wB) 27 27 52 zv 64 64 sl27 info52 zv_size (by decide) (by decide) _ (.slice A k c) (chunks im k) [bv (chunk im (64 * k))] (HH.rows.keep KB (Dj.noth _)) (some ⟨wA.heap.size, 0, none⟩) 1 1 rfl (fun h => by cases h) (by intro x hx; rw [List.mem_singleton.1 hx]; exact hc64) (by rw [List.flatten_singleton]; exact Reads.of_range BA.rangeAll) (by rw [List.flatten_singleton]; exact bv_one _) (by rw [chunks_length]; omega)
    have HB3 := (HH.var.keep KB id).keep K3 (fun e => by have h3 := (hno b3 e).1; omega)
    refine wpO_run (by rfl) (exec_append _ _ 27 rfl (by simp [Act.eval]) (by simp [Act.eval]) hr3) (.inr HB3) ?_
    go_frame
    refine wpO_pure (v := .pointer (some ⟨b3, 0, none⟩)) (by rfl) (fun w' hw' => by go_simp) ?_
    go_frame
    refine wpO_store (by rfl) (exec_store_cell 27 _ _ rfl b3 0 v3 _ 30 (by simp [Act.eval]) (by simp [Act.eval]) HB3 (by simp) HR3.one_val.1 HR3.one_val.2 info27) (.inl rfl) ?_
    refine wpO_nil ?_
    have B4 := HB3.set 0 v3
    have K4 := (Keep.refl (Only b3) w3).cell 0 v3
    generalize w3.setCell ⟨b3, 0, none⟩ v3 = w4 at *
    simp only [List.set_cons_zero] at B4
    have HN := HH.next h22 h32 hb23 KB HR3 K3 B4 K4
    rw [← chunks_succ] at HN
    have hl1 := HN.lenOf
    rw [chunks_length] at hl1
    clear HH HR3 K3 B4 K4 KB BA HB HB3 KA KA' hr3
    go_frame
    go_wp2_with fail
    go_roundw
    case rel => exact ⟨k + 1, v3, hlt, HN⟩
    case measure => rw [hl0, hl1]; omega
   ·have h1' : ¬ (k : Int) < 1 := by omega
    go_wp2_with fail
    clear c0
    refine wp_region_ordL [(0, true), (1, true), (2, true), (3, true), (4, true), (5, true), (6, true), (7, false), (8, false), (9, false), (10, true), (11, false)] (fun w' => BlockIs w' b3 [.slice A k c, .slice none 0 0, .int .i64 0, .int .i64 (-1), .bool false] 30) follows_mixed (by kernel_rfl) HH.var.drew ?_
    simp only [List.map_cons, List.map_nil, List.getElem?_cons_succ, List.getElem?_cons_zero, Option.getD_some]
    refine wpO_pure (v := .pointer (some ⟨b3, 0, none⟩)) (by rfl) (fun w' hw' => by go_simp) ?_
    go_frame
    refine wpO_pure (v := .slice A k c) (by rfl) (fun w' hw' => by have hc := hw'.cell 0; simp only [List.getElem?_cons_zero] at hc; go_simp) ?_
    go_frame
    refine wpO_pure (v := .slice AA im.length cc) (by rfl) (fun w' hw' => by rfl) ?_
    go_frame
    refine wpO_pure (v := .pointer (some ⟨b3, 0, none⟩)) (by rfl) (fun w' hw' => by go_simp) ?_
    go_frame
    refine wpO_pure (v := .slice A k c) (by rfl) (fun w' hw' => by have hc := hw'.cell 0; simp only [List.getElem?_cons_zero] at hc; go_simp) ?_
    go_frame
    refine wpO_pure (v := .int .i64 (k : Int)) (by rfl) (fun w' hw' => by go_simp) ?_
    go_frame
    refine wpO_pure (v := .int .i64 (64 * (k : Int))) (by rfl) (fun w' hw' => by go_simp; exact IntWalk.i64_in _ (by omega)) ?_
    go_frame
    refine wpO_call (by rfl) (exec_call' 56 _ _ rfl Try.func56 (by kernel_rfl) (by rfl) #[.slice AA im.length cc, .int .i64 ((64 * k : Nat) : Int)] (by simp [Act.eval])) ((st_fill _ AA cc im (64 * k) (HA.out.keep ((K02.own HH.kept (fun q e => by unfold Only at e; subst e; exact hw3)).drew) (fun _ _ => id)) (by omega) (by omega)).mono ?_)
    rintro e wA ⟨rfl, KA'⟩
    have KA : Keep Noth wr wA := ((Keep.refl Noth wr).drew).trans KA' (fun _ _ h => h)
    have HB := HH.var.keep KA id
    refine ⟨_, rfl, .inr HB, ?_⟩
    go_frame
    refine wpO_run (by rfl) (exec_buildSlice1 27 52 _ rfl sl27 (bv (chunk im (64 * k))) zv info52 zv_size (by decide) (by decide) (by rfl) (by rw [bv_length]; exact chunk_length _ _)) (.inr (HB.alloc _)) ?_
    have KB : Keep Noth wr (wA.alloc (.cells (bv (chunk im (64 * k))).toArray 52)) := KA.alloc _
    have BA : BlockIs (wA.alloc (.cells (bv (chunk im (64 * k))).toArray 52)) wA.heap.size (bv (chunk im (64 * k))) 52 := BlockIs.new wA _ _
    generalize wA.alloc (.cells (bv (chunk im (64 * k))).toArray 52) = wB at *
    go_frame
    have hc64 : (bv (chunk im (64 * k))).length = 64 := by rw [bv_length]; exact chunk_length _ _
    obtain ⟨v3, w3, hr3, HR3, K3⟩ := run_append_rows (P := Try.prog) (w := wB) 27 27 52 zv 64 64 sl27 info52 zv_size (by decide) (by decide) _ (.slice A k c) (chunks im k) [bv (chunk im (64 * k))] (HH.rows.keep KB (Dj.noth _)) (some ⟨wA.heap.size, 0, none⟩) 1 1 rfl (fun h => by cases h) (by intro x hx; rw [List.mem_singleton.1 hx]; exact hc64) (by rw [List.flatten_singleton]; exact Reads.of_range BA.rangeAll) (by rw [List.flatten_singleton]; exact bv_one _) (by rw [chunks_length]; omega)
    have HB3 := (HH.var.keep KB id).keep K3 (fun e => by have h3 := (hno b3 e).1; omega)
    refine wpO_run (by rfl) (exec_append _ _ 27 rfl (by simp [Act.eval]) (by simp [Act.eval]) hr3) (.inr HB3) ?_
    go_frame
    refine wpO_pure (v := .pointer (some ⟨b3, 0, none⟩)) (by rfl) (fun w' hw' => by go_simp) ?_
    go_frame
    refine wpO_store (by rfl) (exec_store_cell 27 _ _ rfl b3 0 v3 _ 30 (by simp [Act.eval]) (by simp [Act.eval]) HB3 (by simp) HR3.one_val.1 HR3.one_val.2 info27) (.inl rfl) ?_
    refine wpO_nil ?_
    have B4 := HB3.set 0 v3
    have K4 := (Keep.refl (Only b3) w3).cell 0 v3
    generalize w3.setCell ⟨b3, 0, none⟩ v3 = w4 at *
    simp only [List.set_cons_zero] at B4
    have HN := HH.next h22 h32 hb23 KB HR3 K3 B4 K4
    rw [← chunks_succ] at HN
    have hl1 := HN.lenOf
    rw [chunks_length] at hl1
    clear HH HR3 K3 B4 K4 KB BA HB HB3 KA KA' hr3
    go_frame
    go_wp2_with fail
    go_roundw
    case rel => exact ⟨k + 1, v3, hlt, HN⟩
    case measure => rw [hl0, hl1]; omega
  ·have hge : k = n := by omega
   have hnk : ¬ (k : Int) < 1 := by omega
   have h1 : ¬ (64 * (k : Int) < im.length) := by omega
   subst hv
   subst hge
   have c0 := HH.var.cell 0
   simp only [List.getElem?_cons_zero] at c0
   clear hn2 hnc hl0
   go_wp2_with (first
   | (guard_target = wpList _ _ _ (Oper.mk _ (Op.load _ _) _ _ _ _ :: _) _ _; refine wpList_load_blk rfl 30 _ rfl b3 0 [.slice A k c, .slice none 0 0, .int .i64 0, .int .i64 (-1), .bool false] _ 30 _ (by rfl) HH.var (fun j v h => by simpa using h) Try.underlying30 rfl info30 ?_)
   | (guard_target = wpList _ _ _ (Oper.mk _ (Op.store _ _ _) _ _ _ _ :: _) _ _; refine wpList_store_whole rfl 30 _ _ rfl b2 stz [.slice A k c, .slice none 0 0, .int .i64 0, .int .i64 (-1), .bool false] 30 (by rfl) (by rfl) HH.out (by rfl) info30 (st5_one rfl rfl _ _ _) ?_; intro w6 B6 K6))
   refine ret_cell rfl b2 _ 30 _ (by rfl) B6 Try.underlying30 rfl info30 rfl ?_
   exact of_st Hn.out HH K02 hb2 h22 hw3 K6
theorem st_at {w : World} {F : Nat → Prop} {vl vr : Value} {D : DS} (H : StAt w F vl vr D) (hok : D.ok) (hr : D.row.length ≤ 1099511627776) (k : Nat) (hk : k < D.l.length) :
  Calls Try.prog 55 #[.agg (stv vl vr D).toArray, .int .i64 (k : Int)] w (fun e w' => e = .returned (.agg (bv (D.at k)).toArray) ∧ Keep Noth w w') := by
 obtain ⟨Al, cl, rfl⟩ := H.l.valm
 obtain ⟨Ar, cr, rfl⟩ := H.row.valm
 obtain ⟨gl, rfl⟩ := H.l.some_at (by rw [List.length_map]; omega)
 obtain ⟨n, hn⟩ : ∃ n, n = D.l.length := ⟨_, rfl⟩
 obtain ⟨m0, hm0⟩ : ∃ n, n = D.row.length := ⟨_, rfl⟩
 have hst : (stv (.slice (some ⟨gl, 0, none⟩) D.l.length cl) (.slice Ar D.row.length cr) D) = [.slice (some ⟨gl, 0, none⟩) n cl, .slice Ar m0 cr, .int .i64 (D.ops : Int), .int .i64 D.fuse, .bool D.down] := by rw [hn, hm0]; rfl
 rw [hst]
 have hk1 : (k : Int) < n := by omega
 have hm1 : (m0 : Int) ≤ 1099511627776 := by omega
 have h64 := hok.l64 D.l[k] (List.getElem_mem hk)
 have H64 := hid h64
 have HR := hid H
 have Hm0 := hid hm0
 have Hn := hid hn
 clear hst h64 hn hm0 H
 go_enter Try.func55, Try.ntmps55
 go_wp2_with (first
  | (guard_target = wpList _ _ _ (Oper.mk _ (Op.box _ _) _ _ _ _ :: _) _ _; refine wpList_box_v rfl 30 _ rfl [.slice (some ⟨gl, 0, none⟩) n cl, .slice Ar m0 cr, .int .i64 (D.ops : Int), .int .i64 D.fuse, .bool D.down] (by rfl) ?_; intro b2 w1 hb2 B1 K1)
  | (guard_target = wpList _ _ _ (Oper.mk _ (Op.alloc _) _ _ _ _ :: _) _ _; refine wpList_alloc_v rfl 52 rfl zv info52 (bv zb) zv_cells ?_; intro b4 w2 hb4 B4 K2; have B2 := B1.keep K2 id; have c0 := B2.cell 0; have c1 := B2.cell 1; simp only [List.getElem?_cons_zero, List.getElem?_cons_succ] at c0 c1))
 have K02 : Keep Noth w w2 := K1.trans K2 (fun _ _ h => h)
 have hb4w : w.heap.size ≤ b4 := Nat.le_trans K1.size hb4
 have HR2 := hid (HR.out.keep K02 (Dj.noth _))
 clear B1 K1 K2
 go_loopw [5] (fun i wr => ∃ m : Nat, i = .int .i64 ((m : Int) - 1) ∧ m ≤ m0 ∧ (putAll D.l (D.row.take m)).getD k [] = D.at k ∧ wr = w2) (fun i _ => (intOf i + 1).toNat)
 case atStart => exact ⟨m0, rfl, Nat.le_refl _, by rw [Hm0.out, List.take_length]; rfl, rfl⟩
 case round =>
  obtain ⟨m, hi, hm, hat, rfl⟩ := hrel
  rcases m with _ | j
  ·obtain rfl : u5 = .int .i64 (-1) := hi
   have hD : D.at k = D.l[k] := by rw [← hat]; simp [putAll, List.getD_eq_getElem?_getD, hk]
   have HD := hid hD
   clear hat hD
   go_wp2_with (first
    | (guard_target = wpList _ _ _ (Oper.mk _ (Op.load 52 _) _ _ _ _ :: _) _ _; refine wpList_load_row' rfl 52 _ rfl F 52 64 gl n cl (D.l.map bv) k _ (bv D.l[k]) _ (by rw [Hn.out]; exact HR2.out.l) (by rw [List.length_map]; exact hk) (List.getElem_map ..) rfl (by rfl) Try.underlying52 rfl info52 ?_)
    | (guard_target = wpList _ _ _ (Oper.mk _ (Op.store _ _ _) _ _ _ _ :: _) _ _; refine wpList_store_whole rfl 52 _ _ rfl b4 (bv zb) (bv D.l[k]) 52 (by rfl) (by rfl) B4 (by rw [bv_length, bv_length, H64.out, zb_length]) (by rw [bv_length, H64.out]; exact info52) (bv_one _) ?_; intro w6 B6 K6))
   trace_state
   refine ret_cell rfl b4 _ 52 _ (by rfl) B6 Try.underlying52 rfl (by rw [bv_length, H64.out]; exact info52) rfl ?_
   exact ⟨by rw [HD.out], K02.own K6 (fun q e => by unfold Only at e; subst e; exact hb4w)⟩
  ·have hij : u5 = .int .i64 (j : Int) := by rw [hi]; congr 1; omega
   subst hij
   clear hi
   have hj : j < D.row.length := by rw [← Hm0.out]; omega
   have hj' : (j : Int) < m0 := by omega
   obtain ⟨gr, rfl⟩ := HR2.out.row.some_at (by rw [List.length_map]; omega)
   obtain ⟨g', cap', hv, _, hrg⟩ := HR2.out.row.at (by rw [List.length_map]; omega)
   simp only [Value.slice.injEq, Option.some.injEq, Addr.mk.injEq, and_true, true_and] at hv
   obtain ⟨rfl, _, rfl⟩ := hv
   have hrj := hrg j (by rw [List.length_map]; exact hj)
   rw [List.getElem_map] at hrj
   have hcj : wr.cell? ⟨gr, j * 65, none⟩ = some (.int .i64 (D.row[j].1 : Int)) := by have := hrj 0 (.int .i64 (D.row[j].1 : Int)) (by simp [wv]); simpa using this
   have hp := hok.row64 D.row[j] (List.getElem_mem hj)
   have hrb : wr.rangeAt gr (j * 65 + 1) (bv D.row[j].2) := fun q u hu => by
    have := hrj (q + 1) u (by simpa [wv] using hu)
    rw [show j * 65 + 1 + q = j * 65 + (q + 1) by omega]
    exact this
   have hnx : (putAll D.l (D.row.take (j + 1))).getD k [] = if D.row[j].1 = k then D.row[j].2 else (putAll D.l (D.row.take j)).getD k [] := by rw [take_snoc' _ _ hj]; exact putAll_at_snoc _ _ _ _ hk
   rw [hat] at hnx
   have Hnx := hid hnx
   have Hrb := hid hrb
   have Hp := hid hp
   clear hrg hrj hp hrb hnx hat
   by_cases hkk : D.row[j].1 = k
   ·have hkk' : (((D.row[j].1 : Nat) : Int) == (k : Int)) = true := by simp [hkk]
    have hD : D.at k = D.row[j].2 := by rw [Hnx.out, if_pos hkk]
    have HD := hid hD
    clear hkk hD
    go_wp2_with (first
     | (guard_target = wpList _ _ _ (Oper.mk _ (Op.load 52 _) _ _ _ _ :: _) _ _; refine wpList_load_mid rfl 52 _ rfl gr (j * 65 + 1) (by rfl) (bv D.row[j].2) _ Hrb.out Try.underlying52 rfl (by rw [bv_length, Hp.out.2]; exact info_size info52) ?_)
     | (guard_target = wpList _ _ _ (Oper.mk _ (Op.store _ _ _) _ _ _ _ :: _) _ _; refine wpList_store_whole rfl 52 _ _ rfl b4 (bv zb) (bv D.row[j].2) 52 (by rfl) (by rfl) B4 (by rw [bv_length, bv_length, Hp.out.2, zb_length]) (by rw [bv_length, Hp.out.2]; exact info52) (bv_one _) ?_; intro w6 B6 K6))
    refine ret_cell rfl b4 _ 52 _ (by rfl) B6 Try.underlying52 rfl (by rw [bv_length, Hp.out.2]; exact info52) rfl ?_
    exact ⟨by rw [HD.out], K02.own K6 (fun q e => by unfold Only at e; subst e; exact hb4w)⟩
   ·have hkk' : (((D.row[j].1 : Nat) : Int) == (k : Int)) = false := by simp; omega
    have hD : (putAll D.l (D.row.take j)).getD k [] = D.at k := by rw [Hnx.out, if_neg hkk]
    have HD := hid hD
    clear hkk hD
    go_wp2_with fail
    go_roundw
    case rel => exact ⟨j, by go_num, by omega, HD.out, trivial⟩
    case measure => simp [intOf] <;> omega
theorem all_length (D : DS) : D.all.length = D.l.length := putAll_length _ _
theorem at_all {D : DS} (k : Nat) (hk : k < D.l.length) : D.at k = D.all[k]'(by rw [all_length]; exact hk) := by
 unfold DS.at; rw [List.getD_eq_getElem?_getD, List.getElem?_eq_getElem (by rw [all_length]; exact hk)]; rfl
end Go.Proofs.Ytffcglfepobdjaa
namespace Go.Proofs.Ytffcglfepobdjaa
/-- What an armed device is, at any op. -/
structure Armed (N : Int) (D : DS) : Prop where
 down : D.down = true ↔ 0 ≤ N ∧ N < D.ops
 fuse : D.fuse = if N < 0 then -1 else max (N - D.ops) (-1)
end Go.Proofs.Ytffcglfepobdjaa
set_option maxHeartbeats 4000000
namespace Go.Proofs.Ytffcglfepobdjaa
open Go.RowKit
theorem Keep.cellAt {F : Nat → Prop} {w w' : World} {q j : Nat} {u : Value} (h : Keep F w w') (hF : ¬ F q) (hc : w.cell? ⟨q, j, none⟩ = some u) : w'.cell? ⟨q, j, none⟩ = some u := by
 rw [World.cell?_of_block (h.block q (World.block_lt_of_cell? w _ hc) hF)]; exact hc
end Go.Proofs.Ytffcglfepobdjaa
set_option maxHeartbeats 1500000
namespace Go.Proofs.Ytffcglfepobdjaa
open Go.RowKit
theorem Bytes.same_as {w : World} {F : Nat → Prop} {A : Option Addr} {n c : Nat} {l : List UInt8} (h : Bytes w F (.slice A n c) l) : Reads w A (bv l) := by
 have := rd_of_own h
 rwa [u1_flatten] at this
end Go.Proofs.Ytffcglfepobdjaa
namespace Go.Proofs.Ytffcglfepobdjaa
open Go.RowKit Go.Maps
theorem crashK_else (fs : List Int) (l : List Bk) (row : List (Nat × Bk)) (i : Nat) (h : ∀ p ∈ row, p.1 ≠ i) : ∀ k, k ≤ row.length → (crashK fs l row k).getD i [] = l.getD i []
 | 0, _ => rfl
 | k + 1, hk => by
  have e : row.getD k (0, []) = row[k] := by simp [List.getD_eq_getElem?_getD, show k < row.length by omega]
  rw [crashK, crash1, e, List.getD_eq_getElem?_getD, List.getElem?_set_ne (h _ (List.getElem_mem (by omega))), ← List.getD_eq_getElem?_getD]
  exact crashK_else fs l row i h k (by omega)
theorem crash_at_else {D : DS} (fs : List Int) {i : Nat} (h : ∀ p ∈ D.row, p.1 ≠ i) : (D.crash fs).at i = D.l.getD i [] := crashK_else fs D.l D.row i h _ (Nat.le_refl _)
/-- A device that was never armed. -/
structure Calm (D : DS) : Prop where
 fuse : D.fuse = -1
 down : D.down = false
theorem calm_tick {D : DS} (h : Calm D) : Calm D.tick := ⟨by simp only [DS.tick, h.fuse]; omega, by simp [DS.tick, h.fuse]⟩
theorem calm_put {D : DS} (h : Calm D) (k : Nat) (b : List UInt8) : Calm (D.put k b) := ⟨h.fuse, h.down⟩
theorem calm_flush {D : DS} (h : Calm D) : D.flush = (D.flushed, 0) ∧ Calm D.flushed := by
 refine ⟨?_, ⟨(calm_tick h).fuse, (calm_tick h).down⟩⟩
 unfold DS.flush
 rw [h.down, h.fuse]
 rfl
theorem fillz_full (b : List UInt8) (h : b.length = 64) : fillz b = b := by
 unfold fillz splice
 simp [zb, h]
theorem of_l (im : List UInt8) : (DS.of im).l = (List.range (ofN im)).map fun j => chunk im (64 * j) := by
 show ofL im _ _ = _
 unfold ofL
 refine List.map_congr_left fun j hj => ?_
 simp [List.mem_range.1 hj]
theorem ofN_one (im : List UInt8) : 1 ≤ ofN im := by unfold ofN clampN; omega
theorem ofN_most (im : List UInt8) : ofN im ≤ 4096 := by unfold ofN clampN; omega
theorem of_len (im : List UInt8) : (DS.of im).l.length = ofN im := ofL_length _ _ _
theorem of_ok (im : List UInt8) : (DS.of im).ok :=
 ⟨fun b hb => by rw [of_l] at hb; simp only [List.mem_map] at hb; obtain ⟨j, _, rfl⟩ := hb; exact chunk_length _ _, fun p hp => by simp [DS.of] at hp, by rw [of_len]; exact ofN_one im, by rw [of_len]; exact ofN_most im, by simp [DS.of], by simp [DS.of]⟩
section
variable {P : Program} {ops : Array Oper} {rest : List Oper} {o : Oper} {a : Act} {w : World} {Q : Exit → Act → World → Prop}
/-- 'wpList_run' behind a guard that says yes. -/
theorem wpList_run_w (hw : Region.wanted o (yielded ops a.tmps) = true) (v : Value) (w1 : World) (hr : (execOp a.eval o).run P w = .ok (.value v) w1) (h : wpList P ops Q rest (a.put o.dst v) w1) : wpList P ops Q (o :: rest) a w := by
 refine BigFrame.wpList_want hw fun K' hK' => ?_
 unfold Oper.wp
 rw [hr]
 exact hK' _ _ h
theorem wpList_loadw_blk (hw : Region.wanted o (yielded ops a.tmps) = true) (ty : TypeId) (x : Operand) (ho : o.op = .load ty x) (b k : Nat) (zs cs : List Value) (t : TypeId) (d : TypeDesc) {z : Option Value} {bytes : Nat}
  (hx : a.eval x = .pointer (some ⟨b, k, none⟩)) (hb : BlockIs w b zs t) (hc : ∀ j v, cs[j]? = some v → zs[k + j]? = some v)
  (hu : P.underlying ty = some d) (hd : d.isRow = true) (hi : (P.info? ty).map (fun i => (i.zero, i.size, i.bytes)) = some (z, cs.length, bytes))
  (h : wpList P ops Q rest (a.put o.dst (.agg cs.toArray)) w) : wpList P ops Q (o :: rest) a w :=
 wpList_run_w hw _ _ (exec_load_blk ty x ho b k zs cs t d hx hb hc hu hd hi) h
end
theorem Rows.cap_le {w : World} {F : Nat → Prop} {e : TypeId} {size : Nat} {A : Option Addr} {n c : Nat} {xs : List (List Value)} (h : Rows w F e size (.slice A n c) xs) : xs.length ≤ c := by
 rcases h.own.2 with ⟨hv, h0⟩ | ⟨g, cap, cur, hv, _, _, h1, _⟩
 ·omega
 ·simp only [Value.slice.injEq] at hv
  omega
section
variable {P : Program} {w : World} {ops : Array Oper} {rest : List Oper} {o : Oper} {a : Act} {Q : Exit → Act → World → Prop}
/-- Two results: one lies in a variable, one in a slot. -/
theorem ret_cell_tmp {fn : Func} {R : Ending → World → Prop} {p u : Tmp} {ty : TypeId} (h : fn.results = #[.cell p ty, .tmp u]) (b : Nat) (cs : List Value) (t : TypeId) (d : TypeDesc) (v : Value) {z : Option Value} {bytes : Nat}
  (hx : a.tmps.getD p undef = .pointer (some ⟨b, 0, none⟩)) (hy : a.tmps.getD u undef = v) (hB : BlockIs w b cs t) (hu : P.underlying ty = some d) (hd : d.isRow = true) (hi : (P.info? ty).map (fun i => (i.zero, i.size, i.bytes)) = some (z, cs.length, bytes))
  (hdf : a.defers = []) (hR : R (.returned (.tuple #[.agg cs.toArray, v])) w) : bodyPost P fn R .ret a w := by
 refine bodyPost_ret (v := .tuple #[.agg cs.toArray, v]) ?_ hdf hR
 have hl := run_loadVar_mid w b 0 ty cs d hB.rangeAll hu hd (info_size hi)
 rw [results_cell_tmp h, hx, hy]
 simp [asAddr, Sem.run_bind, hl, Result.andThen]
end
theorem foldl_set_splice (off : Nat) : ∀ (l : List Value) (k : Nat) (A : Array Value), off + k + l.length ≤ A.size → (l.zipIdx k).foldl (fun cs (p : Value × Nat) => cs.setIfInBounds (off + p.2) p.1) A = (Go.splice A.toList (off + k) l).toArray := by
 intro l
 induction l with
 | nil => intro k A _; simp [splice_nil]
 | cons v l ih =>
  intro k A hk
  simp only [List.length_cons] at hk
  rw [List.zipIdx_cons, List.foldl_cons, ih (k + 1) _ (by simp; omega)]
  simp only [Array.toList_setIfInBounds]
  rw [show off + (k + 1) = off + k + 1 by omega, splice_cons _ _ _ _ (by simp; omega)]
theorem fill_cons (place : Nat → Option (Nat × Nat)) (A : Array Value) (i off size : Nat) (v : Value) (l : List Value) (rest : List (Nat × Value)) (hp : place i = some (off, size)) (hv : v.cells = l.toArray) (hl : l.length = size) (hs : off + size ≤ A.size) :
  Instr.fill place A ((i, v) :: rest) = Instr.fill place (Go.splice A.toList off l).toArray rest := by
 have h := foldl_set_splice off l 0 A (by omega)
 rw [Nat.add_zero] at h
 rw [Instr.fill, hp]
 simp only [hv, List.size_toArray, hl]
 have hg : ¬ (off + size > A.size) := by omega
 simp only [ne_eq, not_true_eq_false, decide_false, Bool.false_or, decide_eq_true_eq, hg, if_false]
 congr 1
 rw [← h, ← Array.foldl_toList]
 congr 1
 simp
theorem built54 (parts : List (Nat × Value)) : Try.prog.built 54 parts = Instr.fill (#[(0, 1), (1, 64)][·]?) (wv (0, zb)).toArray parts := by kernel_rfl
theorem build54 (k : Int) (cs : List Value) (hl : cs.length = 64) (W : World) : (Instr.build 54 #[(0, .int .i64 k), (1, .agg cs.toArray)]).run Try.prog W = .ok (.agg (.int .i64 k :: cs).toArray) W := by
 refine run_build W 54 _ _ ?_
 rw [built54]
 show Instr.fill _ _ [(0, .int .i64 k), (1, .agg cs.toArray)] = _
 rw [fill_cons _ _ 0 0 1 _ [.int .i64 k] _ rfl rfl rfl (by simp [wv, zb])]
 rw [fill_cons _ _ 1 1 64 _ cs _ rfl rfl hl (by rw [List.size_toArray, length_splice _ _ _ (by simp [wv])]; simp [wv, zb])]
 rw [Instr.fill]
 simp [splice, zb, hl, wv]
theorem build30c (A : Option Addr) (n c : Nat) (ops : Int) (W : World) : (Instr.build 30 #[(0, .slice A n c), (2, .int .i64 ops), (3, .int .i64 (-1))]).run Try.prog W = .ok (.agg [.slice A n c, .slice none 0 0, .int .i64 ops, .int .i64 (-1), .bool false].toArray) W := by kernel_rfl
/-- What Do leaves. -/
def DoPost (w : World) (F : Nat → Prop) (R : DS × Int) (e : Ending) (w' : World) : Prop :=
 ∃ vl vr, e = .returned (.tuple #[.agg (stv vl vr R.1).toArray, .int .i64 R.2]) ∧ StAt w' (grow F w w') vl vr R.1 ∧ Keep Noth w w'
theorem DoPost.same {w w' : World} {F : Nat → Prop} {vl vr : Value} {D : DS} {E : Int} {SV : List Value} (H : StAt w F vl vr D) (hst : stv vl vr D = SV) (K : Keep Noth w w') : DoPost w F (D, E) (.returned (.tuple #[.agg SV.toArray, .int .i64 E])) w' :=
 ⟨vl, vr, by rw [← hst], (H.keep K (Dj.noth _)).mono (fun q h => .inl h), K⟩
theorem Keep.noth4 {w w1 w2 w3 w9 : World} {b4 : Nat} (K1 : Keep Noth w w1) (K2 : Keep Noth w1 w2) (K3 : Keep Noth w2 w3) (hb4 : w2.heap.size ≤ b4) (K9 : Keep (Only b4) w3 w9) : Keep Noth w w9 := by
 have h1 := K1.size
 have h2 := K2.size
 exact ((K1.trans K2 (fun _ _ h => h)).trans K3 (fun _ _ h => h)).own K9 (fun q e => by unfold Only at e; subst e; omega)
theorem Rows.none_cap {w : World} {F : Nat → Prop} {e : TypeId} {size : Nat} {A : Option Addr} {n c : Nat} {xs : List (List Value)} (h : Rows w F e size (.slice A n c) xs) : A = none → c = 0 := by
 rintro rfl
 rcases h.own.2 with ⟨hv, h0⟩ | ⟨g, cap, cur, hv, _⟩
 ·simp only [Value.slice.injEq] at hv; exact hv.2.2
 ·simp at hv
theorem do_none {w : World} {F : Nat → Prop} {vl vr : Value} {D : DS} (H : StAt w F vl vr D) (hok : D.ok) (ho : D.ops ≤ 1099511627776) (hr : D.row.length ≤ 1099511627776) (o : OpV) (hoo : o.ok) (Ab Af : Option Addr) (cb cf : Nat) (h0 : o.kind ≠ 0) (h1 : o.kind ≠ 1) (h2 : o.kind ≠ 2) (h3 : o.kind ≠ 3) :
  Calls Try.prog 20 #[.agg (stv vl vr D).toArray, .agg (opv o Ab Af cb cf).toArray] w (DoPost w F (D, 0)) := by
 obtain ⟨Al, cl, rfl⟩ := H.l.valm
 obtain ⟨Ar, cr, rfl⟩ := H.row.valm
 obtain ⟨n, hn⟩ : ∃ n, n = D.l.length := ⟨_, rfl⟩
 obtain ⟨m, hm⟩ : ∃ n, n = D.row.length := ⟨_, rfl⟩
 obtain ⟨op, hop⟩ : ∃ n : Int, n = (D.ops : Int) := ⟨_, rfl⟩
 obtain ⟨fu, hfu⟩ : ∃ n : Int, n = D.fuse := ⟨_, rfl⟩
 obtain ⟨dn, hdn⟩ : ∃ n : Bool, n = D.down := ⟨_, rfl⟩
 obtain ⟨kd, hkd⟩ : ∃ n : Int, n = o.kind := ⟨_, rfl⟩
 obtain ⟨ok, hok1⟩ : ∃ n : Int, n = o.k := ⟨_, rfl⟩
 obtain ⟨nb, hnb⟩ : ∃ n : Nat, n = o.b.length := ⟨_, rfl⟩
 obtain ⟨nf, hnf⟩ : ∃ n : Nat, n = o.forms.length := ⟨_, rfl⟩
 have hst : (stv (.slice Al D.l.length cl) (.slice Ar D.row.length cr) D) = [.slice Al n cl, .slice Ar m cr, .int .i64 op, .int .i64 fu, .bool dn] := by rw [hn, hm, hop, hfu, hdn]; rfl
 have hov : opv o Ab Af cb cf = [.int .i64 kd, .int .i64 ok, .slice Ab nb cb, .slice Af nf cf] := by rw [hkd, hok1, hnb, hnf]; rfl
 have hkk := hoo.kind
 have hk1 := hoo.k
 rw [← hkd] at hkk
 rw [← hok1] at hk1
 have hkk1 := hkk.1
 have hkk2 := hkk.2
 have hk11 := hk1.1
 have hk12 := hk1.2
 have Hst := hid hst
 rw [hst, hov]
 have HR := hid H
 have Hn := hid hn
 have Hm := hid hm
 have Hop := hid hop
 have Hfu := hid hfu
 have Hdn := hid hdn
 have Hok := hid hok1
 have Hnb := hid hnb
 clear hkk hk1 hst hov hn hm hop hfu hdn hok1 hnb hnf H
 rw [← hkd] at h0 h1 h2 h3
 have b0 : (kd == 0) = false := by simpa using h0
 have b1 : (kd == 1) = false := by simpa using h1
 have b2' : (kd == 2) = false := by simpa using h2
 have b3' : (kd == 3) = false := by simpa using h3
 clear h0 h1 h2 h3 hkd
 go_enter Try.func20, Try.ntmps20
 go_wp2_with (first
  | (guard_target = wpList _ _ _ (Oper.mk _ (Op.box 30 _) _ _ _ _ :: _) _ _; refine wpList_box_v rfl 30 _ rfl [.slice Al n cl, .slice Ar m cr, .int .i64 op, .int .i64 fu, .bool dn] (by rfl) ?_; intro b2 w1 hb2 B1 K1)
  | (guard_target = wpList _ _ _ (Oper.mk _ (Op.box 36 _) _ _ _ _ :: _) _ _; refine wpList_box_v rfl 36 _ rfl [.int .i64 kd, .int .i64 ok, .slice Ab nb cb, .slice Af nf cf] (by rfl) ?_; intro b3 w2 hb3 C2 K2; have B2 := B1.keep K2 id)
  | (guard_target = wpList _ _ _ (Oper.mk _ (Op.alloc 30) _ _ _ _ :: _) _ _; refine wpList_alloc_v rfl 30 rfl zst info30 stz zst_cells ?_; intro b4 w3 hb4 D3 K3; have B3 := B2.keep K3 id; have C3 := C2.keep K3 id; have k0 := C3.cell 0; have k1 := C3.cell 1; have k2 := C3.cell 2; have k3 := C3.cell 3; have s0 := B3.cell 0; have s4 := B3.cell 4; have s3 := B3.cell 3; simp only [List.getElem?_cons_zero, List.getElem?_cons_succ] at k0 k1 k2 k3 s0 s3 s4)
  | (guard_target = wpList _ _ _ (Oper.mk _ (Op.load 30 _) _ _ _ _ :: _) _ _; refine wpList_load_blk rfl 30 _ rfl b2 0 [.slice Al n cl, .slice Ar m cr, .int .i64 op, .int .i64 fu, .bool dn] [.slice Al n cl, .slice Ar m cr, .int .i64 op, .int .i64 fu, .bool dn] 30 _ (by rfl) B3 (part0 _) Try.underlying30 rfl info30 ?_)
  | (guard_target = wpList _ _ _ (Oper.mk _ (Op.store 30 _ _) _ _ _ _ :: _) _ _; refine wpList_store_whole rfl 30 _ _ rfl b4 stz [.slice Al n cl, .slice Ar m cr, .int .i64 op, .int .i64 fu, .bool dn] 30 (by rfl) (by rfl) D3 (by rfl) info30 (st5_one rfl rfl _ _ _) ?_; intro w9 D9 K9))
 refine ret_cell_tmp rfl b4 [.slice Al n cl, .slice Ar m cr, .int .i64 op, .int .i64 fu, .bool dn] 30 _ (.int .i64 0) (by rfl) (by rfl) D9 Try.underlying30 rfl info30 rfl ?_
 exact DoPost.same HR.out Hst.out (K1.noth4 K2 K3 hb4 K9)
theorem arm_post {w w1 w2 w3 w4 w9 : World} {F : Nat → Prop} {vl vr : Value} {D : DS} {op fu mx ok k : Int} {dn : Bool} {va vb : Value} {b2 b4 : Nat} (H : StAt w F vl vr D) (hst : stv vl vr D = [va, vb, .int .i64 op, .int .i64 fu, .bool dn]) (hok : ok = k) (hmx : mx = max ok (-1))
  (K1 : Keep Noth w w1) (K2 : Keep Noth w1 w2) (K3 : Keep Noth w2 w3) (K4 : Keep (Only b2) w3 w4) (hb2 : w.heap.size ≤ b2) (hb4 : w2.heap.size ≤ b4) (K9 : Keep (Only b4) w4 w9) :
  DoPost w F (D.arm k, 0) (.returned (.tuple #[.agg [va, vb, .int .i64 op, .int .i64 mx, .bool dn].toArray, .int .i64 0])) w9 := by
 have h1 := K1.size
 have h2 := K2.size
 have K : Keep Noth w w9 := (((K1.trans K2 (fun _ _ h => h)).trans K3 (fun _ _ h => h)).own K4 (fun q e => by unfold Only at e; subst e; exact hb2)).own K9 (fun q e => by unfold Only at e; subst e; omega)
 refine ⟨vl, vr, ?_, (⟨(H.keep K (Dj.noth _)).l, (H.keep K (Dj.noth _)).row⟩ : StAt w9 F vl vr (D.arm k)).mono (fun q h => .inl h), K⟩
 have e : stv vl vr (D.arm k) = [va, vb, .int .i64 op, .int .i64 mx, .bool dn] := by
  simp only [stv, DS.arm, List.cons.injEq, Value.int.injEq, true_and, and_true] at hst ⊢
  exact ⟨hst.1, hst.2.1, hst.2.2.1, by rw [hmx, hok], hst.2.2.2.2⟩
 rw [e]
theorem do_arm {w : World} {F : Nat → Prop} {vl vr : Value} {D : DS} (H : StAt w F vl vr D) (hok : D.ok) (ho : D.ops ≤ 1099511627776) (hr : D.row.length ≤ 1099511627776) (o : OpV) (hoo : o.ok) (Ab Af : Option Addr) (cb cf : Nat) (h2 : o.kind = 2) :
  Calls Try.prog 20 #[.agg (stv vl vr D).toArray, .agg (opv o Ab Af cb cf).toArray] w (DoPost w F (D.arm o.k, 0)) := by
 obtain ⟨Al, cl, rfl⟩ := H.l.valm
 obtain ⟨Ar, cr, rfl⟩ := H.row.valm
 obtain ⟨n, hn⟩ : ∃ n, n = D.l.length := ⟨_, rfl⟩
 obtain ⟨m, hm⟩ : ∃ n, n = D.row.length := ⟨_, rfl⟩
 obtain ⟨op, hop⟩ : ∃ n : Int, n = (D.ops : Int) := ⟨_, rfl⟩
 obtain ⟨fu, hfu⟩ : ∃ n : Int, n = D.fuse := ⟨_, rfl⟩
 obtain ⟨dn, hdn⟩ : ∃ n : Bool, n = D.down := ⟨_, rfl⟩
 obtain ⟨kd, hkd⟩ : ∃ n : Int, n = o.kind := ⟨_, rfl⟩
 obtain ⟨ok, hok1⟩ : ∃ n : Int, n = o.k := ⟨_, rfl⟩
 obtain ⟨nb, hnb⟩ : ∃ n : Nat, n = o.b.length := ⟨_, rfl⟩
 obtain ⟨nf, hnf⟩ : ∃ n : Nat, n = o.forms.length := ⟨_, rfl⟩
 have hst : (stv (.slice Al D.l.length cl) (.slice Ar D.row.length cr) D) = [.slice Al n cl, .slice Ar m cr, .int .i64 op, .int .i64 fu, .bool dn] := by rw [hn, hm, hop, hfu, hdn]; rfl
 have hov : opv o Ab Af cb cf = [.int .i64 kd, .int .i64 ok, .slice Ab nb cb, .slice Af nf cf] := by rw [hkd, hok1, hnb, hnf]; rfl
 have hkk := hoo.kind
 have hk1 := hoo.k
 rw [← hkd] at hkk
 rw [← hok1] at hk1
 have hkk1 := hkk.1
 have hkk2 := hkk.2
 have hk11 := hk1.1
 have hk12 := hk1.2
 have Hst := hid hst
 rw [hst, hov]
 have HR := hid H
 have Hn := hid hn
 have Hm := hid hm
 have Hop := hid hop
 have Hfu := hid hfu
 have Hdn := hid hdn
 have Hok := hid hok1
 have Hnb := hid hnb
 clear hkk hk1 hst hov hn hm hop hfu hdn hok1 hnb hnf H
 rw [← hkd] at h2
 subst h2
 clear hkd
 by_cases hm1 : ok < -1
 ·go_enter Try.func20, Try.ntmps20
  go_wp2_with (first
   | (guard_target = wpList _ _ _ (Oper.mk _ (Op.box 30 _) _ _ _ _ :: _) _ _; refine wpList_box_v rfl 30 _ rfl [.slice Al n cl, .slice Ar m cr, .int .i64 op, .int .i64 fu, .bool dn] (by rfl) ?_; intro b2 w1 hb2 B1 K1)
   | (guard_target = wpList _ _ _ (Oper.mk _ (Op.box 36 _) _ _ _ _ :: _) _ _; refine wpList_box_v rfl 36 _ rfl [.int .i64 2, .int .i64 ok, .slice Ab nb cb, .slice Af nf cf] (by rfl) ?_; intro b3 w2 hb3 C2 K2; have B2 := B1.keep K2 id)
   | (guard_target = wpList _ _ _ (Oper.mk _ (Op.alloc 30) _ _ _ _ :: _) _ _; refine wpList_alloc_v rfl 30 rfl zst info30 stz zst_cells ?_; intro b4 w3 hb4 D3 K3; have B3 := B2.keep K3 id; have C3 := C2.keep K3 id; have k0 := C3.cell 0; have k1 := C3.cell 1; have k2 := C3.cell 2; have k3 := C3.cell 3; have s0 := B3.cell 0; have s4 := B3.cell 4; have s3 := B3.cell 3; simp only [List.getElem?_cons_zero, List.getElem?_cons_succ] at k0 k1 k2 k3 s0 s3 s4)
   | (guard_target = wpList _ _ _ (Oper.mk _ (Op.store 3 _ _) _ _ _ _ :: _) _ _; refine wpList_store_blk rfl 3 _ _ rfl b2 3 _ 30 (.int .i64 (-1)) (by rfl) (by rfl) B3 (by simp) rfl rfl info3' ?_; intro w4 B4 K4; simp only [List.set_cons_zero, List.set_cons_succ] at B4; have D4 := D3.keep K4 (by unfold Only; have := B2.lt; omega))
   | (guard_target = wpList _ _ _ (Oper.mk _ (Op.load 30 _) _ _ _ _ :: _) _ _; refine wpList_load_blk rfl 30 _ rfl b2 0 [.slice Al n cl, .slice Ar m cr, .int .i64 op, .int .i64 (-1), .bool dn] [.slice Al n cl, .slice Ar m cr, .int .i64 op, .int .i64 (-1), .bool dn] 30 _ (by rfl) B4 (part0 _) Try.underlying30 rfl info30 ?_)
   | (guard_target = wpList _ _ _ (Oper.mk _ (Op.store 30 _ _) _ _ _ _ :: _) _ _; refine wpList_store_whole rfl 30 _ _ rfl b4 stz [.slice Al n cl, .slice Ar m cr, .int .i64 op, .int .i64 (-1), .bool dn] 30 (by rfl) (by rfl) D4 (by rfl) info30 (st5_one rfl rfl _ _ _) ?_; intro w9 D9 K9))
  refine ret_cell_tmp rfl b4 [.slice Al n cl, .slice Ar m cr, .int .i64 op, .int .i64 (-1), .bool dn] 30 _ (.int .i64 0) (by rfl) (by rfl) D9 Try.underlying30 rfl info30 rfl ?_
  exact arm_post HR.out Hst.out Hok.out (by omega) K1 K2 K3 K4 hb2 hb4 K9
 ·go_enter Try.func20, Try.ntmps20
  go_wp2_with (first
   | (guard_target = wpList _ _ _ (Oper.mk _ (Op.box 30 _) _ _ _ _ :: _) _ _; refine wpList_box_v rfl 30 _ rfl [.slice Al n cl, .slice Ar m cr, .int .i64 op, .int .i64 fu, .bool dn] (by rfl) ?_; intro b2 w1 hb2 B1 K1)
   | (guard_target = wpList _ _ _ (Oper.mk _ (Op.box 36 _) _ _ _ _ :: _) _ _; refine wpList_box_v rfl 36 _ rfl [.int .i64 2, .int .i64 ok, .slice Ab nb cb, .slice Af nf cf] (by rfl) ?_; intro b3 w2 hb3 C2 K2; have B2 := B1.keep K2 id)
   | (guard_target = wpList _ _ _ (Oper.mk _ (Op.alloc 30) _ _ _ _ :: _) _ _; refine wpList_alloc_v rfl 30 rfl zst info30 stz zst_cells ?_; intro b4 w3 hb4 D3 K3; have B3 := B2.keep K3 id; have C3 := C2.keep K3 id; have k0 := C3.cell 0; have k1 := C3.cell 1; have k2 := C3.cell 2; have k3 := C3.cell 3; have s0 := B3.cell 0; have s4 := B3.cell 4; have s3 := B3.cell 3; simp only [List.getElem?_cons_zero, List.getElem?_cons_succ] at k0 k1 k2 k3 s0 s3 s4)
   | (guard_target = wpList _ _ _ (Oper.mk _ (Op.store 3 _ _) _ _ _ _ :: _) _ _; refine wpList_store_blk rfl 3 _ _ rfl b2 3 _ 30 (.int .i64 (ok)) (by rfl) (by rfl) B3 (by simp) rfl rfl info3' ?_; intro w4 B4 K4; simp only [List.set_cons_zero, List.set_cons_succ] at B4; have D4 := D3.keep K4 (by unfold Only; have := B2.lt; omega))
   | (guard_target = wpList _ _ _ (Oper.mk _ (Op.load 30 _) _ _ _ _ :: _) _ _; refine wpList_load_blk rfl 30 _ rfl b2 0 [.slice Al n cl, .slice Ar m cr, .int .i64 op, .int .i64 (ok), .bool dn] [.slice Al n cl, .slice Ar m cr, .int .i64 op, .int .i64 (ok), .bool dn] 30 _ (by rfl) B4 (part0 _) Try.underlying30 rfl info30 ?_)
   | (guard_target = wpList _ _ _ (Oper.mk _ (Op.store 30 _ _) _ _ _ _ :: _) _ _; refine wpList_store_whole rfl 30 _ _ rfl b4 stz [.slice Al n cl, .slice Ar m cr, .int .i64 op, .int .i64 (ok), .bool dn] 30 (by rfl) (by rfl) D4 (by rfl) info30 (st5_one rfl rfl _ _ _) ?_; intro w9 D9 K9))
  refine ret_cell_tmp rfl b4 [.slice Al n cl, .slice Ar m cr, .int .i64 op, .int .i64 (ok), .bool dn] 30 _ (.int .i64 0) (by rfl) (by rfl) D9 Try.underlying30 rfl info30 rfl ?_
  exact arm_post HR.out Hst.out Hok.out (by omega) K1 K2 K3 K4 hb2 hb4 K9
theorem tick_post {w w1 w2 w3 w4 w5 w9 : World} {F : Nat → Prop} {vl vr : Value} {D : DS} {E : Int} {b2 b4 : Nat} {S : List Value} (H : StAt w F vl vr D) (hst : stv vl vr D.tick = S)
  (K1 : Keep Noth w w1) (K2 : Keep Noth w1 w2) (K3 : Keep Noth w2 w3) (K4 : Keep Noth w3 w4) (K5 : Keep (Only b2) w4 w5) (hb2 : w.heap.size ≤ b2) (hb4 : w2.heap.size ≤ b4) (K9 : Keep (Only b4) w5 w9) :
  DoPost w F (D.tick, E) (.returned (.tuple #[.agg S.toArray, .int .i64 E])) w9 := by
 have h1 := K1.size
 have h2 := K2.size
 have K : Keep Noth w w9 := ((((K1.trans K2 (fun _ _ h => h)).trans K3 (fun _ _ h => h)).trans K4 (fun _ _ h => h)).own K5 (fun q e => by unfold Only at e; subst e; exact hb2)).own K9 (fun q e => by unfold Only at e; subst e; omega)
 exact ⟨vl, vr, by rw [← hst], (⟨(H.keep K (Dj.noth _)).l, (H.keep K (Dj.noth _)).row⟩ : StAt w9 F vl vr D.tick).mono (fun q h => .inl h), K⟩
theorem flushed_post {w w5 wr w6 w7 w9 : World} {F : Nat → Prop} {vl vr v5 : Value} {D : DS} {b2 b4 : Nat} {va vb : Value} {q1 q2 : Int} (hst : stv vl vr D.tick = [va, vb, .int .i64 q1, .int .i64 q2, .bool false]) (HA : Acc w5 wr 52 64 v5 (D.all.map bv))
  (K05 : Keep Noth w w5) (K6 : Keep (Only b2) wr w6) (K7 : Keep (Only b2) w6 w7) (hb2 : w.heap.size ≤ b2) (b2lt : b2 < w5.heap.size) (hb4 : w.heap.size ≤ b4) (b4lt : b4 < w5.heap.size) (K9 : Keep (Only b4) w7 w9) :
  DoPost w F (D.flushed, 0) (.returned (.tuple #[.agg [v5, .slice none 0 0, .int .i64 q1, .int .i64 q2, .bool false].toArray, .int .i64 0])) w9 := by
 have h0 := K05.size
 have h6 := K6.size
 have h7 := K7.size
 have h9 := K9.size
 have o2 : ∀ q, Only b2 q → w.heap.size ≤ q := fun q e => by unfold Only at e; subst e; exact hb2
 have o4 : ∀ q, Only b4 q → w.heap.size ≤ q := fun q e => by unfold Only at e; subst e; exact hb4
 have d2 : Dj (Fresh w5 wr) (Only b2) := fun q a e => by unfold Only at e; subst e; have := a.1; omega
 have d4 : Dj (Fresh w5 wr) (Only b4) := fun q a e => by unfold Only at e; subst e; have := a.1; omega
 have e : stv v5 (.slice none 0 0) D.flushed = [v5, .slice none 0 0, .int .i64 q1, .int .i64 q2, .bool false] := by
  have := hst
  simp only [stv, List.cons.injEq, and_true, true_and] at this ⊢
  exact this.2.2
 refine ⟨v5, .slice none 0 0, by rw [e], ⟨?_, Rows.nil _ _ _ _⟩, (((K05.trans HA.kept (fun _ _ h => h)).own K6 o2).own K7 o2).own K9 o4⟩
 exact (((HA.rows.keep K6 d2).keep K7 d2).keep K9 d4).mono (fun q hq => .inr ⟨by have := hq.1; omega, by have := hq.2; omega⟩)
theorem do_flush {w : World} {F : Nat → Prop} {vl vr : Value} {D : DS} (H : StAt w F vl vr D) (hok : D.ok) (ho : D.ops ≤ 1099511627776) (hr : D.row.length ≤ 1099511627776) (o : OpV) (hoo : o.ok) (Ab Af : Option Addr) (cb cf : Nat) (h1 : o.kind = 1) :
  Calls Try.prog 20 #[.agg (stv vl vr D).toArray, .agg (opv o Ab Af cb cf).toArray] w (DoPost w F (D.flush)) := by
 obtain ⟨Al, cl, rfl⟩ := H.l.valm
 obtain ⟨Ar, cr, rfl⟩ := H.row.valm
 obtain ⟨n, hn⟩ : ∃ n, n = D.l.length := ⟨_, rfl⟩
 obtain ⟨m, hm⟩ : ∃ n, n = D.row.length := ⟨_, rfl⟩
 obtain ⟨op, hop⟩ : ∃ n : Int, n = (D.ops : Int) := ⟨_, rfl⟩
 obtain ⟨fu, hfu⟩ : ∃ n : Int, n = D.fuse := ⟨_, rfl⟩
 obtain ⟨dn, hdn⟩ : ∃ n : Bool, n = D.down := ⟨_, rfl⟩
 obtain ⟨kd, hkd⟩ : ∃ n : Int, n = o.kind := ⟨_, rfl⟩
 obtain ⟨ok, hok1⟩ : ∃ n : Int, n = o.k := ⟨_, rfl⟩
 obtain ⟨nb, hnb⟩ : ∃ n : Nat, n = o.b.length := ⟨_, rfl⟩
 obtain ⟨nf, hnf⟩ : ∃ n : Nat, n = o.forms.length := ⟨_, rfl⟩
 have hst : (stv (.slice Al D.l.length cl) (.slice Ar D.row.length cr) D) = [.slice Al n cl, .slice Ar m cr, .int .i64 op, .int .i64 fu, .bool dn] := by rw [hn, hm, hop, hfu, hdn]; rfl
 have hov : opv o Ab Af cb cf = [.int .i64 kd, .int .i64 ok, .slice Ab nb cb, .slice Af nf cf] := by rw [hkd, hok1, hnb, hnf]; rfl
 have hkk := hoo.kind
 have hk1 := hoo.k
 rw [← hkd] at hkk
 rw [← hok1] at hk1
 have hkk1 := hkk.1
 have hkk2 := hkk.2
 have hk11 := hk1.1
 have hk12 := hk1.2
 have Hst := hid hst
 rw [hst, hov]
 have HR := hid H
 have Hn := hid hn
 have Hm := hid hm
 have Hop := hid hop
 have Hfu := hid hfu
 have Hdn := hid hdn
 have Hok := hid hok1
 have Hnb := hid hnb
 clear hkk hk1 hst hov hn hm hop hfu hdn hok1 hnb hnf H
 rw [← hkd] at h1
 subst h1
 clear hkd
 cases hd : dn with
 | true =>
  subst hd
  have hR : D.flush = (D, 100) := by unfold DS.flush; rw [if_pos Hdn.out.symm]
  rw [hR]
  clear hR
  go_enter Try.func20, Try.ntmps20
  go_wp2_with (first
   | (guard_target = wpList _ _ _ (Oper.mk _ (Op.box 30 _) _ _ _ _ :: _) _ _; refine wpList_box_v rfl 30 _ rfl [.slice Al n cl, .slice Ar m cr, .int .i64 op, .int .i64 fu, .bool true] (by rfl) ?_; intro b2 w1 hb2 B1 K1)
   | (guard_target = wpList _ _ _ (Oper.mk _ (Op.box 36 _) _ _ _ _ :: _) _ _; refine wpList_box_v rfl 36 _ rfl [.int .i64 1, .int .i64 ok, .slice Ab nb cb, .slice Af nf cf] (by rfl) ?_; intro b3 w2 hb3 C2 K2; have B2 := B1.keep K2 id)
   | (guard_target = wpList _ _ _ (Oper.mk _ (Op.alloc 30) _ _ _ _ :: _) _ _; refine wpList_alloc_v rfl 30 rfl zst info30 stz zst_cells ?_; intro b4 w3 hb4 D3 K3; have B3 := B2.keep K3 id; have C3 := C2.keep K3 id; have k0 := C3.cell 0; have k1 := C3.cell 1; have k2 := C3.cell 2; have k3 := C3.cell 3; have s0 := B3.cell 0; have s4 := B3.cell 4; have s3 := B3.cell 3; simp only [List.getElem?_cons_zero, List.getElem?_cons_succ] at k0 k1 k2 k3 s0 s3 s4)
   | (guard_target = wpList _ _ _ (Oper.mk _ (Op.load 30 _) _ _ _ _ :: _) _ _; refine wpList_load_blk rfl 30 _ rfl b2 0 [.slice Al n cl, .slice Ar m cr, .int .i64 op, .int .i64 fu, .bool true] [.slice Al n cl, .slice Ar m cr, .int .i64 op, .int .i64 fu, .bool true] 30 _ (by rfl) B3 (part0 _) Try.underlying30 rfl info30 ?_)
   | (guard_target = wpList _ _ _ (Oper.mk _ (Op.store 30 _ _) _ _ _ _ :: _) _ _; refine wpList_store_whole rfl 30 _ _ rfl b4 stz [.slice Al n cl, .slice Ar m cr, .int .i64 op, .int .i64 fu, .bool true] 30 (by rfl) (by rfl) D3 (by rfl) info30 (st5_one rfl rfl _ _ _) ?_; intro w9 D9 K9))
  refine ret_cell_tmp rfl b4 [.slice Al n cl, .slice Ar m cr, .int .i64 op, .int .i64 fu, .bool true] 30 _ (.int .i64 100) (by rfl) (by rfl) D9 Try.underlying30 rfl info30 rfl ?_
  exact DoPost.same HR.out Hst.out (K1.noth4 K2 K3 hb4 K9)
 | false =>
  subst hd
  obtain ⟨q1, hq1⟩ : ∃ q : Int, q = ((D.ops + 1 : Nat) : Int) := ⟨_, rfl⟩
  obtain ⟨q2, hq2⟩ : ∃ q : Int, q = max (D.fuse - 1) (-1) := ⟨_, rfl⟩
  obtain ⟨t, ht⟩ : ∃ t : Bool, t = (D.fuse == 0) := ⟨_, rfl⟩
  have hst3 : stv (.slice Al D.l.length cl) (.slice Ar D.row.length cr) D.tick = [.slice Al n cl, .slice Ar m cr, .int .i64 q1, .int .i64 q2, .bool t] := by
   rw [hq1, hq2, ht, Hn.out, Hm.out]; rfl
  have hcnt : ∀ W : World, Calls Try.prog 57 #[.agg [.slice Al n cl, .slice Ar m cr, .int .i64 op, .int .i64 fu, .bool false].toArray] W (fun e w' => e = .returned (.agg [.slice Al n cl, .slice Ar m cr, .int .i64 q1, .int .i64 q2, .bool t].toArray) ∧ Keep Noth W w') := fun W => by
   have h := st_count (w := W) (D := D) Hdn.out.symm (vl := .slice Al D.l.length cl) (vr := .slice Ar D.row.length cr) rfl rfl (by omega) hok.fuse hok.fuse'
   rw [Hst.out, hst3] at h
   exact h
  have Hst3 := hid hst3
  have Hcnt := hid hcnt
  clear hst3 hcnt hq1 hq2
  cases htt : t with
  | true =>
   subst htt
   have hf0 : D.fuse = 0 := by simpa using ht.symm
   have hR : D.flush = (D.tick, 100) := by unfold DS.flush; rw [if_neg (by rw [← Hdn.out]; decide), if_pos hf0]
   rw [hR]
   clear hR hf0 ht
   go_enter Try.func20, Try.ntmps20
   go_wp2_with (first
    | (guard_target = wpList _ _ _ (Oper.mk _ (Op.box 30 _) _ _ _ _ :: _) _ _; refine wpList_box_v rfl 30 _ rfl [.slice Al n cl, .slice Ar m cr, .int .i64 op, .int .i64 fu, .bool false] (by rfl) ?_; intro b2 w1 hb2 B1 K1)
    | (guard_target = wpList _ _ _ (Oper.mk _ (Op.box 36 _) _ _ _ _ :: _) _ _; refine wpList_box_v rfl 36 _ rfl [.int .i64 1, .int .i64 ok, .slice Ab nb cb, .slice Af nf cf] (by rfl) ?_; intro b3 w2 hb3 C2 K2; have B2 := B1.keep K2 id)
    | (guard_target = wpList _ _ _ (Oper.mk _ (Op.alloc 30) _ _ _ _ :: _) _ _; refine wpList_alloc_v rfl 30 rfl zst info30 stz zst_cells ?_; intro b4 w3 hb4 D3 K3; have B3 := B2.keep K3 id; have C3 := C2.keep K3 id; have k0 := C3.cell 0; have k1 := C3.cell 1; have k2 := C3.cell 2; have k3 := C3.cell 3; have s0 := B3.cell 0; have s4 := B3.cell 4; have s3 := B3.cell 3; simp only [List.getElem?_cons_zero, List.getElem?_cons_succ] at k0 k1 k2 k3 s0 s3 s4)
    | (go_at_call 57; refine (Hcnt.out _).mono ?_; rintro e w4 ⟨rfl, K4⟩; have B4 := B3.keep K4 id; have D4 := D3.keep K4 id)
    | (guard_target = wpList _ _ _ (Oper.mk _ (Op.store 30 (Operand.tmp 2) _) _ _ _ _ :: _) _ _; refine wpList_store_whole rfl 30 _ _ rfl b2 [.slice Al n cl, .slice Ar m cr, .int .i64 op, .int .i64 fu, .bool false] [.slice Al n cl, .slice Ar m cr, .int .i64 q1, .int .i64 q2, .bool true] 30 (by rfl) (by rfl) B4 (by rfl) info30 (st5_one rfl rfl _ _ _) ?_; intro w5 B5 K5; have f4 := B5.cell 4; simp only [List.getElem?_cons_zero, List.getElem?_cons_succ] at f4)
    | (guard_target = wpList _ _ _ (Oper.mk _ (Op.store 30 (Operand.tmp 4) _) _ _ _ _ :: _) _ _; refine wpList_store_whole rfl 30 _ _ rfl b4 stz [.slice Al n cl, .slice Ar m cr, .int .i64 q1, .int .i64 q2, .bool true] 30 (by rfl) (by rfl) (D4.keep K5 (by unfold Only; have := B2.lt; omega)) (by rfl) info30 (st5_one rfl rfl _ _ _) ?_; intro w9 D9 K9)
    | (have := K5; (guard_target = wpList _ _ _ (Oper.mk _ (Op.load 30 (Operand.tmp 2)) _ _ _ _ :: _) _ _; refine wpList_load_blk rfl 30 _ rfl b2 0 [.slice Al n cl, .slice Ar m cr, .int .i64 q1, .int .i64 q2, .bool true] [.slice Al n cl, .slice Ar m cr, .int .i64 q1, .int .i64 q2, .bool true] 30 _ (by rfl) B5 (part0 _) Try.underlying30 rfl info30 ?_))
    | (guard_target = wpList _ _ _ (Oper.mk _ (Op.load 30 (Operand.tmp 2)) _ _ _ _ :: _) _ _; refine wpList_load_blk rfl 30 _ rfl b2 0 [.slice Al n cl, .slice Ar m cr, .int .i64 op, .int .i64 fu, .bool false] [.slice Al n cl, .slice Ar m cr, .int .i64 op, .int .i64 fu, .bool false] 30 _ (by rfl) B3 (part0 _) Try.underlying30 rfl info30 ?_))
   refine ret_cell_tmp rfl b4 [.slice Al n cl, .slice Ar m cr, .int .i64 q1, .int .i64 q2, .bool true] 30 _ (.int .i64 100) (by rfl) (by rfl) D9 Try.underlying30 rfl info30 rfl ?_
   exact tick_post HR.out Hst3.out K1 K2 K3 K4 K5 hb2 hb4 K9
  | false =>
   subst htt
   have hf0 : ¬ D.fuse = 0 := by simpa using ht.symm
   have hR : D.flush = (D.flushed, 0) := by unfold DS.flush; rw [if_neg (by rw [← Hdn.out]; decide), if_neg hf0]
   rw [hR]
   clear hR hf0 ht
   go_enter Try.func20, Try.ntmps20
   go_wp2_with (first
    | (guard_target = wpList _ _ _ (Oper.mk _ (Op.box 30 _) _ _ _ _ :: _) _ _; refine wpList_box_v rfl 30 _ rfl [.slice Al n cl, .slice Ar m cr, .int .i64 op, .int .i64 fu, .bool false] (by rfl) ?_; intro b2 w1 hb2 B1 K1)
    | (guard_target = wpList _ _ _ (Oper.mk _ (Op.box 36 _) _ _ _ _ :: _) _ _; refine wpList_box_v rfl 36 _ rfl [.int .i64 1, .int .i64 ok, .slice Ab nb cb, .slice Af nf cf] (by rfl) ?_; intro b3 w2 hb3 C2 K2; have B2 := B1.keep K2 id)
    | (guard_target = wpList _ _ _ (Oper.mk _ (Op.alloc 30) _ _ _ _ :: _) _ _; refine wpList_alloc_v rfl 30 rfl zst info30 stz zst_cells ?_; intro b4 w3 hb4 D3 K3; have B3 := B2.keep K3 id; have C3 := C2.keep K3 id; have k0 := C3.cell 0; have k1 := C3.cell 1; have k2 := C3.cell 2; have k3 := C3.cell 3; have s0 := B3.cell 0; have s4 := B3.cell 4; have s3 := B3.cell 3; simp only [List.getElem?_cons_zero, List.getElem?_cons_succ] at k0 k1 k2 k3 s0 s3 s4)
    | (go_at_call 57; refine (Hcnt.out _).mono ?_; rintro e w4 ⟨rfl, K4⟩; have B4 := B3.keep K4 id; have D4 := D3.keep K4 id)
    | (guard_target = wpList _ _ _ (Oper.mk _ (Op.store 30 (Operand.tmp 2) _) _ _ _ _ :: _) _ _; refine wpList_store_whole rfl 30 _ _ rfl b2 [.slice Al n cl, .slice Ar m cr, .int .i64 op, .int .i64 fu, .bool false] [.slice Al n cl, .slice Ar m cr, .int .i64 q1, .int .i64 q2, .bool false] 30 (by rfl) (by rfl) B4 (by rfl) info30 (st5_one rfl rfl _ _ _) ?_; intro w5 B5 K5; have f4 := B5.cell 4; have f0 := B5.cell 0; simp only [List.getElem?_cons_zero, List.getElem?_cons_succ] at f4 f0)
    | (guard_target = wpList _ _ _ (Oper.mk _ (Op.load 30 (Operand.tmp 2)) _ _ _ _ :: _) _ _; refine wpList_load_blk rfl 30 _ rfl b2 0 [.slice Al n cl, .slice Ar m cr, .int .i64 op, .int .i64 fu, .bool false] [.slice Al n cl, .slice Ar m cr, .int .i64 op, .int .i64 fu, .bool false] 30 _ (by rfl) B3 (part0 _) Try.underlying30 rfl info30 ?_))
   have D5 := D4.keep K5 (by unfold Only; have := B2.lt; omega)
   have K05 : Keep Noth w w5 := by
    have h1 := K1.size
    exact (((K1.trans K2 (fun _ _ h => h)).trans K3 (fun _ _ h => h)).trans K4 (fun _ _ h => h)).own K5 (fun q e => by unfold Only at e; subst e; exact hb2)
   have HR5 : Hid (StAt w5 F (.slice Al D.l.length cl) (.slice Ar D.row.length cr) D.tick) := hid ⟨(HR.out.keep K05 (Dj.noth _)).l, (HR.out.keep K05 (Dj.noth _)).row⟩
   have hb4' : w.heap.size ≤ b4 := by have := K1.size; have := K2.size; omega
   have hokt := tick_ok hok
   have hn4 : (n : Int) ≤ 4096 := by have := hok.most; have := Hn.out; omega
   have h24 : b2 ≠ b4 := by have := B2.lt; omega
   have b2lt := B5.lt
   have b4lt := D5.lt
   clear f4 f0
   clear B1 B2 B3 B4 C2 C3 D3 D4 K1 K2 K3 K4 K5 k0 k1 k2 k3 s0 s3 s4
   go_loopw [6, 7] (fun v i wr => ∃ k : Nat, i = .int .i64 k ∧ k ≤ n ∧ Acc w5 wr 52 64 v ((D.all.take k).map bv)) (fun _ i _ => n - (intOf i).toNat)
   case atStart => exact ⟨0, rfl, Nat.zero_le _, Acc.nil _ _ _⟩
   case round =>
    obtain ⟨k, rfl, hkl, HA⟩ := hrel
    have Br := B5.keep HA.kept id
    have c0 := Br.cell 0
    simp only [List.getElem?_cons_zero] at c0
    by_cases hlt : k < n
    ·have hlt' : (k : Int) < n := by omega
     have hkl' : k < D.l.length := by rw [← Hn.out]; exact hlt
     have h64 : (D.tick.at k).length = 64 := by have := at_length hok k hkl' D.row.length; rw [List.take_length] at this; exact this
     have H64 := hid h64
     have htk : (D.all.take (k + 1)).map bv = (D.all.take k).map bv ++ [bv (D.tick.at k)] := by
      rw [take_snoc' _ _ (by rw [all_length]; exact hkl'), List.map_append, ← at_all k hkl']; rfl
     have Htk := hid htk
     have HAT := st_at (HR5.out.keep HA.kept (Dj.noth _)) hokt hr k hkl'
     rw [Hst3.out] at HAT
     have HAT' := hid HAT
     clear h64 htk HAT
     go_wp2_with (first
      | (guard_target = wpList _ _ _ (Oper.mk _ (Op.load 30 (Operand.tmp 2)) _ _ _ _ :: _) _ _; refine wpList_load_blk rfl 30 _ rfl b2 0 [.slice Al n cl, .slice Ar m cr, .int .i64 q1, .int .i64 q2, .bool false] [.slice Al n cl, .slice Ar m cr, .int .i64 q1, .int .i64 q2, .bool false] 30 _ (by rfl) Br (part0 _) Try.underlying30 rfl info30 ?_)
      | (go_at_call 55; refine HAT'.out.mono ?_; rintro e wA ⟨rfl, KA⟩)
      | (guard_target = wpList _ _ _ (Oper.mk _ (Op.buildSlice _ _ _) _ _ _ _ :: _) _ _; refine wpList_slice1_v rfl 27 52 _ rfl sl27 (bv (D.tick.at k)) zv info52 zv_size (by decide) (by decide) (by rfl) (by rw [bv_length]; exact H64.out) ?_; intro bA wC hbA BA KC)
      | (at_builtin; refine wpList_append_rows rfl _ _ 27 rfl 52 zv 64 64 sl27 info52 zv_size (by decide) (by decide) _ _ _ [bv (D.tick.at k)] (by rfl) ((HA.rows.keep KA (Dj.noth _)).keep KC (Dj.noth _)) (some ⟨bA, 0, none⟩) 1 1 (by rfl) rfl (fun h => by cases h) (by intro x hx; rw [List.mem_singleton.1 hx, bv_length]; exact H64.out) (by rw [List.flatten_singleton]; exact Reads.of_range BA.rangeAll) (by rw [List.flatten_singleton]; exact bv_one _) (by rw [List.length_map, List.length_take]; omega) ?_; intro v3 w3 HR3 K3))
     rw [← Htk.out] at HR3
     have HN := HA.append (KA.trans KC (fun _ _ h => h)) HR3 K3
     clear HR3 K3 KA KC BA Br c0 HA
     go_roundw
     case rel => exact ⟨k + 1, by go_num, hlt, HN⟩
     case measure => simp [intOf]; omega
    ·have hge : k = n := by omega
     subst hge
     rw [Hn.out, ← all_length, List.take_length] at HA
     obtain ⟨v5, hv5⟩ : ∃ v5, v5 = u6 := ⟨_, rfl⟩
     have hone := HA.rows.one_val
     have D6 := D5.keep HA.kept id
     rw [← hv5] at HA hone
     rw [← hv5]
     go_wp2_with (first
      | (guard_target = wpList _ _ _ (Oper.mk _ (Op.store 27 _ _) _ _ _ _ :: _) _ _; refine wpList_store_blk rfl 27 _ _ rfl b2 0 _ 30 v5 (by rfl) (by rfl) Br (by simp) hone.1 hone.2 info27 ?_; intro w6 B6 K6; simp only [List.set_cons_zero] at B6)
      | (guard_target = wpList _ _ _ (Oper.mk _ (Op.store 28 _ _) _ _ _ _ :: _) _ _; refine wpList_store_blk rfl 28 _ _ rfl b2 1 _ 30 (.slice none 0 0) (by rfl) (by rfl) B6 (by simp) rfl rfl info28 ?_; intro w7 B7 K7; simp only [List.set_cons_zero, List.set_cons_succ] at B7)
      | (guard_target = wpList _ _ _ (Oper.mk _ (Op.load 30 (Operand.tmp 2)) _ _ _ _ :: _) _ _; refine wpList_load_blk rfl 30 _ rfl b2 0 [v5, .slice none 0 0, .int .i64 q1, .int .i64 q2, .bool false] [v5, .slice none 0 0, .int .i64 q1, .int .i64 q2, .bool false] 30 _ (by rfl) B7 (part0 _) Try.underlying30 rfl info30 ?_)
      | (guard_target = wpList _ _ _ (Oper.mk _ (Op.store 30 (Operand.tmp 4) _) _ _ _ _ :: _) _ _; refine wpList_store_whole rfl 30 _ _ rfl b4 stz [v5, .slice none 0 0, .int .i64 q1, .int .i64 q2, .bool false] 30 (by rfl) (by rfl) ((D6.keep K6 (fun e => h24 e.symm)).keep K7 (fun e => h24 e.symm)) (by rfl) info30 (st5_one hone.1 rfl _ _ _) ?_; intro w9 D9 K9))
     refine ret_cell_tmp rfl b4 [v5, .slice none 0 0, .int .i64 q1, .int .i64 q2, .bool false] 30 _ (.int .i64 0) (by rfl) (by rfl) D9 Try.underlying30 rfl info30 rfl ?_
     exact flushed_post Hst3.out HA K05 K6 K7 hb2 b2lt hb4' b4lt K9
end Go.Proofs.Ytffcglfepobdjaa
