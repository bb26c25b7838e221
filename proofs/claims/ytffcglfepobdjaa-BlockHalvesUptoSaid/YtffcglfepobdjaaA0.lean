/- The words of these proofs: blocks of bytes, devices, rows of cells in memory; what a step of memory leaves as it was. No program in sight. -/
import Derived.WalkKit
import Derived.WalkLawsBesides
import Derived.WalkSpells
import Derived.Deep.MidRow
import Derived.Maps.AppendAt
import Derived.Laws.CopyOwn
set_option linter.unusedVariables false
set_option linter.unusedSimpArgs false
namespace Go.Proofs.Ytffcglfepobdjaa
open Go.RowKit

theorem hid {p : Prop} (h : p) : Hid p := h

/-! ### Plain data -/
abbrev Bk := List UInt8
def u8 (x : UInt8) : Value := .int .u8 (x.toNat : Int)
def bv (b : List UInt8) : List Value := b.map u8
def zb : Bk := List.replicate 64 0
def wv (p : Nat × Bk) : List Value := .int .i64 (p.1 : Int) :: bv p.2
@[simp] theorem bv_length (b : List UInt8) : (bv b).length = b.length := by simp [bv]
theorem bv_append (a b : List UInt8) : bv (a ++ b) = bv a ++ bv b := by simp [bv]
theorem bv_one (b : List UInt8) : ∀ v ∈ bv b, v.oneCell' = true := by
  intro v hv; simp only [bv, List.mem_map] at hv; obtain ⟨x, _, rfl⟩ := hv; rfl
theorem wv_one (p : Nat × Bk) : ∀ v ∈ wv p, v.oneCell' = true := by
  intro v hv; simp only [wv, List.mem_cons] at hv
  rcases hv with rfl | hv
  · rfl
  · exact bv_one _ v hv
theorem u8_inj {x y : UInt8} (h : u8 x = u8 y) : x = y := by
  simp only [u8, Value.int.injEq, true_and] at h
  exact UInt8.toNat_inj.1 (by omega)
theorem bv_inj : ∀ {a b : List UInt8}, bv a = bv b → a = b := by
  intro a
  induction a with
  | nil => intro b h; cases b with | nil => rfl | cons y b => simp [bv] at h
  | cons x a ih =>
    intro b h
    cases b with
    | nil => simp [bv] at h
    | cons y b =>
      simp only [bv, List.map_cons, List.cons.injEq] at h
      rw [u8_inj h.1, ih h.2]

structure DS where
  l : List Bk
  row : List (Nat × Bk)
  ops : Nat
  fuse : Int
  down : Bool

structure DS.ok (D : DS) : Prop where
  l64 : ∀ b ∈ D.l, b.length = 64
  row64 : ∀ p ∈ D.row, p.1 < D.l.length ∧ p.2.length = 64
  one : 1 ≤ D.l.length
  most : D.l.length ≤ 4096
  fuse : -1 ≤ D.fuse
  fuse' : D.fuse ≤ 9223372036854775807

/-! ### Steps of memory -/
/-- Every block that was there, and is not in F, is as it was. -/
structure Keep (F : Nat → Prop) (w w' : World) : Prop where
  os : w'.os = w.os
  tape : w'.tape = w.tape
  output : w'.output = w.output
  size : w.heap.size ≤ w'.heap.size
  block : ∀ k, k < w.heap.size → ¬ F k → w'.heap[k]? = w.heap[k]?

def Noth : Nat → Prop := fun _ => False
def Only (g : Nat) : Nat → Prop := fun k => k = g
/-- F, and what is new in w'. -/
def grow (F : Nat → Prop) (w w' : World) : Nat → Prop := fun k => F k ∨ (w.heap.size ≤ k ∧ k < w'.heap.size)
def Dj (F G : Nat → Prop) : Prop := ∀ k, F k → G k → False
def Lt (F : Nat → Prop) (w : World) : Prop := ∀ k, F k → k < w.heap.size

theorem Keep.refl (F : Nat → Prop) (w : World) : Keep F w w := ⟨rfl, rfl, rfl, Nat.le_refl _, fun _ _ _ => rfl⟩
theorem Keep.trans {F G : Nat → Prop} {a b c : World} (h : Keep F a b) (k : Keep G b c) (hG : ∀ i, i < a.heap.size → G i → F i) : Keep F a c :=
  ⟨k.os.trans h.os, k.tape.trans h.tape, k.output.trans h.output, Nat.le_trans h.size k.size,
   fun i hi hn => (k.block i (Nat.lt_of_lt_of_le hi h.size) (fun hg => hn (hG i hi hg))).trans (h.block i hi hn)⟩
theorem Keep.mono {F G : Nat → Prop} {a b : World} (h : Keep F a b) (hG : ∀ i, i < a.heap.size → F i → G i) : Keep G a b :=
  ⟨h.os, h.tape, h.output, h.size, fun i hi hn => h.block i hi (fun hf => hn (hG i hi hf))⟩
theorem Keep.drew {F : Nat → Prop} {a w : World} (h : Keep F a w) : Keep F a w.drew := ⟨h.os, h.tape, h.output, h.size, h.block⟩
theorem Keep.drewN {F : Nat → Prop} {a w : World} (h : Keep F a w) (n : Nat) : Keep F a (w.drewN n) := ⟨h.os, h.tape, h.output, h.size, h.block⟩
theorem Keep.alloc {F : Nat → Prop} {a w : World} (h : Keep F a w) (o : Obj) : Keep F a (w.alloc o) :=
  h.trans (G := Noth) ⟨rfl, rfl, rfl, by simp, fun k hk _ => Below.heap_alloc w o k hk⟩ (fun _ _ h => h.elim)
theorem Keep.grown {F : Nat → Prop} {a w w' : World} {row : Option Nat} (h : Keep F a w) (hg : w.grownBy w' row) (hr : ∀ k, row = some k → k < a.heap.size → F k) : Keep F a w' :=
  h.trans (G := fun k => row = some k) ⟨hg.os, hg.tape, hg.output, hg.size, fun k hk hn => hg.block k hk (fun e => hn e.symm)⟩ (fun i hi hr' => hr i hr' hi)
theorem Keep.setCell {F : Nat → Prop} {a w : World} (h : Keep F a w) {p : Addr} (hp : p.block < a.heap.size → F p.block) (u : Value) : Keep F a (w.setCell p u) :=
  h.trans (G := Only p.block) ⟨rfl, rfl, rfl, by simp, fun k _ hn => heap_setCell_other w p k u (fun e => hn e)⟩ (fun i hi e => by unfold Only at e; subst e; exact hp hi)
theorem Keep.cell {g : Nat} {a w : World} (h : Keep (Only g) a w) (j : Nat) (u : Value) : Keep (Only g) a (w.setCell ⟨g, j, none⟩ u) := h.setCell (p := ⟨g, j, none⟩) (fun _ => rfl) u
theorem Keep.setRow {F : Nat → Prop} {a w : World} (h : Keep F a w) {g : Nat} (hp : g < a.heap.size → F g) (cs : Array Value) : Keep F a (w.setRow g cs) :=
  h.trans (G := Only g) ⟨rfl, rfl, rfl, by simp [World.setRow], fun k _ hn => setRow_other w g k cs (fun e => hn e)⟩ (fun i hi e => by unfold Only at e; subst e; exact hp hi)
theorem Keep.below {w w' : World} (h : Keep Noth w w') : Below w.heap.size w w' := ⟨h.os, h.tape, h.output, h.size, fun k hk => h.block k hk id⟩
theorem Keep.of_below {w w' : World} (h : Below w.heap.size w w') : Keep Noth w w' := ⟨h.os, h.tape, h.output, h.size, fun k hk _ => h.block k hk⟩
/-- Above B a step may do what it likes. -/
theorem Keep.belowAt {F : Nat → Prop} {B : Nat} {w0 w w' : World} (hb : Below B w0 w) (h : Keep F w w') (hB : B ≤ w.heap.size) (hF : ∀ k, F k → B ≤ k) : Below B w0 w' :=
  ⟨h.os.trans hb.os, h.tape.trans hb.tape, h.output.trans hb.output, Nat.le_trans hb.size h.size,
   fun k hk => (h.block k (by omega) (fun hf => by have := hF k hf; omega)).trans (hb.block k hk)⟩

theorem grow_lt {F : Nat → Prop} {w w' : World} (hF : Lt F w) (hs : w.heap.size ≤ w'.heap.size) : Lt (grow F w w') w' := fun k hk => by
  rcases hk with h | h
  · exact Nat.lt_of_lt_of_le (hF k h) hs
  · exact h.2

/-! ### A block that is known whole -/
def BlockIs (w : World) (g : Nat) (cs : List Value) (t : TypeId) : Prop := w.heap[g]? = some (.cells cs.toArray t (0, 0))
theorem BlockIs.lt {w : World} {g : Nat} {cs : List Value} {t : TypeId} (h : BlockIs w g cs t) : g < w.heap.size := (Array.getElem?_eq_some_iff.1 h).1
theorem BlockIs.cell {w : World} {g : Nat} {cs : List Value} {t : TypeId} (h : BlockIs w g cs t) (j : Nat) : w.cell? ⟨g, j, none⟩ = cs[j]? := by
  rw [cell_of_row w g j _ t (0, 0) h]; simp
theorem BlockIs.frozen {w : World} {g : Nat} {cs : List Value} {t : TypeId} (h : BlockIs w g cs t) (j : Nat) : w.frozen? ⟨g, j, none⟩ = false := frozen_of_row w g j _ t h
theorem BlockIs.keep {w w' : World} {F : Nat → Prop} {g : Nat} {cs : List Value} {t : TypeId} (h : BlockIs w g cs t) (hk : Keep F w w') (hg : ¬ F g) : BlockIs w' g cs t :=
  (hk.block g h.lt hg).trans h
theorem BlockIs.set {w : World} {g : Nat} {cs : List Value} {t : TypeId} (h : BlockIs w g cs t) (j : Nat) (v : Value) : BlockIs (w.setCell ⟨g, j, none⟩ v) g (cs.set j v) t := by
  have := heap_setCell_same w g j cs.toArray t v h
  unfold BlockIs
  rw [this]
  simp
theorem BlockIs.far {w : World} {g : Nat} {cs : List Value} {t : TypeId} (h : BlockIs w g cs t) (p : Addr) (hp : g ≠ p.block) (v : Value) : BlockIs (w.setCell p v) g cs t :=
  (heap_setCell_other w p g v hp).trans h
theorem BlockIs.new (w : World) (cs : List Value) (t : TypeId) : BlockIs (w.alloc (.cells cs.toArray t)) w.heap.size cs t := heap_alloc_new w _
theorem BlockIs.alloc {w : World} {g : Nat} {cs : List Value} {t : TypeId} (h : BlockIs w g cs t) (o : Obj) : BlockIs (w.alloc o) g cs t := (Below.heap_alloc w o g h.lt).trans h
theorem BlockIs.drew {w : World} {g : Nat} {cs : List Value} {t : TypeId} (h : BlockIs w g cs t) : BlockIs w.drew g cs t := h
theorem BlockIs.drewN {w : World} {g : Nat} {cs : List Value} {t : TypeId} (h : BlockIs w g cs t) (n : Nat) : BlockIs (w.drewN n) g cs t := h
theorem BlockIs.setRow {w : World} {g : Nat} {cs : List Value} {t : TypeId} (h : BlockIs w g cs t) (ds : List Value) : BlockIs (w.setRow g ds.toArray) g ds t := setRow_heap w g _ _ t _ h
theorem BlockIs.range {w : World} {g : Nat} {cs : List Value} {t : TypeId} (h : BlockIs w g cs t) (o : Nat) (ds : List Value) (hd : ∀ j v, ds[j]? = some v → cs[o + j]? = some v) : w.rangeAt g o ds := fun j v hv => by
  rw [h.cell]; exact hd j v hv
theorem BlockIs.rangeAll {w : World} {g : Nat} {cs : List Value} {t : TypeId} (h : BlockIs w g cs t) : w.rangeAt g 0 cs := h.range 0 cs (fun j v hv => by simpa using hv)

/-! ### Rows: slices that own what they hold -/
structure Rows (w : World) (F : Nat → Prop) (e : TypeId) (size : Nat) (v : Value) (xs : List (List Value)) : Prop where
  own : w.ownsRow 0 e size v xs.length xs.flatten
  each : ∀ x ∈ xs, x.length = size
  foot : ∀ k, v.ownBlock = some k → F k

theorem Rows.keep {w w' : World} {F G : Nat → Prop} {e : TypeId} {size : Nat} {v : Value} {xs : List (List Value)} (h : Rows w F e size v xs) (hk : Keep G w w') (hd : Dj F G) : Rows w' F e size v xs := by
  refine ⟨⟨h.own.1, ?_⟩, h.each, h.foot⟩
  rcases h.own.2 with hn | ⟨g, cap, cur, hv, hb, hg, rest⟩
  · exact .inl hn
  · have hf : F g := h.foot g (by rw [hv]; rfl)
    exact .inr ⟨g, cap, cur, hv, hb, by rw [hk.block g (Array.getElem?_eq_some_iff.1 hg).1 (fun h => hd g hf h)]; exact hg, rest⟩
theorem Rows.mono {w : World} {F G : Nat → Prop} {e : TypeId} {size : Nat} {v : Value} {xs : List (List Value)} (h : Rows w F e size v xs) (hG : ∀ k, F k → G k) : Rows w G e size v xs := ⟨h.own, h.each, fun k hk => hG k (h.foot k hk)⟩
theorem Rows.nil (w : World) (F : Nat → Prop) (e : TypeId) (size : Nat) : Rows w F e size (.slice none 0 0) [] := ⟨World.ownsRow_nil _ _ _ _, by simp, by simp [Value.ownBlock]⟩
theorem Rows.val {w : World} {F : Nat → Prop} {e : TypeId} {size : Nat} {v : Value} {xs : List (List Value)} (h : Rows w F e size v xs) : ∃ A c, v = .slice A xs.length c := by
  rcases h.own.2 with ⟨rfl, h0⟩ | ⟨g, cap, cur, rfl, _⟩
  · exact ⟨none, 0, by rw [h0]⟩
  · exact ⟨_, _, rfl⟩
theorem Rows.valm {w : World} {F : Nat → Prop} {e : TypeId} {size : Nat} {v : Value} {α : Type} {f : α → List Value} {xs : List α} (h : Rows w F e size v (xs.map f)) : ∃ A c, v = .slice A xs.length c := by
  obtain ⟨A, c, hv⟩ := h.val
  exact ⟨A, c, by rw [hv, List.length_map]⟩
theorem Rows.le {w : World} {F : Nat → Prop} {e : TypeId} {size : Nat} {v : Value} {xs : List (List Value)} (h : Rows w F e size v xs) : xs.length ≤ maxLen := by
  rcases h.own.2 with ⟨rfl, h0⟩ | ⟨g, cap, cur, rfl, _, _, h1, h2, _⟩
  · omega
  · omega
theorem flatten_at {α : Type} (size : Nat) : ∀ (xs : List (List α)) (i : Nat), (∀ x ∈ xs, x.length = size) → (hi : i < xs.length) → ∀ j v, xs[i][j]? = some v → xs.flatten[i * size + j]? = some v
  | [], i, _, hi, _, _, _ => by simp at hi
  | x :: xs, 0, he, _, j, v, hv => by
    have hx := he x (by simp)
    simp only [List.getElem_cons_zero] at hv
    have hj : j < x.length := (List.getElem?_eq_some_iff.1 hv).1
    rw [Nat.zero_mul, Nat.zero_add, List.flatten_cons, List.getElem?_append_left hj]
    exact hv
  | x :: xs, i + 1, he, hi, j, v, hv => by
    have hx := he x (by simp)
    simp only [List.getElem_cons_succ] at hv
    have ih := flatten_at size xs i (fun y hy => he y (by simp [hy])) (by simpa using hi) j v hv
    rw [List.flatten_cons, List.getElem?_append_right (by rw [hx, Nat.succ_mul]; omega), hx]
    rw [show (i + 1) * size + j - size = i * size + j by rw [Nat.succ_mul]; omega]
    exact ih
/-- Where an element lies. -/
theorem Rows.at {w : World} {F : Nat → Prop} {e : TypeId} {size : Nat} {v : Value} {xs : List (List Value)} (h : Rows w F e size v xs) (h0 : 0 < xs.length) :
    ∃ g cap, v = .slice (some ⟨g, 0, none⟩) xs.length cap ∧ F g ∧ ∀ i, (hi : i < xs.length) → w.rangeAt g (i * size) xs[i] := by
  rcases h.own.2 with ⟨rfl, h1⟩ | ⟨g, cap, cur, hv, _⟩
  · omega
  · subst hv
    refine ⟨g, cap, rfl, h.foot g rfl, fun i hi j u hu => ?_⟩
    have hj : j < size := by rw [← h.each xs[i] (List.getElem_mem hi)]; exact (List.getElem?_eq_some_iff.1 hu).1
    have hle : (i + 1) * size ≤ xs.length * size := Nat.mul_le_mul_right _ hi
    rw [Nat.succ_mul] at hle
    rw [h.own.cellAt (i * size + j) (by omega)]
    exact flatten_at size xs i h.each hi j u hu
theorem Rows.some_at {w : World} {F : Nat → Prop} {e : TypeId} {size : Nat} {A : Option Addr} {n c : Nat} {xs : List (List Value)} (h : Rows w F e size (.slice A n c) xs) (h0 : 0 < xs.length) : ∃ g, A = some ⟨g, 0, none⟩ := by
  obtain ⟨g, cap, hv, _⟩ := h.at h0
  simp only [Value.slice.injEq] at hv
  exact ⟨g, hv.1⟩
theorem Rows.there {w : World} {F : Nat → Prop} {e : TypeId} {size : Nat} {xs : List (List Value)} {g n cap : Nat} (h : Rows w F e size (.slice (some ⟨g, 0, none⟩) n cap) xs) (i : Nat) (hi : i < xs.length) : w.there g (i * size) size := by
  obtain ⟨g', cap', hv, _, hr⟩ := h.at (by omega)
  simp only [Value.slice.injEq, Option.some.injEq, Addr.mk.injEq, and_true, true_and] at hv
  obtain ⟨rfl, rfl, rfl⟩ := hv
  intro j hj
  have hx : xs[i].length = size := h.each _ (List.getElem_mem hi)
  refine ⟨(hr i hi).isSome j (by omega), h.own.frozenAt _⟩

end Go.Proofs.Ytffcglfepobdjaa
