/- Where a device lies in memory, and the document's state; the closed facts on the program's types. -/
import Derived.Test.YtffcglfepobdjaaProg
import Derived.Test.YtffcglfepobdjaaA1
import Derived.KernelRfl
set_option linter.unusedVariables false
set_option linter.unusedSimpArgs false
namespace Go.Proofs.Ytffcglfepobdjaa
open Go.RowKit

theorem Rows.ne {w : World} {F : Nat → Prop} {e t : TypeId} {size g : Nat} {v : Value} {xs : List (List Value)} {cs : List Value} (h : Rows w F e size v xs) (hb : BlockIs w g cs t) (hne : e ≠ t) : v.ownBlock ≠ some g := by
  intro hk
  rcases h.own.2 with ⟨rfl, _⟩ | ⟨g', cap, cur, rfl, _, hh, _⟩
  · simp [Value.ownBlock] at hk
  · have : g' = g := by simpa [Value.ownBlock] using hk
    subst this
    unfold BlockIs at hb
    rw [hh] at hb
    injection hb with hb
    injection hb with _ ht
    exact hne ht
theorem Rows.ne2 {w : World} {F F' : Nat → Prop} {e e' : TypeId} {size size' : Nat} {v v' : Value} {xs xs' : List (List Value)} (h : Rows w F e size v xs) (h' : Rows w F' e' size' v' xs') (hne : e ≠ e') : ∀ k, v.ownBlock = some k → v'.ownBlock ≠ some k := by
  intro k hk hk'
  rcases h'.own.2 with ⟨rfl, _⟩ | ⟨g', cap, cur, rfl, _, hh, _⟩
  · simp [Value.ownBlock] at hk'
  · have : g' = k := by simpa [Value.ownBlock] using hk'
    subst this
    exact h.ne (g := g') (cs := cur.toList) (t := e') (by unfold BlockIs; simpa using hh) hne hk
/-- Rows, behind a step that leaves their own block alone. -/
theorem Rows.stay {w w' : World} {F G : Nat → Prop} {e : TypeId} {size : Nat} {v : Value} {xs : List (List Value)} (h : Rows w F e size v xs) (hk : Keep G w w') (hd : ∀ k, v.ownBlock = some k → ¬ G k) : Rows w' F e size v xs := by
  have h' : Rows w (fun k => v.ownBlock = some k) e size v xs := ⟨h.own, h.each, fun _ hk => hk⟩
  exact ⟨(h'.keep hk (fun k a b => hd k a b)).own, h.each, h.foot⟩

structure DevAt (w : World) (F : Nat → Prop) (g : Nat) (vl vr : Value) (D : DS) : Prop where
  lt : Lt F w
  here : F g
  blk : BlockIs w g [vl, vr, .int .i64 (D.ops : Int), .int .i64 D.fuse, .bool D.down] 96
  l : Rows w F 103 64 vl (D.l.map bv)
  row : Rows w F 105 65 vr (D.row.map wv)
def DevIs (w : World) (F : Nat → Prop) (g : Nat) (D : DS) : Prop := ∃ vl vr, DevAt w F g vl vr D

theorem DevAt.keep {w w' : World} {F G : Nat → Prop} {g : Nat} {vl vr : Value} {D : DS} (h : DevAt w F g vl vr D) (hk : Keep G w w') (hd : Dj F G) : DevAt w' F g vl vr D :=
  ⟨fun k hf => Nat.lt_of_lt_of_le (h.lt k hf) hk.size, h.here, h.blk.keep hk (fun hg => hd g h.here hg), h.l.keep hk hd, h.row.keep hk hd⟩
theorem DevIs.keep {w w' : World} {F G : Nat → Prop} {g : Nat} {D : DS} (h : DevIs w F g D) (hk : Keep G w w') (hd : Dj F G) : DevIs w' F g D := by
  obtain ⟨vl, vr, h⟩ := h; exact ⟨vl, vr, h.keep hk hd⟩
theorem Dj.noth (F : Nat → Prop) : Dj F Noth := fun _ _ h => h.elim
theorem DevIs.lt {w : World} {F : Nat → Prop} {g : Nat} {D : DS} (h : DevIs w F g D) : Lt F w := by obtain ⟨_, _, h⟩ := h; exact h.lt
theorem DevIs.mono {w : World} {F G : Nat → Prop} {g : Nat} {D : DS} (h : DevIs w F g D) (hG : ∀ k, F k → G k) (hl : Lt G w) : DevIs w G g D := by
  obtain ⟨vl, vr, h⟩ := h
  exact ⟨vl, vr, hl, hG _ h.here, h.blk, h.l.mono hG, h.row.mono hG⟩

/-- What the walk wants of a device: its cells. -/
theorem DevAt.cells {w : World} {F : Nat → Prop} {g : Nat} {vl vr : Value} {D : DS} (h : DevAt w F g vl vr D) :
    (w.cell? ⟨g, 0, none⟩ = some vl ∧ w.cell? ⟨g, 1, none⟩ = some vr ∧ w.cell? ⟨g, 2, none⟩ = some (.int .i64 (D.ops : Int)) ∧ w.cell? ⟨g, 3, none⟩ = some (.int .i64 D.fuse) ∧ w.cell? ⟨g, 4, none⟩ = some (.bool D.down)) ∧
    (w.frozen? ⟨g, 0, none⟩ = false ∧ w.frozen? ⟨g, 1, none⟩ = false ∧ w.frozen? ⟨g, 2, none⟩ = false ∧ w.frozen? ⟨g, 3, none⟩ = false ∧ w.frozen? ⟨g, 4, none⟩ = false) :=
  ⟨⟨h.blk.cell 0, h.blk.cell 1, h.blk.cell 2, h.blk.cell 3, h.blk.cell 4⟩, ⟨h.blk.frozen 0, h.blk.frozen 1, h.blk.frozen 2, h.blk.frozen 3, h.blk.frozen 4⟩⟩
/-- A device of which its own block alone has turned. -/
theorem DevAt.turn {w w' : World} {F : Nat → Prop} {g : Nat} {vl vr : Value} {D D' : DS} (h : DevAt w F g vl vr D) (hk : Keep (Only g) w w')
    (hb : BlockIs w' g [vl, vr, .int .i64 (D'.ops : Int), .int .i64 D'.fuse, .bool D'.down] 96) (hl : D'.l = D.l) (hr : D'.row = D.row) : DevAt w' F g vl vr D' :=
  ⟨fun k hf => Nat.lt_of_lt_of_le (h.lt k hf) hk.size, h.here, hb,
   by rw [hl]; exact h.l.stay hk (fun k hk' e => h.l.ne h.blk (by decide) (by rw [hk', e])),
   by rw [hr]; exact h.row.stay hk (fun k hk' e => h.row.ne h.blk (by decide) (by rw [hk', e]))⟩

structure StAt (w : World) (F : Nat → Prop) (vl vr : Value) (D : DS) : Prop where
  l : Rows w F 52 64 vl (D.l.map bv)
  row : Rows w F 54 65 vr (D.row.map wv)
def stv (vl vr : Value) (D : DS) : List Value := [vl, vr, .int .i64 (D.ops : Int), .int .i64 D.fuse, .bool D.down]
theorem StAt.keep {w w' : World} {F G : Nat → Prop} {vl vr : Value} {D : DS} (h : StAt w F vl vr D) (hk : Keep G w w') (hd : Dj F G) : StAt w' F vl vr D := ⟨h.l.keep hk hd, h.row.keep hk hd⟩
theorem StAt.mono {w : World} {F G : Nat → Prop} {vl vr : Value} {D : DS} (h : StAt w F vl vr D) (hG : ∀ k, F k → G k) : StAt w G vl vr D := ⟨h.l.mono hG, h.row.mono hG⟩

/-! ### Closed facts -/
theorem zb_cells : bv zb = List.replicate 64 (.int .u8 0) := by unfold bv zb; rw [List.map_replicate]; rfl
def zv : Value := .agg (bv zb).toArray
def zw : Value := .agg (wv (0, zb)).toArray
def zst : Value := .agg (stv (.slice none 0 0) (.slice none 0 0) ⟨[], [], 0, 0, false⟩).toArray
theorem wv0_length : (wv (0, zb)).length = 65 := by simp [wv, zb]
theorem zb_length : zb.length = 64 := by simp [zb]
theorem bvz_length : (bv zb).length = 64 := by simp [zb]
theorem zw_cells : zw.cells = (wv (0, zb)).toArray := rfl
theorem zv_cells : zv.cells = (bv zb).toArray := rfl
theorem info52 : (Try.prog.info? 52).map (fun i => (i.zero, i.size, i.bytes)) = some (some zv, 64, 64) := by kernel_rfl
theorem info103 : (Try.prog.info? 103).map (fun i => (i.zero, i.size, i.bytes)) = some (some zv, 64, 64) := by kernel_rfl
theorem info54 : (Try.prog.info? 54).map (fun i => (i.zero, i.size, i.bytes)) = some (some zw, 65, 72) := by kernel_rfl
theorem info105 : (Try.prog.info? 105).map (fun i => (i.zero, i.size, i.bytes)) = some (some zw, 65, 72) := by kernel_rfl
theorem info30 : (Try.prog.info? 30).map (fun i => (i.zero, i.size, i.bytes)) = some (some zst, 5, 72) := by kernel_rfl
theorem info5 : (Try.prog.info? 5).map (fun i => (i.zero, i.size, i.bytes)) = some (some (.int .u8 0), 1, 1) := by kernel_rfl
theorem info3 : (Try.prog.info? 3).map (fun i => (i.zero, i.size, i.bytes)) = some (some (.int .i64 0), 1, 8) := by kernel_rfl
theorem info94 : (Try.prog.info? 94).map (fun i => (i.zero, i.size, i.bytes)) = some (some (.slice none 0 0), 1, 24) := by kernel_rfl
theorem info93 : (Try.prog.info? 93).map (fun i => (i.zero, i.size, i.bytes)) = some (some (.slice none 0 0), 1, 24) := by kernel_rfl
theorem info27 : (Try.prog.info? 27).map (fun i => (i.zero, i.size, i.bytes)) = some (some (.slice none 0 0), 1, 24) := by kernel_rfl
theorem info28 : (Try.prog.info? 28).map (fun i => (i.zero, i.size, i.bytes)) = some (some (.slice none 0 0), 1, 24) := by kernel_rfl
def zdev : Value := .agg [.slice none 0 0, .slice none 0 0, .int .i64 0, .int .i64 0, .bool false].toArray
theorem info96 : (Try.prog.info? 96).map (fun i => (i.zero, i.size, i.bytes)) = some (some zdev, 5, 72) := by kernel_rfl
theorem size5 : (Try.prog.info? 5).map (·.size) = some 1 := by kernel_rfl
theorem sl93 : Try.prog.underlying 93 = some (.slice 103) := by kernel_rfl
theorem sl94 : Try.prog.underlying 94 = some (.slice 105) := by kernel_rfl
theorem sl27 : Try.prog.underlying 27 = some (.slice 52) := by kernel_rfl
theorem sl28 : Try.prog.underlying 28 = some (.slice 54) := by kernel_rfl
theorem sl33 : Try.prog.underlying 33 = some (.slice 5) := by kernel_rfl
theorem sl34 : Try.prog.underlying 34 = some (.slice 3) := by kernel_rfl
theorem follows_mixed : Try.prog.follows .mixedOrders = true := by kernel_rfl
end Go.Proofs.Ytffcglfepobdjaa
