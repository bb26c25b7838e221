/- The device's small calls: Count, Pending, Ops, Down, Arm, and the count of an op. -/
import Derived.Test.YtffcglfepobdjaaA2
set_option linter.unusedVariables false
set_option linter.unusedSimpArgs false
namespace Go.Proofs.Ytffcglfepobdjaa
open Go.RowKit

def DS.tick (D : DS) : DS := { D with ops := D.ops + 1, down := D.fuse == 0, fuse := max (D.fuse - 1) (-1) }
def DS.arm (D : DS) (n : Int) : DS := { D with fuse := max n (-1) }

theorem ret_int {k : IntKind} {a b : Int} (h : a = b) : Ending.returned (.int k a) = .returned (.int k b) := by rw [h]

theorem op_end {w : World} {F : Nat → Prop} {g : Nat} {vl vr : Value} {D : DS} (h : DevAt w F g vl vr D) (x : Int) (hx : x = max (D.fuse - 1) (-1)) :
    DevAt (((w.setCell ⟨g, 2, none⟩ (.int .i64 ((D.ops : Int) + 1))).setCell ⟨g, 4, none⟩ (.bool (D.fuse == 0))).setCell ⟨g, 3, none⟩ (.int .i64 x)) F g vl vr D.tick ∧
    Keep (Only g) w (((w.setCell ⟨g, 2, none⟩ (.int .i64 ((D.ops : Int) + 1))).setCell ⟨g, 4, none⟩ (.bool (D.fuse == 0))).setCell ⟨g, 3, none⟩ (.int .i64 x)) := by
  subst hx
  have hk := (((Keep.refl (Only g) w).cell 2 (.int .i64 ((D.ops : Int) + 1))).cell 4 (.bool (D.fuse == 0))).cell 3 (.int .i64 (max (D.fuse - 1) (-1)))
  have hb := ((h.blk.set 2 (.int .i64 ((D.ops : Int) + 1))).set 4 (.bool (D.fuse == 0))).set 3 (.int .i64 (max (D.fuse - 1) (-1)))
  exact ⟨h.turn hk (by simpa [DS.tick] using hb) rfl rfl, hk⟩

theorem op_calls {w : World} {F : Nat → Prop} {g : Nat} {vl vr : Value} {D : DS} (hD : DevAt w F g vl vr D) (ho : D.ops ≤ 1152921504606846976) (hf : -1 ≤ D.fuse) (hf' : D.fuse ≤ 9223372036854775807) :
    Calls Try.prog 60 #[.pointer (some ⟨g, 0, none⟩)] w (fun e w' => e = .returned (.bool (!(D.fuse == 0))) ∧ DevAt w' F g vl vr D.tick ∧ Keep (Only g) w w') := by
  obtain ⟨⟨-, -, h2, h3, h4⟩, -, -, f2, f3, f4⟩ := hD.cells
  have ho' : (D.ops : Int) ≤ 1152921504606846976 := by omega
  go_enter Try.func60, Try.ntmps60
  go_wp2
  all_goals
    go_ret
    exact ⟨rfl, op_end hD _ (by omega)⟩

theorem count_calls {w : World} {F : Nat → Prop} {g : Nat} {vl vr : Value} {D : DS} (h : DevAt w F g vl vr D) :
    Calls Try.prog 24 #[.pointer (some ⟨g, 0, none⟩)] w (fun e w' => e = .returned (.int .i64 (D.l.length : Int)) ∧ w = w') := by
  obtain ⟨⟨h0, -⟩, -⟩ := h.cells
  obtain ⟨A, c, rfl⟩ := h.l.val
  rw [List.length_map] at h0
  go_enter Try.func24, Try.ntmps24
  go_wp2
  go_ret
  exact ⟨rfl, rfl⟩
theorem pending_calls {w : World} {F : Nat → Prop} {g : Nat} {vl vr : Value} {D : DS} (h : DevAt w F g vl vr D) :
    Calls Try.prog 30 #[.pointer (some ⟨g, 0, none⟩)] w (fun e w' => e = .returned (.int .i64 (D.row.length : Int)) ∧ w = w') := by
  obtain ⟨⟨-, h1, -⟩, -⟩ := h.cells
  obtain ⟨A, c, rfl⟩ := h.row.val
  rw [List.length_map] at h1
  go_enter Try.func30, Try.ntmps30
  go_wp2
  go_ret
  exact ⟨rfl, rfl⟩
theorem ops_calls {w : World} {F : Nat → Prop} {g : Nat} {vl vr : Value} {D : DS} (h : DevAt w F g vl vr D) :
    Calls Try.prog 29 #[.pointer (some ⟨g, 0, none⟩)] w (fun e w' => e = .returned (.int .i64 (D.ops : Int)) ∧ w = w') := by
  obtain ⟨⟨-, -, h2, -⟩, -⟩ := h.cells
  go_enter Try.func29, Try.ntmps29
  go_wp2
  go_ret
  exact ⟨rfl, rfl⟩
theorem down_calls {w : World} {F : Nat → Prop} {g : Nat} {vl vr : Value} {D : DS} (h : DevAt w F g vl vr D) :
    Calls Try.prog 28 #[.pointer (some ⟨g, 0, none⟩)] w (fun e w' => e = .returned (.bool D.down) ∧ w = w') := by
  obtain ⟨⟨-, -, -, -, h4⟩, -⟩ := h.cells
  go_enter Try.func28, Try.ntmps28
  go_wp2
  go_ret
  exact ⟨rfl, rfl⟩
theorem arm_calls {w : World} {F : Nat → Prop} {g : Nat} {vl vr : Value} {D : DS} (h : DevAt w F g vl vr D) (n : Int) :
    Calls Try.prog 27 #[.pointer (some ⟨g, 0, none⟩), .int .i64 n] w (fun e w' => e = .returned (.tuple #[]) ∧ DevAt w' F g vl vr (D.arm n) ∧ Keep (Only g) w w') := by
  obtain ⟨⟨-, -, -, h3, -⟩, -, -, -, f3, -⟩ := h.cells
  have fin : ∀ x : Int, x = max n (-1) → DevAt (w.setCell ⟨g, 3, none⟩ (.int .i64 x)) F g vl vr (D.arm n) ∧ Keep (Only g) w (w.setCell ⟨g, 3, none⟩ (.int .i64 x)) := by
    intro x hx
    subst hx
    have hk := (Keep.refl (Only g) w).cell 3 (.int .i64 (max n (-1)))
    exact ⟨h.turn hk (by simpa [DS.arm] using h.blk.set 3 (.int .i64 (max n (-1)))) rfl rfl, hk⟩
  have Fin := hid fin
  clear fin
  go_enter Try.func27, Try.ntmps27
  go_wp2
  all_goals
    go_end0
    exact ⟨rfl, Fin.out _ (by omega)⟩
end Go.Proofs.Ytffcglfepobdjaa
