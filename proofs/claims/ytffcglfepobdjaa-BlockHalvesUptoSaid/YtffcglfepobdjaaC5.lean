/- alive: a write that is torn. -/
import Derived.Test.YtffcglfepobdjaaC2
import Derived.Test.YtffcglfepobdjaaC3
import Derived.Test.YtffcglfepobdjaaB8
set_option linter.unusedVariables false
set_option linter.unusedSimpArgs false
set_option maxRecDepth 10000
set_option maxHeartbeats 2000000
namespace Go.Proofs.Ytffcglfepobdjaa
open Go.RowKit

def full : List UInt8 := List.replicate 64 7
def aD0 : DS := DS.new 2
def aD1 : DS := (aD0.write 1 full).1
def aD2 : DS := aD1.crash [3]
def aD3 : DS := aD2.arm 0
theorem new_ok (n : Nat) (h1 : 1 ≤ n) (h2 : n ≤ 4096) : (DS.new n).ok :=
  ⟨fun b hb => by rw [List.eq_of_mem_replicate hb]; exact zb_length, fun p hp => by simp [DS.new] at hp, by simp [DS.new]; omega, by simp [DS.new]; omega, by simp [DS.new], by simp [DS.new]⟩
theorem a_w1 : (aD0.write 1 full).2 = 0 := by kernel_rfl
theorem a_w2 : aD1.write 2 [] = (aD1, 101) := by
  have : aD1.write 2 [] = (aD1, (aD1.write 2 []).2) := by rfl
  rw [this]; rfl
theorem a_ok1 : aD1.ok := write_ds_ok (new_ok 2 (by decide) (by decide)) _ _
theorem a_ok2 : aD2.ok := crash_ok a_ok1 _
theorem a_ok3 : aD3.ok := arm_ok a_ok2 _ (by decide)
theorem a_f3 : aD3.flush = (aD3.tick, 100) := by rfl
theorem a_x : ∃ m : List UInt8, aD2.at 1 = 0 :: m ∧ m.length = 63 ∧ m[62]? = some 7 := ⟨(aD2.at 1).tail, by kernel_rfl, by kernel_rfl, by kernel_rfl⟩
theorem a_y : aD1.at 1 = full := by kernel_rfl
theorem a_f1 : aD1.flush.2 = 0 ∧ aD1.flush.1.ops = 2 ∧ aD1.row.length = 1 ∧ aD3.tick.down = true := ⟨by kernel_rfl, by kernel_rfl, by kernel_rfl, by kernel_rfl⟩
theorem image_length {D : DS} (h : D.ok) : D.image.length = D.l.length * 64 := by
  have ha : D.all.length = D.l.length := putAll_length _ _
  have h64 := putAll_64 D.row D.l h.l64 (fun p hp => (h.row64 p hp).2)
  have : ∀ (l : List Bk), (∀ b ∈ l, b.length = 64) → l.flatten.length = l.length * 64 := by
    intro l
    induction l with
    | nil => intro _; rfl
    | cons b l ih => intro h; rw [List.flatten_cons, List.length_append, ih (fun c hc => h c (by simp [hc])), h b (by simp), List.length_cons]; omega
  unfold DS.image
  rw [this D.all h64, ha]
end Go.Proofs.Ytffcglfepobdjaa
