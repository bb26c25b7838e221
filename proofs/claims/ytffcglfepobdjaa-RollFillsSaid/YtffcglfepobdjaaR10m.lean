/- RollFills: the given statement. -/
import Derived.Test.YtffcglfepobdjaaE3m
import Derived.Test.YtffcglfepobdjaaT2m
set_option linter.unusedVariables false
namespace Go.Proofs.Ytffcglfepobdjaa
open Go.ChangeShapes Go.WideShapes Go.ChangeAt Go.RowKit

theorem params10 : Try.f10.params = #[3, 63] := rfl

set_option maxRecDepth 100000 in
theorem rfills_lifted (os : Os) (started : os.Started) (H : Type) (enc : TypeId × Value → H) :
    ReturnsInHanded {} Try.checked os 10 .any (Rows.rollFillsSpec.pre6 enc Try.prog Try.f10 Rows.rollFillsRow.domain false) (Rows.rollFillsSpec.post enc Try.prog Try.f10 false true false false) := by
  refine returnsInHanded_of_change (C := Try.checked) own_knob started (by kernel_rfl) Try.func10
    (ChangeSpec.witness6 (enc := enc) (C := Try.checked) false ⟨#[], #[.int .i64 0, .slice none 0 0], []⟩ 8 (by kernel_rfl) (by kernel_rfl) (by kernel_rfl) (by kernel_rfl)) ?_
  intro W base args ds gs before hval0 hW hcnd _
  have hval : ∀ (j : Nat) t v, Try.f10.params[j]? = some t → args[j]? = some v → Value.okWide Try.prog W .any base t v := hval0
  have hW' : DataW.Whole enc Try.prog Try.f10.params.toList Rows.rollFillsSpec.vars false W args.toList ds gs before := hW
  clear hval0 hW
  have hW0 := hW'
  obtain ⟨p, q, hA, hV, rfl, hz, -⟩ := hW'
  rw [params10] at hA hval
  obtain ⟨v0, vs0, d0, ds0, p0, q0, hargs, rfl, rfl, h0, r0⟩ := trodAll_cons hA
  obtain ⟨v1, vs1, d1, ds1, p1, q1, rfl, rfl, rfl, h1, r1⟩ := trodAll_cons r0
  obtain ⟨rfl, rfl, rfl⟩ := trodAll_nil r1
  obtain rfl : args = #[v0, v1] := by cases args; simp_all
  obtain ⟨rfl, rfl⟩ := trodVars_none hV
  obtain ⟨a0, rfl, rfl, rfl, w0⟩ := open_int under3 (hval 0 3 v0 rfl rfl) h0
  obtain ⟨A1, c1, l1, rfl, hR1, hn1, hm1, -⟩ := open_recs under63 (hval 1 63 v1 rfl rfl) h1
  refine Calls.mono (P := Try.prog) (rfills_calls W a0 A1 c1 l1 hR1 (by unfold maxLen at hm1; omega)) fun e W' ⟨he, hk⟩ => ?_
  subst he
  exact ⟨_, rfl, law_post hW0 rfl rfl (by rw [params10]; intro t ht; simp at ht; rcases ht with rfl | rfl <;> exact ⟨by kernel_rfl, by decide +kernel⟩) rfl rfl rfl hk⟩

theorem rfills_over : Rows.rollFillsRow.holds Try.pinned (OpenSpec.ofChange Rows.rollFillsSpec) :=
  OpenClaim.holds_of_wide 10 Try.f10 rfl rfl rfl rfl rfl rfl rfl ⟨rfl, rfl, rfl, rfl, rfl⟩ rfl rfl rfl rfl rfl (by kernel_rfl) Try.func10 (by kernel_rfl)
    (of_decide_eq_true (by kernel_rfl)) (by unfold Func.isWrapper; first | (rw [if_pos (by decide +kernel)]; kernel_rfl) | (rw [if_neg (by decide +kernel)]; exact ⟨rfl, rfl⟩))
    (fun os started H enc _ => rfills_lifted os started H enc)

theorem rollFills_holds : Rows.RollFillsSaid := rfills_over
#print axioms rollFills_holds
end Go.Proofs.Ytffcglfepobdjaa
