/- RollStages: the given statement. -/
import Derived.Test.YtffcglfepobdjaaE3m
import Derived.Test.YtffcglfepobdjaaT3m
set_option linter.unusedVariables false
namespace Go.Proofs.Ytffcglfepobdjaa
open Go.ChangeShapes Go.WideShapes Go.ChangeAt Go.RowKit

theorem params11 : Try.f11.params = #[3, 63, 4] := rfl

set_option maxRecDepth 100000 in
theorem rstages_lifted (os : Os) (started : os.Started) (H : Type) (enc : TypeId × Value → H) :
    ReturnsInHanded {} Try.checked os 11 .any (Rows.rollStagesSpec.pre6 enc Try.prog Try.f11 Rows.rollStagesRow.domain false) (Rows.rollStagesSpec.post enc Try.prog Try.f11 false true false false) := by
  refine returnsInHanded_of_change (C := Try.checked) own_knob started (by kernel_rfl) Try.func11
    (ChangeSpec.witness6 (enc := enc) (C := Try.checked) false ⟨#[], #[.int .i64 0, .slice none 0 0, .bool false], []⟩ 8 (by kernel_rfl) (by kernel_rfl) (by kernel_rfl) (by kernel_rfl)) ?_
  intro W base args ds gs before hval0 hW hcnd _
  have hval : ∀ (j : Nat) t v, Try.f11.params[j]? = some t → args[j]? = some v → Value.okWide Try.prog W .any base t v := hval0
  have hW' : DataW.Whole enc Try.prog Try.f11.params.toList Rows.rollStagesSpec.vars false W args.toList ds gs before := hW
  clear hval0 hW
  have hW0 := hW'
  obtain ⟨p, q, hA, hV, rfl, hz, -⟩ := hW'
  rw [params11] at hA hval
  obtain ⟨v0, vs0, d0, ds0, p0, q0, hargs, rfl, rfl, h0, r0⟩ := trodAll_cons hA
  obtain ⟨v1, vs1, d1, ds1, p1, q1, rfl, rfl, rfl, h1, r1⟩ := trodAll_cons r0
  obtain ⟨v2, vs2, d2, ds2, p2, q2, rfl, rfl, rfl, h2, r2⟩ := trodAll_cons r1
  obtain ⟨rfl, rfl, rfl⟩ := trodAll_nil r2
  obtain rfl : args = #[v0, v1, v2] := by cases args; simp_all
  obtain ⟨rfl, rfl⟩ := trodVars_none hV
  obtain ⟨a0, rfl, rfl, rfl, w0⟩ := open_int under3 (hval 0 3 v0 rfl rfl) h0
  obtain ⟨A1, c1, l1, rfl, hR1, hn1, hm1, -⟩ := open_recs under63 (hval 1 63 v1 rfl rfl) h1
  obtain ⟨b2, rfl, rfl, rfl⟩ := open_bool under4 (hval 2 4 v2 rfl rfl) h2
  refine Calls.mono (P := Try.prog) (rstages_calls W a0 A1 c1 l1 hR1 (by unfold maxLen at hm1; omega) b2) fun e W' ⟨he, hk⟩ => ?_
  subst he
  exact ⟨_, rfl, law_post hW0 rfl rfl (by rw [params11]; intro t ht; simp at ht; rcases ht with rfl | rfl | rfl <;> exact ⟨by kernel_rfl, by decide +kernel⟩) rfl rfl rfl hk⟩

theorem rstages_over : Rows.rollStagesRow.holds Try.pinned (OpenSpec.ofChange Rows.rollStagesSpec) :=
  OpenClaim.holds_of_wide 11 Try.f11 rfl rfl rfl rfl rfl rfl rfl ⟨rfl, rfl, rfl, rfl, rfl⟩ rfl rfl rfl rfl rfl (by kernel_rfl) Try.func11 (by kernel_rfl)
    (of_decide_eq_true (by kernel_rfl)) (by unfold Func.isWrapper; first | (rw [if_pos (by decide +kernel)]; kernel_rfl) | (rw [if_neg (by decide +kernel)]; exact ⟨rfl, rfl⟩))
    (fun os started H enc _ => rstages_lifted os started H enc)

theorem rollStages_holds : Rows.RollStagesSaid := rstages_over
#print axioms rollStages_holds
end Go.Proofs.Ytffcglfepobdjaa
