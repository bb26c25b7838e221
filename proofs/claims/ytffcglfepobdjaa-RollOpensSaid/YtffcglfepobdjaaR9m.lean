/- RollOpens: the given statement. -/
import Derived.Test.YtffcglfepobdjaaZ5
import Derived.Test.YtffcglfepobdjaaT1m
set_option linter.unusedVariables false
namespace Go.Proofs.Ytffcglfepobdjaa
open Go.ChangeShapes Go.WideShapes Go.ChangeAt Go.RowKit

theorem params12 : Try.f12.params = #[33] := rfl

set_option maxRecDepth 100000 in
theorem ropens_lifted (os : Os) (started : os.Started) (H : Type) (enc : TypeId × Value → H) :
    ReturnsInHanded {} Try.checked os 12 .any (Rows.rollOpensSpec.pre6 enc Try.prog Try.f12 Rows.rollOpensRow.domain false) (Rows.rollOpensSpec.post enc Try.prog Try.f12 false true false false) := by
  refine returnsInHanded_of_change (C := Try.checked) own_knob started (by kernel_rfl) Try.func12
    (ChangeSpec.witness6 (enc := enc) (C := Try.checked) false ⟨#[], #[.slice none 0 0], []⟩ 8 (by kernel_rfl) (by kernel_rfl) (by kernel_rfl) (by kernel_rfl)) ?_
  intro W base args ds gs before hval0 hW hcnd _
  have hval : ∀ (j : Nat) t v, Try.f12.params[j]? = some t → args[j]? = some v → Value.okWide Try.prog W .any base t v := hval0
  have hW' : DataW.Whole enc Try.prog Try.f12.params.toList Rows.rollOpensSpec.vars false W args.toList ds gs before := hW
  clear hval0 hW
  have hW0 := hW'
  obtain ⟨p, q, hA, hV, rfl, hz, -⟩ := hW'
  rw [params12] at hA hval
  obtain ⟨v0, vs0, d0, ds0, p0, q0, hargs, rfl, rfl, h0, r0⟩ := trodAll_cons hA
  obtain ⟨rfl, rfl, rfl⟩ := trodAll_nil r0
  obtain rfl : args = #[v0] := by cases args; simp_all
  obtain ⟨rfl, rfl⟩ := trodVars_none hV
  obtain ⟨A, c, b, rfl, hR, hn, hbc, hcm⟩ := open_bytes under33 (hval 0 33 v0 rfl rfl) h0
  refine Calls.mono (P := Try.prog) (ropens_calls W A c b hR hbc) fun e W' ⟨he, hk⟩ => ?_
  subst he
  exact ⟨_, rfl, law_post hW0 rfl rfl (by rw [params12]; intro t ht; simp at ht; subst ht; exact ⟨by kernel_rfl, by decide +kernel⟩) rfl rfl rfl hk⟩

theorem ropens_over : Rows.rollOpensRow.holds Try.pinned (OpenSpec.ofChange Rows.rollOpensSpec) :=
  OpenClaim.holds_of_wide 12 Try.f12 rfl rfl rfl rfl rfl rfl rfl ⟨rfl, rfl, rfl, rfl, rfl⟩ rfl rfl rfl rfl rfl (by kernel_rfl) Try.func12 (by kernel_rfl)
    (of_decide_eq_true (by kernel_rfl)) (by unfold Func.isWrapper; first | (rw [if_pos (by decide +kernel)]; kernel_rfl) | (rw [if_neg (by decide +kernel)]; exact ⟨rfl, rfl⟩))
    (fun os started H enc _ => ropens_lifted os started H enc)

theorem rollOpens_holds : Rows.RollOpensSaid := ropens_over
#print axioms rollOpens_holds
end Go.Proofs.Ytffcglfepobdjaa
