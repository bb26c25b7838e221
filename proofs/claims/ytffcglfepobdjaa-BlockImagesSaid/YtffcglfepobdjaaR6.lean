/- BlockImages: the given statement. -/
import Derived.Test.YtffcglfepobdjaaE0
import Derived.Test.YtffcglfepobdjaaH2
set_option linter.unusedVariables false
namespace Go.Proofs.Ytffcglfepobdjaa
open Go.ChangeShapes Go.WideShapes Go.ChangeAt Go.RowKit

theorem params8 : Try.f8.params = #[33] := rfl

set_option maxRecDepth 100000 in
theorem images_lifted (os : Os) (started : os.Started) (H : Type) (enc : TypeId × Value → H) :
    ReturnsInHanded {} Try.checked os 8 .any (Rows.blockImagesSpec.pre6 enc Try.prog Try.f8 Rows.blockImagesRow.domain false) (Rows.blockImagesSpec.post enc Try.prog Try.f8 false true false false) := by
  refine returnsInHanded_of_change (C := Try.checked) own_knob started (by kernel_rfl) Try.func8
    (ChangeSpec.witness6 (enc := enc) (C := Try.checked) false ⟨#[], #[.slice none 0 0], []⟩ 8 (by kernel_rfl) (by kernel_rfl) (by kernel_rfl) (by kernel_rfl)) ?_
  intro W base args ds gs before hval0 hW hcnd _
  have hval : ∀ (j : Nat) t v, Try.f8.params[j]? = some t → args[j]? = some v → Value.okWide Try.prog W .any base t v := hval0
  have hW' : DataW.Whole enc Try.prog Try.f8.params.toList Rows.blockImagesSpec.vars false W args.toList ds gs before := hW
  clear hval0 hW
  have hW0 := hW'
  obtain ⟨p, q, hA, hV, rfl, hz, -⟩ := hW'
  rw [params8] at hA hval
  obtain ⟨v0, vs0, d0, ds0, p0, q0, hargs, rfl, rfl, h0, r0⟩ := trodAll_cons hA
  obtain ⟨rfl, rfl, rfl⟩ := trodAll_nil r0
  obtain rfl : args = #[v0] := by cases args; simp_all
  obtain ⟨rfl, rfl⟩ := trodVars_none hV
  obtain ⟨A, c, b, rfl, hR, hn, hbc, hcm⟩ := open_bytes under33 (hval 0 33 v0 rfl rfl) h0
  refine Calls.mono (P := Try.prog) (images_calls W A c b hR hbc hcm) fun e W' ⟨he, hk⟩ => ?_
  subst he
  exact ⟨_, rfl, law_post hW0 rfl rfl (by rw [params8]; intro t ht; simp at ht; subst ht; exact ⟨by kernel_rfl, by decide +kernel⟩) rfl rfl rfl hk⟩

theorem images_over : Rows.blockImagesRow.holds Try.pinned (OpenSpec.ofChange Rows.blockImagesSpec) :=
  OpenClaim.holds_of_wide 8 Try.f8 rfl rfl rfl rfl rfl rfl rfl ⟨rfl, rfl, rfl, rfl, rfl⟩ rfl rfl rfl rfl rfl (by kernel_rfl) Try.func8 (by kernel_rfl)
    (of_decide_eq_true (by kernel_rfl)) (by unfold Func.isWrapper; first | (rw [if_pos (by decide +kernel)]; kernel_rfl) | (rw [if_neg (by decide +kernel)]; exact ⟨rfl, rfl⟩))
    (fun os started H enc _ => images_lifted os started H enc)

theorem blockImages_holds : Rows.BlockImagesSaid := images_over
#print axioms blockImages_holds
end Go.Proofs.Ytffcglfepobdjaa
