/- RollKeeps: the given statement, where what it reads is of bounded bulk. -/
import Derived.Test.YtffcglfepobdjaaX6
import Derived.Test.YtffcglfepobdjaaW6m
set_option linter.unusedVariables false
namespace Go.Proofs.Ytffcglfepobdjaa
open Go.ChangeShapes Go.WideShapes Go.ChangeAt Go.RowKit
theorem rkeeps_params : Try.f13.params = #[33, 82, 84] := rfl
set_option maxRecDepth 100000 in
theorem rkeeps_lifted (os : Os) (started : os.Started) (H : Type) (enc : TypeId × Value → H) (F : Stop.Interp) :
  ReturnsInHanded {} Try.checked os 13 .any ((Rows.OpenSpec.upto Rows.rollKeepsSpec).pre6 enc Try.prog Try.f13 Rows.rollKeepsUptoRow.domain false) (((Rows.OpenSpec.upto Rows.rollKeepsSpec).at F).post enc Try.prog Try.f13 false true false false) := by
 refine returnsInHanded_of_cond (C := Try.checked) (s := Rows.OpenSpec.upto Rows.rollKeepsSpec) (k := Rows.uptoSmall) rfl own_knob started (by kernel_rfl) Try.func13
  (OpenSpec.witness (enc := enc) (C := Try.checked) (s := Rows.OpenSpec.upto Rows.rollKeepsSpec) (k := Rows.uptoSmall) rfl false ⟨#[], #[.slice none 0 0, .slice none 0 0, .agg #[.int .i64 0, .slice none 0 0]], []⟩ 8 (by kernel_rfl) (by kernel_rfl) (by kernel_rfl)
   (x := ([.nil, .nil, .agg [.lit (.int .i64 0), .nil]], [], [])) (by kernel_rfl) rfl (by kernel_rfl)) ?_
 intro W base args ds gs before hval0 hW _ hk _
 have hval : ∀ (j : Nat) t v, Try.f13.params[j]? = some t → args[j]? = some v → Value.okWide Try.prog W .any base t v := hval0
 have hW' : DataW.Whole enc Try.prog Try.f13.params.toList Rows.rollKeepsSpec.vars false W args.toList ds gs before := hW
 clear hval0 hW
 have hW0 := hW'
 obtain ⟨p, q, hA, hV, rfl, hz, -⟩ := hW'
 rw [rkeeps_params] at hA hval
 obtain ⟨v0, vs0, d0, ds0, p0, q0, hargs, rfl, rfl, h0, r0⟩ := trodAll_cons hA
 obtain ⟨v1, vs1, d1, ds1, p1, q1, rfl, rfl, rfl, h1, r1⟩ := trodAll_cons r0
 obtain ⟨v2, vs2, d2, ds2, p2, q2, rfl, rfl, rfl, h2, r2⟩ := trodAll_cons r1
 obtain ⟨rfl, rfl, rfl⟩ := trodAll_nil r2
 obtain rfl : args = #[v0, v1, v2] := by cases args; simp_all
 obtain ⟨rfl, rfl⟩ := trodVars_none hV
 have hb := bulk_bound hk
 simp only [List.append_nil, Rows.uptoBulkAll] at hb
 obtain ⟨A0, c0, b0, rfl, hR0, hn0⟩ := open_im under33 (hval 0 33 v0 rfl rfl) h0
 obtain ⟨A1, c1, xs1, rfl, hS1, hsz1⟩ := open_rscript (hval 1 82 v1 rfl rfl) h1 (by omega)
 obtain ⟨z2, A2, c2, fs2, rfl, hR2, hfs2, hn2, hz2⟩ := open_crash (hval 2 84 v2 rfl rfl) h2
 refine Calls.mono (P := Try.prog) (rkeeps_calls W A0 c0 b0 hR0 (by omega) A1 c1 xs1 hS1 hsz1 z2 hz2 A2 c2 fs2 hR2 hfs2 (by omega)) fun e W' ⟨he, hk'⟩ => ?_
 subst he
 exact ⟨_, rfl, law_post hW0 rfl rfl (by rw [rkeeps_params]; intro t ht; simp at ht; rcases ht with rfl | rfl | rfl <;> exact ⟨by kernel_rfl, by decide +kernel⟩) rfl rfl rfl hk'⟩
theorem rkeeps_over : Rows.rollKeepsUptoRow.holds Try.pinned (Rows.OpenSpec.upto Rows.rollKeepsSpec) :=
 OpenClaim.holds_of_cond 13 Try.f13 rfl rfl rfl rfl rfl rfl rfl ⟨rfl, rfl, rfl, rfl, rfl⟩ rfl rfl rfl rfl rfl (by kernel_rfl) Try.func13 (by kernel_rfl)
  (of_decide_eq_true (by kernel_rfl)) (by unfold Func.isWrapper; first | (rw [if_pos (by decide +kernel)]; kernel_rfl) | (rw [if_neg (by decide +kernel)]; exact ⟨rfl, rfl⟩))
  (fun os started H enc _ F => rkeeps_lifted os started H enc F)
theorem rollKeeps_holds : Rows.RollKeepsUptoSaid := rkeeps_over
#print axioms rollKeeps_holds
end Go.Proofs.Ytffcglfepobdjaa
