/-
  Of every number the digits that layer 16 finds are the document's: 'SrtrootDigits' returns true.
  No condition.
-/
import Derived.Test.YtcodmeljjphoeaaLawA
namespace Go.Proofs.Ytcodmeljjphoeaa
open Go.ChangeShapes Go.WideShapes Go.ChangeAt Go.RowKit
set_option linter.unusedVariables false
set_option linter.unusedSimpArgs false

set_option maxHeartbeats 400000 in
set_option maxRecDepth 100000 in
theorem digits_lifted (os : Os) (started : os.Started) (H : Type) (enc : TypeId × Value → H) :
    ReturnsInHanded {} Try.checked os 3 .any (Rows.srtrootDigitsSpec.pre6 enc Try.prog Try.f3 Rows.srtrootDigitsRow.domain false) (Rows.srtrootDigitsSpec.post enc Try.prog Try.f3 false true false false) := by
  refine returnsInHanded_of_change (C := Try.checked) Try.own started (by kernel_rfl) Try.func3
    (ChangeSpec.witness6 (enc := enc) (C := Try.checked) false ⟨#[], #[W 0], []⟩ 8 (by kernel_rfl) (by kernel_rfl) (by kernel_rfl) (by kernel_rfl)) ?_
  intro W0 base args ds gs before hval0 hW _ _
  have hval : ∀ (j : Nat) t v, Try.f3.params[j]? = some t → args[j]? = some v → Value.okWide Try.prog W0 .any base t v := hval0
  have hW' := hW
  obtain ⟨p, q, hA0, hV, rfl, _, _⟩ := hW
  have hA : DataW.TrodAll enc Try.prog W0 0 (fun _ => true) true Try.f3.params.toList args.toList ds p := hA0
  rw [Try.params3] at hA hval
  obtain ⟨v0, d0, rfl, rfl, h0⟩ := trodAll_one hA
  obtain ⟨rfl, rfl⟩ := trodVars_none hV
  obtain ⟨rfl, hp0, n, n0, n1, rfl⟩ := open_wide h0 (by
    have := hval 0 24 v0 rfl rfl
    simp [Value.okWide, Try.underlying24] at this
    obtain ⟨cs, e, hs, _⟩ := this
    exact ⟨cs, e, by rw [hs, Try.cellsWide]⟩)
  clear hA0 hval0 h0
  refine ((law_digits n n0 n1) W0 (by simp)).mono fun e W1 ⟨he, hb⟩ => ?_
  subst he
  exact ⟨_, rfl, law_post hW' hb rfl (by kernel_rfl) rfl rfl rfl (fun w b sp hd => by rw [Try.params3]; exact trodAll_mk1 (hp0 w b sp hd))⟩

theorem SrtrootDigits_holds : Rows.SrtrootDigitsSaid :=
  OpenClaim.holds_of_wide 3 Try.f3 rfl rfl rfl rfl rfl rfl rfl ⟨rfl, rfl, rfl, rfl, rfl⟩ rfl rfl rfl rfl rfl (by kernel_rfl) Try.func3 (by kernel_rfl)
    (of_decide_eq_true (by kernel_rfl)) (by unfold Func.isWrapper; rw [if_neg (by decide +kernel)]; exact ⟨rfl, rfl⟩)
    (fun os started H enc _ => digits_lifted os started H enc)

#print axioms SrtrootDigits_holds
end Go.Proofs.Ytcodmeljjphoeaa
