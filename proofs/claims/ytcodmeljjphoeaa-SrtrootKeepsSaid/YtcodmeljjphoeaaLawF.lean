/-
  Of every number, shifted up, and its root behind any number of steps, layer 16's answer is the document's: 'SrtrootKeeps' returns true. No condition.
-/
import Derived.Test.YtcodmeljjphoeaaLawD
import Derived.Test.YtcodmeljjphoeaaLawKit
namespace Go.Proofs.Ytcodmeljjphoeaa
open Go.ChangeShapes Go.WideShapes Go.ChangeAt Go.RowKit
set_option linter.unusedVariables false
set_option linter.unusedSimpArgs false

set_option maxHeartbeats 400000 in
set_option maxRecDepth 100000 in
theorem SrtrootKeeps_lifted (os : Os) (started : os.Started) (H : Type) (enc : TypeId × Value → H) :
    ReturnsInHanded {} Try.checked os 5 .any (Rows.srtrootKeepsSpec.pre6 enc Try.prog Try.f5 Rows.srtrootKeepsRow.domain false) (Rows.srtrootKeepsSpec.post enc Try.prog Try.f5 false true false false) := by
  refine returnsInHanded_of_change (C := Try.checked) Try.own started (by kernel_rfl) Try.func5
    (ChangeSpec.witness6 (enc := enc) (C := Try.checked) false ⟨#[], #[W 0, .int .u8 0], []⟩ 8 (by kernel_rfl) (by kernel_rfl) (by kernel_rfl) (by kernel_rfl)) ?_
  intro W0 base args ds gs before hval0 hW _ _
  have hval : ∀ (j : Nat) t v, Try.f5.params[j]? = some t → args[j]? = some v → Value.okWide Try.prog W0 .any base t v := hval0
  have hW' := hW
  obtain ⟨p, q, hA0, hV, rfl, _, _⟩ := hW
  have hA : DataW.TrodAll enc Try.prog W0 0 (fun _ => true) true Try.f5.params.toList args.toList ds p := hA0
  rw [Try.params5] at hA hval
  obtain ⟨v0, v1, d0, d1, p0, p1, rfl, rfl, rfl, h0, h1⟩ := trodAll_two hA
  obtain ⟨rfl, rfl⟩ := trodVars_none hV
  obtain ⟨rfl, r0, n0, lo0, hi0, rfl⟩ := open_wide h0 (by
    have := hval 0 24 v0 rfl rfl
    simp [Value.okWide, Try.underlying24] at this
    obtain ⟨cs, e, hs, _⟩ := this
    exact ⟨cs, e, by rw [hs, Try.cellsWide]⟩)
  obtain ⟨rfl, r1, n1, lo1, rfl⟩ := open_num (k := .u8) Try.underlying5 h1 (by
    have := hval 1 5 v1 rfl rfl
    exact okWide_int Try.underlying5 this)
  clear hA0 hval0 h0 h1
  refine ((law_keeps n0 n1 lo0 hi0 lo1) W0 (by simp)).mono fun e W1 ⟨he, hb⟩ => ?_
  subst he
  exact ⟨_, rfl, law_post hW' hb rfl (by kernel_rfl) rfl rfl rfl (fun w b sp hd => by rw [Try.params5]; exact trodAll_mk2 (r0 w b sp hd) (r1 w b sp hd))⟩

theorem SrtrootKeeps_holds : Rows.SrtrootKeepsSaid :=
  OpenClaim.holds_of_wide 5 Try.f5 rfl rfl rfl rfl rfl rfl rfl ⟨rfl, rfl, rfl, rfl, rfl⟩ rfl rfl rfl rfl rfl (by kernel_rfl) Try.func5 (by kernel_rfl)
    (of_decide_eq_true (by kernel_rfl)) (by unfold Func.isWrapper; rw [if_neg (by decide +kernel)]; exact ⟨rfl, rfl⟩)
    (fun os started H enc _ => SrtrootKeeps_lifted os started H enc)

#print axioms SrtrootKeeps_holds
end Go.Proofs.Ytcodmeljjphoeaa
