/-
  Of every two numbers, the quotient's digits are the document's: 'SrtDigits' returns true. The table's variable holds what the program's text lays there.
-/
import Derived.Test.YtcodmeljjphoeaaDoorSrtN
import Derived.Test.YtcodmeljjphoeaaDoorSrtK
import Derived.Test.YtcodmeljjphoeaaDoorLawKit
import Derived.Test.YtcodmeljjphoeaaDoorCards
import Derived.Test.YtcodmeljjphoeaaDoorTie
import Derived.SevenTiedAt
import Derived.ProofKit
namespace Go.Proofs.YtcodmeljjphoeaaDoor
open Go.ChangeShapes Go.WideShapes Go.ChangeAt Go.RowKit
set_option linter.unusedVariables false
set_option linter.unusedSimpArgs false

set_option maxHeartbeats 400000 in
set_option maxRecDepth 100000 in
theorem SrtDigits_lifted (os : Os) (started : os.Started) (H : Type) (enc : TypeId × Value → H) :
    ReturnsInHanded {} Tryd.checked os 4 .any (fun w args => (Rows.srtDigitsSpec.pre enc Tryd.prog Tryd.f4 [] false w args ∧ laidMetH Tryd.prog [("radicand/table.rows", Rows.laid_radicand_table_rows)] w) ∧ sizedMet enc Tryd.prog Tryd.f4 (OpenSpec.ofChange Rows.srtDigitsSpec) false w args)
      (Rows.srtDigitsSpec.post enc Tryd.prog Tryd.f4 false true false false) := by
  refine returnsInHanded_of_change_and (C := Tryd.checked) (X := fun w _ => laidMetH Tryd.prog [("radicand/table.rows", Rows.laid_radicand_table_rows)] w) (fun _ _ _ hh h => h.of_heap hh) Tryd.own started (by kernel_rfl) Tryd.func4
    (ChangeSpec.witness_shaped (enc := enc) (C := Tryd.checked) (os := os) (X := fun w _ => laidMetH Tryd.prog [("radicand/table.rows", Rows.laid_radicand_table_rows)] w) false (World.doorLaid Tryd.prog 400 os) #[W 0, W 0] 8 rfl (World.shaped_of_RefB (by kernel_rfl) (by kernel_rfl)) (by kernel_rfl) (by kernel_rfl) (by kernel_rfl) (door_met os _)) ?_
  intro W0 base args ds gs before hval0 hW _ _ hL _
  have hval : ∀ (j : Nat) t v, Tryd.f4.params[j]? = some t → args[j]? = some v → Value.okWide Tryd.prog W0 .any base t v := hval0
  have hW' := hW
  obtain ⟨p, q, hA0, hV, rfl, _, _⟩ := hW
  have hA : DataW.TrodAll enc Tryd.prog W0 0 (fun _ => true) true Tryd.f4.params.toList args.toList ds p := hA0
  rw [Tryd.params4] at hA hval
  obtain ⟨v0, v1, d0, d1, p0, p1, rfl, rfl, rfl, h0, h1⟩ := trodAll_two hA
  obtain ⟨rfl, rfl⟩ := trodVars_none hV
  obtain ⟨rfl, r0, n0, lo0, hi0, rfl⟩ := open_wide h0 (by
    have := hval 0 24 v0 rfl rfl
    simp [Value.okWide, Tryd.underlying24] at this
    obtain ⟨cs, e, hs, _⟩ := this
    exact ⟨cs, e, by rw [hs, Tryd.cellsWide]⟩)
  obtain ⟨rfl, r1, n1, lo1, hi1, rfl⟩ := open_wide h1 (by
    have := hval 1 24 v1 rfl rfl
    simp [Value.okWide, Tryd.underlying24] at this
    obtain ⟨cs, e, hs, _⟩ := this
    exact ⟨cs, e, by rw [hs, Tryd.cellsWide]⟩)
  clear hA0 hval0 h0 h1
  refine ((law15_digits n0 n1 lo0 hi0 lo1 hi1) W0 (tr_of_laid hL)).mono fun e W1 ⟨he, hb⟩ => ?_
  subst he
  exact ⟨_, rfl, law_post hW' hb rfl (by kernel_rfl) rfl rfl rfl (fun w b sp hd => by rw [Tryd.params4]; exact trodAll_mk2 (r0 w b sp hd) (r1 w b sp hd))⟩

theorem SrtDigits_holds : Rows.SrtDigitsSaid :=
  OpenClaim.holds_of_wide 4 Tryd.f4 rfl rfl rfl rfl rfl rfl rfl ⟨rfl, rfl, rfl, rfl, rfl⟩ rfl rfl rfl rfl rfl (by kernel_rfl) Tryd.func4 (by kernel_rfl)
    (of_decide_eq_true (by kernel_rfl)) (by unfold Func.isWrapper; rw [if_neg (by decide +kernel)]; exact ⟨rfl, rfl⟩)
    (fun os started H enc _ => SrtDigits_lifted os started H enc)

theorem SrtDigits_card : Rows.SrtDigitsCardSaid :=
  Claim7.holds_tied_plain_at .later [] [.data] true (true, "3e99c42790b836898fde4b8c37d6e5e63d47bdf8389b5c4cfb3ee20f31068c85") false
    SrtDigits_holds (fun _ h => by cases h) (by kernel_rfl) (fun _ h => by cases h) srtDigits_row_tie rfl ⟨rfl, rfl⟩ (by kernel_rfl) rfl
    (fun f fn hf hfn => by
      obtain rfl : f = 4 := Option.some.inj ((show Tryd.prog.funcNamed "radicand/radicandlaw15.SrtDigits" = some 4 by kernel_rfl).symm.trans hf) |>.symm
      obtain rfl : fn = Tryd.f4 := (Option.some.inj (Tryd.func4.symm.trans hfn)).symm
      exact ⟨by kernel_rfl, fun j t ht => by
        rw [Tryd.params4] at ht
        have hm : t ∈ [24, 24] := by simpa using Array.mem_of_getElem? ht
        have hall : ([24, 24].all fun u => !Tryd.prog.wantsStandIn u) = true := by kernel_rfl
        exact (show Tryd.prog.wantsStandIn t = false by simpa using List.all_eq_true.1 hall t hm)⟩)
    (by kernel_rfl)

#print axioms SrtDigits_card
end Go.Proofs.YtcodmeljjphoeaaDoor
