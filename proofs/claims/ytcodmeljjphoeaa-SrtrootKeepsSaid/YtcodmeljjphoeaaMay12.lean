/-
  Has a number a root here?
-/
import Derived.Test.YtcodmeljjphoeaaBigL
namespace Go.Proofs.Ytcodmeljjphoeaa
open Go.RowKit
set_option linter.unusedVariables false
set_option linter.unusedSimpArgs false

set_option maxRecDepth 10000 in
theorem may12_gives (n : Int) (h0 : 0 ≤ n) (h1 : n < M) : Gives Try.prog 11 #[W n] [] (.bool (decide (n < 2 ^ 256))) := by
  refine .mk fun w0 w hw => ?_
  have hb := big_calls n h0 h1
  have hd : decide ((blen n : Int) ≤ 256) = decide (n < 2 ^ 256) := by
    rw [decide_eq_decide]
    by_cases hz : n = 0
    · subst hz
      have h2 := pow_pos2 256
      constructor
      · intro _; exact h2
      · intro _; rw [blen_zero (Int.le_refl 0)]; decide
    · rw [← blen_iff (show 0 < n by omega) 256]; omega
  have Hd := Lib.hid hd
  clear hd
  go_enter Try.func11, Try.ntmps11
  go_wp2_with (first | (refine w_box (H := []) hw rfl 24 _ rfl _ rfl ?_; clear hw; intro k1 w hw) | (refine w_load hw rfl 24 _ rfl _ rfl agg_wide _ (by first | (apply Has.own; (repeat (first | assumption | exact List.mem_cons_self | apply List.mem_cons_of_mem)); done) | (apply Has.read; (repeat (first | assumption | exact List.mem_cons_self | apply List.mem_cons_of_mem)); done)) ?_) | (go_at_call 21; refine hb.use hw (by simp) ?_; clear hw; intro w z L hz hf hw) | (go_at_call 42; refine (blen_gives hz).of hw (fun p hp => List.mem_append_left _ hp) ?_; clear hw; intro w hw))
  go_ret
  exact ⟨by rw [Hd.out]; rfl, hw.below⟩
end Go.Proofs.Ytcodmeljjphoeaa
