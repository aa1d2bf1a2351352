/-
  Layer 2: powers of 2.
-/
import Derived.Test.YtcodmeljjphoeaaWideF
namespace Go.Proofs.Ytcodmeljjphoeaa
open Go.RowKit
set_option linter.unusedVariables false
set_option linter.unusedSimpArgs false

set_option maxRecDepth 10000 in
theorem power_gives (n : Nat) (hn : n < 512) : Gives Try.prog 84 #[.int .i64 n] [] (W (2 ^ n)) := by
  refine .mk fun w0 w hw => ?_
  have hst : (limbs 8 0).setIfInBounds (n / 64) (.int .u64 (IntKind.u64.wrap (2 ^ (n % 64)))) = limbs 8 (2 ^ n) := by
    have h1 := pow_lt64 (n % 64) (by omega)
    have h2 := pow_pos2 (n % 64)
    rw [wrap_u64, Int.emod_eq_of_lt (by omega) h1, limbs_pow2 _ _ (by omega) (by omega)]
    congr 2; omega
  go_enter Try.func84, Try.ntmps84
  go_wp2_with (first | (refine ok_alloc (H := []) hw rfl 24 rfl _ zero_wide ?_; clear hw; intro k1 w hw) | (refine ok_alloc (H := [_]) hw rfl 24 rfl _ zero_wide ?_; clear hw; intro k2 w hw) | (refine w_load hw rfl 24 _ rfl _ rfl agg_wide _ (by first | (apply Has.own; (repeat (first | assumption | exact List.mem_cons_self | apply List.mem_cons_of_mem)); done) | (apply Has.read; (repeat (first | assumption | exact List.mem_cons_self | apply List.mem_cons_of_mem)); done)) ?_) | (refine w_store hw rfl 24 _ _ rfl _ rfl _ rfl agg_wide _ (by repeat (first | exact At.head _ | apply At.tail)) ?_; clear hw; intro w hw) | (refine int_store hw rfl 22 _ _ rfl _ _ rfl _ _ rfl one_u64 _ (.head _) (by simp; omega) ?_; clear hw; intro w hw; rw [hst] at hw))
  refine ret_c rfl rfl agg_wide (hw.rows _ (.tail _ (.head _))) (by simp) rfl ⟨rfl, hw.below⟩
end Go.Proofs.Ytcodmeljjphoeaa
