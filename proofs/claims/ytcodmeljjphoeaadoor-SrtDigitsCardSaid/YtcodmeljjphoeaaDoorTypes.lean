/-
  The types of the program, as the laws on memory ask for them.
-/
import Derived.Test.YtcodmeljjphoeaaDoorLimb
import Derived.Test.YtcodmeljjphoeaaDoorDraw
namespace Go.Proofs.YtcodmeljjphoeaaDoor
open Go.RowKit
theorem agg_wide : Agg Tryd.prog 24 8 := .mk _ Tryd.underlying24 rfl (by kernel_rfl)
theorem zero_wide : Zero Tryd.prog 24 (limbs 8 0) := ⟨W 0, by kernel_rfl, rfl⟩
theorem one_int : One Tryd.prog 3 := .mk _ Tryd.underlying3 rfl (by kernel_rfl)
theorem zero_int : Zero Tryd.prog 3 #[.int .i64 0] := ⟨.int .i64 0, by kernel_rfl, rfl⟩
theorem one_u64 : One Tryd.prog 22 := .mk _ Tryd.underlying22 rfl (by kernel_rfl)
theorem zero_u64 : Zero Tryd.prog 22 #[.int .u64 0] := ⟨.int .u64 0, by kernel_rfl, rfl⟩
end Go.Proofs.YtcodmeljjphoeaaDoor
