/-
  The types of the program, as the laws on memory ask for them.
-/
import Derived.Test.YtcodmeljjphoeaaLimb
import Derived.Test.YtcodmeljjphoeaaDraw
namespace Go.Proofs.Ytcodmeljjphoeaa
open Go.RowKit
theorem agg_wide : Agg Try.prog 24 8 := .mk _ Try.underlying24 rfl (by kernel_rfl)
theorem zero_wide : Zero Try.prog 24 (limbs 8 0) := ⟨W 0, by kernel_rfl, rfl⟩
theorem one_int : One Try.prog 3 := .mk _ Try.underlying3 rfl (by kernel_rfl)
theorem zero_int : Zero Try.prog 3 #[.int .i64 0] := ⟨.int .i64 0, by kernel_rfl, rfl⟩
theorem one_u64 : One Try.prog 22 := .mk _ Try.underlying22 rfl (by kernel_rfl)
theorem zero_u64 : Zero Try.prog 22 #[.int .u64 0] := ⟨.int .u64 0, by kernel_rfl, rfl⟩
end Go.Proofs.Ytcodmeljjphoeaa
