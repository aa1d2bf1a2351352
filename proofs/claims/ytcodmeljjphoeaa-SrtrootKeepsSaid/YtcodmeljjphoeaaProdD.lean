/-
  Layer 3: squares.
-/
import Derived.Test.YtcodmeljjphoeaaProdC
namespace Go.Proofs.Ytcodmeljjphoeaa
open Go.RowKit
set_option linter.unusedVariables false
set_option linter.unusedSimpArgs false

theorem square_gives (x : Int) (hx0 : 0 ≤ x) (hx1 : x < M) : Gives Try.prog 59 #[W x] [] (.tuple #[W (x * x), .bool (decide (x * x < M))]) := by
  refine .mk fun w0 w hw => ?_
  have hm := mul_gives x x hx0 hx1 hx0 hx1
  go_enter Try.func59, Try.ntmps59
  go_wp2_with (first | (refine w_box (H := []) hw rfl 24 _ rfl _ rfl ?_; clear hw; intro k1 w hw) | (refine ok_alloc (H := []) hw rfl 24 rfl _ zero_wide ?_; clear hw; intro k1 w hw) | (refine ok_alloc (H := [_]) hw rfl 24 rfl _ zero_wide ?_; clear hw; intro k2 w hw) | (refine w_load hw rfl 24 _ rfl _ rfl agg_wide _ (by first | (apply Has.own; (repeat (first | assumption | exact List.mem_cons_self | apply List.mem_cons_of_mem)); done) | (apply Has.read; (repeat (first | assumption | exact List.mem_cons_self | apply List.mem_cons_of_mem)); done)) ?_) | (refine w_store hw rfl 24 _ _ rfl _ rfl _ rfl agg_wide _ (by repeat (first | exact At.head _ | apply At.tail)) ?_; clear hw; intro w hw) | (go_at_call 97; refine hm.call0 hw ?_; clear hw; intro w hw))
  refine ret_ct rfl rfl rfl agg_wide (hw.rows _ (.head _)) (by simp) rfl ⟨rfl, hw.below⟩

end Go.Proofs.Ytcodmeljjphoeaa
