/-
  Layer 2: shifts up and down.
-/
import Derived.Test.YtcodmeljjphoeaaDoorWideA
namespace Go.Proofs.YtcodmeljjphoeaaDoor
open Go.RowKit
set_option linter.unusedVariables false
set_option linter.unusedSimpArgs false

theorem body_shl1 : HasBody Tryd.prog 75 := ⟨_, Tryd.func75, by kernel_rfl, by kernel_rfl⟩
theorem body_down1 : HasBody Tryd.prog 86 := ⟨_, Tryd.func86, by kernel_rfl, by kernel_rfl⟩

/-- By how much a number is shifted. -/
def clampv (n : Int) : Int := max 0 (min n 512)
theorem clampv_bd (n : Int) : 0 ≤ clampv n ∧ clampv n ≤ 512 := by unfold clampv; omega
theorem clampv_in {n : Int} (h : 0 ≤ n ∧ n ≤ 512) : clampv n = n := by unfold clampv; omega

theorem clamp_gives (n : Int) : Gives Tryd.prog 68 #[.int .i64 n] [] (.int .i64 (clampv n)) := by
  refine .mk fun w0 w hw => ?_
  go_enter Tryd.func68, Tryd.ntmps68
  go_wp2
  all_goals (go_ret; refine ⟨?_, hw.below⟩; refine congrArg (fun x => Ending.returned (Value.int .i64 x)) ?_; unfold clampv; omega)

set_option maxRecDepth 10000 in
set_option maxHeartbeats 400000 in
theorem shl_gives (z n : Int) : Gives Tryd.prog 45 #[W z, .int .i64 n] [] (W (z * 2 ^ (clampv n).toNat)) := by
  refine .mk fun w0 w hw => ?_
  go_enter Tryd.func45, Tryd.ntmps45
  have hb := clampv_bd n
  generalize hc : clampv n = c at *
  have hq : c / 64 = ((c / 64).toNat : Int) := by omega
  have hr : c % 64 = ((c % 64).toNat : Int) := by omega
  have e : c.toNat = 64 * (c / 64).toNat + (c % 64).toNat := by omega
  have hq8 : (c / 64).toNat ≤ 8 := by omega
  have hr64 : (c % 64).toNat < 64 := by omega
  rw [e]
  generalize hQ : (c / 64).toNat = q at *
  generalize hR : (c % 64).toNat = r at *
  have hcl := clamp_gives n
  rw [hc] at hcl
  go_wp2_with (first | (refine w_box (H := []) hw rfl 24 _ rfl _ rfl ?_; clear hw; intro k1 w hw) | (refine w_box (H := [_]) hw rfl 24 _ rfl _ rfl ?_; clear hw; intro k2 w hw) | (refine ok_alloc (H := []) hw rfl 24 rfl _ zero_wide ?_; clear hw; intro k1 w hw) | (refine ok_alloc (H := [_]) hw rfl 24 rfl _ zero_wide ?_; clear hw; intro k2 w hw) | (refine w_store hw rfl 24 _ _ rfl _ rfl _ rfl agg_wide _ (by repeat (first | exact At.head _ | apply At.tail)) ?_; clear hw; intro w hw) | (go_at_call 68; refine hcl.call0 hw ?_; clear hw; intro w hw) | (go_at_call 74; refine (made_gives (z * 2 ^ (64 * q + r)) _ _ [(k1, limbs 8 z), (w.heap.size, #[.int .i64 q]), (w.heap.size + 1, #[.int .i64 r])] body_shl1 (fun i hi => by simpa using shl1_gives z i q r k1 w.heap.size (w.heap.size + 1) hi hq8 hr64)).call (hw.new2 _ _ _ _) (by simp only [List.forall_mem_cons, List.not_mem_nil, false_implies, implies_true, and_true]; (repeat' (refine And.intro ?_ ?_)); all_goals (first | (refine Has.own ?_; (repeat (first | assumption | exact List.mem_cons_self | apply List.mem_cons_of_mem)); done) | (refine Has.read ?_; (repeat (first | assumption | exact List.mem_cons_self | apply List.mem_cons_of_mem)); done))) ?_; clear hw; intro w hw))
  refine ret_c rfl rfl agg_wide (hw.rows _ (.tail _ (.tail _ (.head _)))) (by simp) rfl ⟨rfl, hw.below⟩
end Go.Proofs.YtcodmeljjphoeaaDoor
