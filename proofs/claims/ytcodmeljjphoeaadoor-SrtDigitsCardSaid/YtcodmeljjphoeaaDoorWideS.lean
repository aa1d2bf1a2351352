/-
  Layer 2: digits, signs; shifted down with a sign.
-/
import Derived.Test.YtcodmeljjphoeaaDoorWideD
namespace Go.Proofs.YtcodmeljjphoeaaDoor
open Go.RowKit
set_option exponentiation.threshold 600
set_option linter.unusedVariables false
set_option linter.unusedSimpArgs false

set_option maxRecDepth 10000 in
theorem limbbit_gives (z : Int) (k i : Nat) (hi : i < 512) : Gives Tryd.prog 84 #[.slice (some ⟨k, 0, none⟩) 8 8, .int .i64 i] [(k, limbs 8 z)] (.bool (decide (z / 2 ^ i % 2 = 1))) := by
  refine .mk fun w0 w hw => ?_
  have hat := limbat_gives z 8 8 8 k ((i : Int) / 64) (by omega)
  have e : latv z 8 ((i : Int) / 64) = lim z (i / 64) := latv_in z 8 (i / 64) (by omega)
  rw [e] at hat
  go_enter Tryd.func84, Tryd.ntmps84
  go_wp2_with (first | (go_at_call 90; refine hat.call hw (by simp only [List.forall_mem_cons, List.not_mem_nil, false_implies, implies_true, and_true]; (repeat' (refine And.intro ?_ ?_)); all_goals (first | (refine Has.own ?_; (repeat (first | assumption | exact List.mem_cons_self | apply List.mem_cons_of_mem)); done) | (refine Has.read ?_; (repeat (first | assumption | exact List.mem_cons_self | apply List.mem_cons_of_mem)); done))) ?_; clear hw; intro w hw))
  go_ret
  have hp := pow_pos2 (i % 64)
  have hl := lim_bd z (i / 64)
  have h0 : 0 ≤ lim z (i / 64) / 2 ^ (i % 64) := Int.ediv_nonneg hl.1 (by omega)
  have h1 : lim z (i / 64) / 2 ^ (i % 64) ≤ lim z (i / 64) := Int.ediv_le_self _ hl.1
  rw [and_one _ h0 (by omega), lim_bit]
  exact ⟨rfl, hw.below⟩

theorem bit_gives (z : Int) (i : Nat) (hi : i < 512) : Gives Tryd.prog 66 #[W z, .int .i64 i] [] (.bool (decide (z / 2 ^ i % 2 = 1))) := by
  refine .mk fun w0 w hw => ?_
  go_enter Tryd.func66, Tryd.ntmps66
  go_wp2_with (first | (refine w_box (H := []) hw rfl 24 _ rfl _ rfl ?_; clear hw; intro k1 w hw) | (go_at_call 84; refine (limbbit_gives z _ i hi).call hw (by simp only [List.forall_mem_cons, List.not_mem_nil, false_implies, implies_true, and_true]; (repeat' (refine And.intro ?_ ?_)); all_goals (first | (refine Has.own ?_; (repeat (first | assumption | exact List.mem_cons_self | apply List.mem_cons_of_mem)); done) | (refine Has.read ?_; (repeat (first | assumption | exact List.mem_cons_self | apply List.mem_cons_of_mem)); done))) ?_; clear hw; intro w hw))
  go_ret
  exact ⟨rfl, hw.below⟩

/-- 2^511. -/
def HM : Int := 2 ^ 511
theorem HM_pos : 0 < HM := pow_pos2 511
theorem M_eq : M = HM * 2 := by
  unfold M HM; rw [show 64 * 8 = 511 + 1 by rfl, Int.pow_add]; rfl
/-- The sign of a number of 512 bits. -/
def minusv (z : Int) : Bool := decide (HM ≤ z % M)
theorem minusv_bit' (z : Int) : decide (z / HM % 2 = 1) = minusv z := by
  have hp := HM_pos
  have h := emod_mul' z HM 2 hp (by omega)
  have b0 := Int.emod_nonneg z (show HM ≠ 0 by omega)
  have b1 := Int.emod_lt_of_pos z hp
  unfold minusv
  rw [M_eq, h]
  have : z / HM % 2 = 0 ∨ z / HM % 2 = 1 := by omega
  rcases this with h | h <;> rw [h] <;> simp <;> omega
theorem minusv_bit (z : Int) : decide (z / 2 ^ 511 % 2 = 1) = minusv z := minusv_bit' z
theorem minusv_in {z : Int} (h0 : -HM ≤ z) (h1 : z < HM) : minusv z = decide (z < 0) := by
  have hp := HM_pos
  have hM := M_eq
  unfold minusv
  by_cases h : z < 0
  · have : z % M = z + M := by
      rw [show z = (z + M) + M * (-1) by omega, Int.add_mul_emod_self_left, Int.emod_eq_of_lt (by omega) (by omega)]
      omega
    rw [this]; simp [h]; omega
  · rw [Int.emod_eq_of_lt (by omega) (by omega)]; simp; omega
theorem minus_gives (z : Int) : Gives Tryd.prog 32 #[W z] [] (.bool (minusv z)) := by
  refine .mk fun w0 w hw => ?_
  rw [← minusv_bit]
  go_enter Tryd.func32, Tryd.ntmps32
  go_wp2_with (first | (refine w_box (H := []) hw rfl 24 _ rfl _ rfl ?_; clear hw; intro k1 w hw) | (refine w_load hw rfl 24 _ rfl _ rfl agg_wide _ (by first | (apply Has.own; (repeat (first | assumption | exact List.mem_cons_self | apply List.mem_cons_of_mem)); done) | (apply Has.read; (repeat (first | assumption | exact List.mem_cons_self | apply List.mem_cons_of_mem)); done)) ?_) | (go_at_call 66; refine (bit_gives z 511 (by omega)).call0 hw ?_; clear hw; intro w hw))
  go_ret
  exact ⟨rfl, hw.below⟩

set_option maxRecDepth 100000 in
set_option maxHeartbeats 400000 in
theorem sar_gives (z n : Int) (h0 : -HM ≤ z) (h1 : z < HM) (hn : 0 ≤ n ∧ n ≤ 512) :
    Gives Tryd.prog 62 #[W z, .int .i64 n] [] (W (z / 2 ^ n.toNat)) := by
  refine .mk fun w0 w hw => ?_
  have hcl := clamp_gives n
  rw [clampv_in hn] at hcl
  have hmi := minus_gives z
  rw [minusv_in h0 h1] at hmi
  have hM := M_eq
  have hHM := HM_pos
  by_cases h : z < 0
  · have hdn := down_gives z 18446744073709551615 n hn (by omega) (by omega) (lim_highm (by omega) h)
    rw [decide_eq_true h] at hmi
    go_enter Tryd.func62, Tryd.ntmps62
    go_wp2_with (first | (refine w_box (H := []) hw rfl 24 _ rfl _ rfl ?_; clear hw; intro k1 w hw) | (refine ok_alloc (H := []) hw rfl 24 rfl _ zero_wide ?_; clear hw; intro k1 w hw) | (refine ok_alloc (H := [_]) hw rfl 24 rfl _ zero_wide ?_; clear hw; intro k2 w hw) | (refine ok_alloc (H := [_, _]) hw rfl 24 rfl _ zero_wide ?_; clear hw; intro k3 w hw) | (refine w_load hw rfl 24 _ rfl _ rfl agg_wide _ (by first | (apply Has.own; (repeat (first | assumption | exact List.mem_cons_self | apply List.mem_cons_of_mem)); done) | (apply Has.read; (repeat (first | assumption | exact List.mem_cons_self | apply List.mem_cons_of_mem)); done)) ?_) | (refine w_store hw rfl 24 _ _ rfl _ rfl _ rfl agg_wide _ (by repeat (first | exact At.head _ | apply At.tail)) ?_; clear hw; intro w hw) | (go_at_call 32; refine hmi.call0 hw ?_; clear hw; intro w hw))
    try simp only [Act.put, List.setIfInBounds_toArray, List.set_cons_succ, List.set_cons_zero]
    refine wp_region_draws [⟨[(2, none)], none, false, false⟩, ⟨[(1, none)], none, false, false⟩, ⟨[(8, some 1)], none, false, false⟩, ⟨[(7, some 0), (9, some 2)], none, false, false⟩] 15 (fun w => Ok Non w0 w [(k2, limbs 8 0), (k1, limbs 8 z)] []) (by kernel_rfl) rfl (by kernel_rfl) (hw.grow (below_drew' _)) (fun _ _ h hb => h.grow hb) (fun _ _ _ _ h => h) ?_
    clear hw
    refine ⟨_, stable_is _, ask_run rfl rfl rfl (fun a w hw hk => run_load_w rfl (eval_of (known_old hk 2 (.head _) rfl)) agg_wide (hw.has (by first | (apply Has.own; (repeat (first | assumption | exact List.mem_cons_self | apply List.mem_cons_of_mem)); done) | (apply Has.read; (repeat (first | assumption | exact List.mem_cons_self | apply List.mem_cons_of_mem)); done)))), ?_⟩
    refine ⟨_, stable_is _, ask_run rfl rfl rfl (fun a w hw hk => run_move rfl (eval_of (known_old hk 1 (.head _) (by simp only [List.getElem?_toArray, List.getElem?_cons_zero, List.getElem?_cons_succ, Option.getD_some]; rfl)))), ?_⟩
    refine ⟨_, stable_is _, ask_gives rfl rfl rfl (fun a w hw hk => run_call1 rfl ⟨_, Tryd.func68, by kernel_rfl, by kernel_rfl⟩ (eval_of (known_op hk 8 1 0 (.head _) rfl rfl)))
    hcl (fun w hw => by simp), ?_⟩
    refine ⟨_, stable_is _, ask_gives rfl rfl rfl (fun a w hw hk => run_call3 rfl ⟨_, Tryd.func69, by kernel_rfl, by kernel_rfl⟩ (eval_of (known_op hk 7 0 2 (.head _) rfl rfl)) (eval_of (known_op hk 9 2 0 (.tail _ (.head _)) rfl rfl)) rfl)
    hdn (fun w hw => by simp), ?_⟩
    intro w hw
    rintro _ rfl
    rintro _ rfl
    rintro _ rfl
    rintro _ rfl
    change wpList _ _ _ _ _ _
    simp only [List.length_cons, List.length_nil, Nat.reduceAdd, Nat.zero_add, List.drop_succ_cons, List.drop_zero, Act.put, List.setIfInBounds_toArray, List.set_cons_succ, List.set_cons_zero]
    go_wp2_with (first | (refine w_store hw rfl 24 _ _ rfl _ rfl _ rfl agg_wide _ (by repeat (first | exact At.head _ | apply At.tail)) ?_; clear hw; intro w hw))
    refine ret_c rfl rfl agg_wide (hw.rows _ (.head _)) (by simp) rfl ⟨rfl, hw.below⟩
  · have hdn := down_gives z 0 n hn (by omega) (by omega) (lim_high0 (by omega) (by omega))
    rw [decide_eq_false h] at hmi
    go_enter Tryd.func62, Tryd.ntmps62
    go_wp2_with (first | (refine w_box (H := []) hw rfl 24 _ rfl _ rfl ?_; clear hw; intro k1 w hw) | (refine ok_alloc (H := []) hw rfl 24 rfl _ zero_wide ?_; clear hw; intro k1 w hw) | (refine ok_alloc (H := [_]) hw rfl 24 rfl _ zero_wide ?_; clear hw; intro k2 w hw) | (refine ok_alloc (H := [_, _]) hw rfl 24 rfl _ zero_wide ?_; clear hw; intro k3 w hw) | (refine w_load hw rfl 24 _ rfl _ rfl agg_wide _ (by first | (apply Has.own; (repeat (first | assumption | exact List.mem_cons_self | apply List.mem_cons_of_mem)); done) | (apply Has.read; (repeat (first | assumption | exact List.mem_cons_self | apply List.mem_cons_of_mem)); done)) ?_) | (refine w_store hw rfl 24 _ _ rfl _ rfl _ rfl agg_wide _ (by repeat (first | exact At.head _ | apply At.tail)) ?_; clear hw; intro w hw) | (go_at_call 32; refine hmi.call0 hw ?_; clear hw; intro w hw))
    try simp only [Act.put, List.setIfInBounds_toArray, List.set_cons_succ, List.set_cons_zero]
    refine wp_region_draws [⟨[(2, none)], none, false, false⟩, ⟨[(1, none)], none, false, false⟩, ⟨[(12, some 1)], none, false, false⟩, ⟨[(11, some 0), (13, some 2)], none, false, false⟩] 15 (fun w => Ok Non w0 w [(k2, limbs 8 0), (k1, limbs 8 z)] []) (by kernel_rfl) rfl (by kernel_rfl) (hw.grow (below_drew' _)) (fun _ _ h hb => h.grow hb) (fun _ _ _ _ h => h) ?_
    clear hw
    refine ⟨_, stable_is _, ask_run rfl rfl rfl (fun a w hw hk => run_load_w rfl (eval_of (known_old hk 2 (.head _) rfl)) agg_wide (hw.has (by first | (apply Has.own; (repeat (first | assumption | exact List.mem_cons_self | apply List.mem_cons_of_mem)); done) | (apply Has.read; (repeat (first | assumption | exact List.mem_cons_self | apply List.mem_cons_of_mem)); done)))), ?_⟩
    refine ⟨_, stable_is _, ask_run rfl rfl rfl (fun a w hw hk => run_move rfl (eval_of (known_old hk 1 (.head _) (by simp only [List.getElem?_toArray, List.getElem?_cons_zero, List.getElem?_cons_succ, Option.getD_some]; rfl)))), ?_⟩
    refine ⟨_, stable_is _, ask_gives rfl rfl rfl (fun a w hw hk => run_call1 rfl ⟨_, Tryd.func68, by kernel_rfl, by kernel_rfl⟩ (eval_of (known_op hk 12 1 0 (.head _) rfl rfl)))
    hcl (fun w hw => by simp), ?_⟩
    refine ⟨_, stable_is _, ask_gives rfl rfl rfl (fun a w hw hk => run_call3 rfl ⟨_, Tryd.func69, by kernel_rfl, by kernel_rfl⟩ (eval_of (known_op hk 11 0 2 (.head _) rfl rfl)) (eval_of (known_op hk 13 2 0 (.tail _ (.head _)) rfl rfl)) rfl)
    hdn (fun w hw => by simp), ?_⟩
    intro w hw
    rintro _ rfl
    rintro _ rfl
    rintro _ rfl
    rintro _ rfl
    change wpList _ _ _ _ _ _
    simp only [List.length_cons, List.length_nil, Nat.reduceAdd, Nat.zero_add, List.drop_succ_cons, List.drop_zero, Act.put, List.setIfInBounds_toArray, List.set_cons_succ, List.set_cons_zero]
    go_wp2_with (first | (refine w_store hw rfl 24 _ _ rfl _ rfl _ rfl agg_wide _ (by repeat (first | exact At.head _ | apply At.tail)) ?_; clear hw; intro w hw))
    refine ret_c rfl rfl agg_wide (hw.rows _ (.head _)) (by simp) rfl ⟨rfl, hw.below⟩
end Go.Proofs.YtcodmeljjphoeaaDoor
