/-
  Layer 2: sums and differences.
-/
import Derived.Test.YtcodmeljjphoeaaDoorWideB
import Derived.Test.YtcodmeljjphoeaaDoorBits
namespace Go.Proofs.YtcodmeljjphoeaaDoor
open Go.RowKit
set_option exponentiation.threshold 600
set_option linter.unusedVariables false
set_option linter.unusedSimpArgs false

theorem body_ladd : HasBody Tryd.prog 67 := ⟨_, Tryd.func67, by kernel_rfl, by kernel_rfl⟩
theorem body_lsub : HasBody Tryd.prog 59 := ⟨_, Tryd.func59, by kernel_rfl, by kernel_rfl⟩

set_option maxRecDepth 100000 in
set_option maxHeartbeats 400000 in
theorem both_gives (x y r : Int) (c : Nat → Int) (f : FuncId) (hf : HasBody Tryd.prog f) (hc0 : c 0 = 0) (hc : ∀ i : Nat, i < 8 → Gives Tryd.prog f #[.int .u64 (lim x i), .int .u64 (lim y i), .int .u64 (c i)] [] (.tuple #[.int .u64 (lim r i), .int .u64 (c (i + 1))])) :
    Gives Tryd.prog 58 #[W x, W y, .func (.func f) #[] #[]] [] (.tuple #[W r, .bool (c 8 != 0)]) := by
  refine .mk fun w0 w hw => ?_
  have Hc := Lib.hid hc
  clear hc
  go_enter Tryd.func58, Tryd.ntmps58
  go_wp2_with (first | (refine w_box (H := []) hw rfl 24 _ rfl _ rfl ?_; clear hw; intro k1 w hw) | (refine w_box (H := [_]) hw rfl 24 _ rfl _ rfl ?_; clear hw; intro k2 w hw) | (refine ok_alloc (H := []) hw rfl 24 rfl _ zero_wide ?_; clear hw; intro k1 w hw) | (refine ok_alloc (H := [_]) hw rfl 24 rfl _ zero_wide ?_; clear hw; intro k2 w hw) | (refine ok_alloc (H := [_, _]) hw rfl 24 rfl _ zero_wide ?_; clear hw; intro k3 w hw) | (refine ok_alloc (H := [_, _, _]) hw rfl 24 rfl _ zero_wide ?_; clear hw; intro k4 w hw))
  go_loopw [11, 9] (fun v u wr => ∃ i : Nat, i ≤ 8 ∧ v = .int .i64 i ∧ u = .int .u64 (c i) ∧ Ok Non w0 wr [(k4, limbs 8 (r % 2 ^ (64 * i))), (k3, limbs 8 0), (k2, limbs 8 y), (k1, limbs 8 x)] []) (fun v _ _ => 8 - (intOf v).toNat)
  case atStart => exact ⟨0, by omega, rfl, by rw [hc0], by rw [show r % 2 ^ (64 * 0) = 0 by simp [Int.emod_one]]; exact hw⟩
  case round =>
    clear hw
    obtain ⟨i, hi, rfl, rfl, hw⟩ := hrel
    by_cases hlt : i < 8
    · have Hci := Hc.out i hlt
      go_wp2_with fail
      try simp only [Act.put, List.setIfInBounds_toArray, List.set_cons_succ, List.set_cons_zero]
      refine wp_region_draws [⟨[(10, none)], none, false, false⟩, ⟨[(2, none)], none, false, false⟩, ⟨[(10, none)], none, false, false⟩, ⟨[(3, none), (17, some 2)], none, false, false⟩, ⟨[(18, some 3)], none, false, false⟩, ⟨[(10, none)], none, false, false⟩, ⟨[(4, none), (20, some 5)], none, false, false⟩, ⟨[(21, some 6)], none, false, false⟩, ⟨[(9, none)], none, false, false⟩, ⟨[(16, some 1), (19, some 4), (22, some 7), (23, some 8)], none, false, false⟩, ⟨[(24, some 9)], none, false, false⟩, ⟨[(14, some 10)], none, false, false⟩, ⟨[(14, some 10)], none, true, false⟩, ⟨[(8, none), (15, some 0)], none, false, false⟩] 32 (fun w => Ok Non w0 w [(k4, limbs 8 (r % 2 ^ (64 * i))), (k3, limbs 8 0), (k2, limbs 8 y), (k1, limbs 8 x)] []) (by kernel_rfl) rfl (by kernel_rfl) (hw.grow (below_drew' _)) (fun _ _ h hb => h.grow hb) (fun _ _ _ _ h => h) ?_
      clear hw
      refine ⟨_, stable_is _, ask_run rfl rfl rfl (fun a w hw hk => run_move rfl (eval_of (known_old hk 10 (.head _) (by simp only [List.getElem?_toArray, List.getElem?_cons_zero, List.getElem?_cons_succ, Option.getD_some]; rfl)))), ?_⟩
      refine ⟨_, stable_is _, ask_run rfl rfl rfl (fun a w hw hk => run_move rfl (eval_of (known_old hk 2 (.head _) (by simp only [List.getElem?_toArray, List.getElem?_cons_zero, List.getElem?_cons_succ, Option.getD_some]; rfl)))), ?_⟩
      refine ⟨_, stable_is _, ask_run rfl rfl rfl (fun a w hw hk => run_move rfl (eval_of (known_old hk 10 (.head _) (by simp only [List.getElem?_toArray, List.getElem?_cons_zero, List.getElem?_cons_succ, Option.getD_some]; rfl)))), ?_⟩
      refine ⟨_, stable_is _, ask_run rfl rfl rfl (fun a w hw hk => run_indexAddr rfl Tryd.underlying24 (by kernel_rfl) (eval_of (known_old hk 3 (.head _) rfl)) (eval_of (known_op hk 17 2 0 (.tail _ (.head _)) rfl rfl)) (by omega) (by omega)), ?_⟩
      refine ⟨_, stable_is _, ask_run rfl rfl rfl (fun a w hw hk => run_load_c rfl (eval_of (known_op hk 18 3 0 (.head _) rfl rfl)) one_u64 (hw.has (by first | (apply Has.own; (repeat (first | assumption | exact List.mem_cons_self | apply List.mem_cons_of_mem)); done) | (apply Has.read; (repeat (first | assumption | exact List.mem_cons_self | apply List.mem_cons_of_mem)); done))) (limbs_get _ hlt)), ?_⟩
      refine ⟨_, stable_is _, ask_run rfl rfl rfl (fun a w hw hk => run_move rfl (eval_of (known_old hk 10 (.head _) (by simp only [List.getElem?_toArray, List.getElem?_cons_zero, List.getElem?_cons_succ, Option.getD_some]; rfl)))), ?_⟩
      refine ⟨_, stable_is _, ask_run rfl rfl rfl (fun a w hw hk => run_indexAddr rfl Tryd.underlying24 (by kernel_rfl) (eval_of (known_old hk 4 (.head _) rfl)) (eval_of (known_op hk 20 5 0 (.tail _ (.head _)) rfl rfl)) (by omega) (by omega)), ?_⟩
      refine ⟨_, stable_is _, ask_run rfl rfl rfl (fun a w hw hk => run_load_c rfl (eval_of (known_op hk 21 6 0 (.head _) rfl rfl)) one_u64 (hw.has (by first | (apply Has.own; (repeat (first | assumption | exact List.mem_cons_self | apply List.mem_cons_of_mem)); done) | (apply Has.read; (repeat (first | assumption | exact List.mem_cons_self | apply List.mem_cons_of_mem)); done))) (limbs_get _ hlt)), ?_⟩
      refine ⟨_, stable_is _, ask_run rfl rfl rfl (fun a w hw hk => run_move rfl (eval_of (known_old hk 9 (.head _) (by simp only [List.getElem?_toArray, List.getElem?_cons_zero, List.getElem?_cons_succ, Option.getD_some]; rfl)))), ?_⟩
      refine ⟨_, stable_is _, ask_gives rfl rfl rfl (fun a w hw hk => run_callc3 rfl hf (eval_of (known_op hk 16 1 7 (.head _) rfl rfl)) (eval_of (known_op hk 19 4 4 (.tail _ (.head _)) rfl rfl)) (eval_of (known_op hk 22 7 1 (.tail _ (.tail _ (.head _))) rfl rfl)) (eval_of (known_op hk 23 8 0 (.tail _ (.tail _ (.tail _ (.head _)))) rfl rfl)))
    Hci (fun w hw => by simp), ?_⟩
      refine ⟨_, stable_is _, ask_run rfl rfl rfl (fun a w hw hk => run_move rfl (eval_of (known_op hk 24 9 0 (.head _) rfl rfl))), ?_⟩
      refine ⟨_, stable_is _, ask_run rfl rfl rfl (fun a w hw hk => run_extract rfl (eval_of (known_op hk 14 10 0 (.head _) rfl rfl)) rfl), ?_⟩
      refine ⟨_, stable_is _, ask_late rfl (fun a w w' hw hk hd => run_extract rfl (eval_of (known_op hk 14 10 1 (.head _) rfl rfl)) rfl), ?_⟩
      refine ⟨_, stable_is _, ask_run rfl rfl rfl (fun a w hw hk => run_indexAddr rfl Tryd.underlying24 (by kernel_rfl) (eval_of (known_old hk 8 (.head _) rfl)) (eval_of (known_op hk 15 0 12 (.tail _ (.head _)) rfl rfl)) (by omega) (by omega)), ?_⟩
      intro w hw
      rintro _ rfl
      rintro _ rfl
      rintro _ rfl
      rintro _ rfl
      rintro _ rfl
      rintro _ rfl
      rintro _ rfl
      rintro _ rfl
      rintro _ rfl
      rintro _ rfl
      rintro _ rfl
      rintro _ rfl
      rintro _ rfl
      rintro _ rfl
      change wpList _ _ _ _ _ _
      simp only [List.length_cons, List.length_nil, Nat.reduceAdd, Nat.zero_add, List.drop_succ_cons, List.drop_zero, Act.put, List.setIfInBounds_toArray, List.set_cons_succ, List.set_cons_zero]
      go_wp2_with (first | (refine int_store hw rfl 22 _ _ rfl _ _ rfl _ _ rfl one_u64 _ (.head _) (by simp; omega) ?_; clear hw; intro w hw))
      rw [Int.toNat_natCast, limbs_set _ _ hlt (Int.emod_nonneg _ (by have := pow_pos2 (64 * i); omega)) (Int.emod_lt_of_pos _ (pow_pos2 _)) (lim_nonneg _ _) (lim_lt _ _), ← emod_succ] at hw
      go_roundw
      case rel => exact ⟨i + 1, by omega, by go_num, rfl, hw⟩
      case measure => simp [intOf]; omega
    · have hi8 : i = 8 := by omega
      subst hi8
      rw [limbs_emod] at hw
      go_wp2_with (first | (refine w_load hw rfl 24 _ rfl _ rfl agg_wide _ (by first | (apply Has.own; (repeat (first | assumption | exact List.mem_cons_self | apply List.mem_cons_of_mem)); done) | (apply Has.read; (repeat (first | assumption | exact List.mem_cons_self | apply List.mem_cons_of_mem)); done)) ?_) | (refine w_store hw rfl 24 _ _ rfl _ rfl _ rfl agg_wide _ (by repeat (first | exact At.head _ | apply At.tail)) ?_; clear hw; intro w hw))
      refine ret_ct rfl rfl rfl agg_wide (hw.rows _ (.tail _ (.head _))) (by simp) rfl ⟨rfl, hw.below⟩

/-- What is carried, and borrowed, behind the first limbs. -/
def carryv (x y : Int) (i : Nat) : Int := (x % 2 ^ (64 * i) + y % 2 ^ (64 * i)) / 2 ^ (64 * i)
def borrowv (x y : Int) (i : Nat) : Int := -((x % 2 ^ (64 * i) - y % 2 ^ (64 * i)) / 2 ^ (64 * i))

theorem div01 (s N : Int) (hN : 0 < N) (h0 : 0 ≤ s) (h1 : s < 2 * N) : s / N = 0 ∨ s / N = 1 := by
  have a := Int.ediv_nonneg h0 (show 0 ≤ N by omega)
  have b : s / N < 2 := Int.ediv_lt_of_lt_mul hN (by omega)
  omega
theorem carryv01 (x y : Int) (i : Nat) : carryv x y i = 0 ∨ carryv x y i = 1 := by
  have hp := pow_pos2 (64 * i)
  have a0 := Int.emod_nonneg x (show (2 : Int) ^ (64 * i) ≠ 0 by omega)
  have a1 := Int.emod_lt_of_pos x hp
  have b0 := Int.emod_nonneg y (show (2 : Int) ^ (64 * i) ≠ 0 by omega)
  have b1 := Int.emod_lt_of_pos y hp
  exact div01 _ _ hp (by omega) (by omega)
theorem borrowv01 (x y : Int) (i : Nat) : borrowv x y i = 0 ∨ borrowv x y i = 1 := by
  have hp := pow_pos2 (64 * i)
  have a0 := Int.emod_nonneg x (show (2 : Int) ^ (64 * i) ≠ 0 by omega)
  have a1 := Int.emod_lt_of_pos x hp
  have b0 := Int.emod_nonneg y (show (2 : Int) ^ (64 * i) ≠ 0 by omega)
  have b1 := Int.emod_lt_of_pos y hp
  have h := div01 (x % 2 ^ (64 * i) - y % 2 ^ (64 * i) + 2 ^ (64 * i)) (2 ^ (64 * i)) hp (by omega) (by omega)
  have e := Int.add_mul_ediv_right (x % 2 ^ (64 * i) - y % 2 ^ (64 * i)) 1 (show (2 : Int) ^ (64 * i) ≠ 0 by omega)
  rw [Int.one_mul] at e
  unfold borrowv
  omega

/-- One limb of a sum of two, of which the lower limbs' sum stands at 'c'. -/
theorem limb_step (X Y P N a b : Int) (hP : 0 < P) (ha : a = X / P) (hb : b = Y / P) (s : Int) (hs : s = X % P + Y % P) : (X + Y) / P = a + b + s / P := by
  have e1 := Int.emod_add_mul_ediv X P
  have e2 := Int.emod_add_mul_ediv Y P
  have : X + Y = s + P * (a + b) := by subst ha hb hs; grind
  rw [this, Int.add_mul_ediv_left _ _ (by omega)]
  omega
theorem limb_step' (X Y P a b : Int) (hP : 0 < P) (ha : a = X / P) (hb : b = Y / P) (s : Int) (hs : s = X % P - Y % P) : (X - Y) / P = a - b + s / P := by
  have e1 := Int.emod_add_mul_ediv X P
  have e2 := Int.emod_add_mul_ediv Y P
  have : X - Y = s + P * (a - b) := by subst ha hb hs; grind
  rw [this, Int.add_mul_ediv_left _ _ (by omega)]
  omega
theorem add_limb (x y : Int) (i : Nat) : (lim x i + lim y i + carryv x y i) % 18446744073709551616 = lim (x + y) i := by
  have h := limb_step x y (2 ^ (64 * i)) 0 _ _ (pow_pos2 _) rfl rfl _ rfl
  unfold carryv lim at *
  rw [h]; omega
theorem add_carry (x y : Int) (i : Nat) : (lim x i + lim y i + carryv x y i) / 18446744073709551616 = carryv x y (i + 1) := by
  have hp := pow_pos2 (64 * i)
  unfold carryv
  rw [emod_succ, emod_succ]
  have e : (2 : Int) ^ (64 * (i + 1)) = 2 ^ (64 * i) * 18446744073709551616 := by
    rw [show (18446744073709551616 : Int) = 2 ^ 64 by rfl, ← Int.pow_add]; rfl
  rw [e, ← Int.ediv_ediv_of_nonneg (by omega)]
  rw [show x % 2 ^ (64 * i) + lim x i * 2 ^ (64 * i) + (y % 2 ^ (64 * i) + lim y i * 2 ^ (64 * i)) = (x % 2 ^ (64 * i) + y % 2 ^ (64 * i)) + 2 ^ (64 * i) * (lim x i + lim y i) by grind]
  rw [Int.add_mul_ediv_left _ _ (by omega)]
  congr 1; omega
theorem sub_limb (x y : Int) (i : Nat) : (lim x i - lim y i - borrowv x y i) % 18446744073709551616 = lim (x - y) i := by
  have h := limb_step' x y (2 ^ (64 * i)) _ _ (pow_pos2 _) rfl rfl _ rfl
  unfold borrowv lim at *
  rw [h]; omega
theorem sub_borrow (x y : Int) (i : Nat) : -((lim x i - lim y i - borrowv x y i) / 18446744073709551616) = borrowv x y (i + 1) := by
  have hp := pow_pos2 (64 * i)
  unfold borrowv
  rw [emod_succ, emod_succ]
  have e : (2 : Int) ^ (64 * (i + 1)) = 2 ^ (64 * i) * 18446744073709551616 := by
    rw [show (18446744073709551616 : Int) = 2 ^ 64 by rfl, ← Int.pow_add]; rfl
  rw [e, ← Int.ediv_ediv_of_nonneg (by omega)]
  rw [show x % 2 ^ (64 * i) + lim x i * 2 ^ (64 * i) - (y % 2 ^ (64 * i) + lim y i * 2 ^ (64 * i)) = (x % 2 ^ (64 * i) - y % 2 ^ (64 * i)) + 2 ^ (64 * i) * (lim x i - lim y i) by grind]
  rw [Int.add_mul_ediv_left _ _ (by omega)]
  congr 2; omega
theorem lim_bd (z : Int) (i : Nat) : 0 ≤ lim z i ∧ lim z i < 18446744073709551616 := ⟨lim_nonneg _ _, lim_lt _ _⟩

theorem add_gives (x y : Int) : Gives Tryd.prog 33 #[W x, W y] [] (.tuple #[W (x + y), .bool (decide (M ≤ x % M + y % M))]) := by
  refine .mk fun w0 w hw => ?_
  have hb := both_gives x y (x + y) (carryv x y) 67 body_ladd (by simp [carryv, Int.emod_one]) (fun i hi => by
    have := limbadd_gives (lim x i) (lim y i) (carryv x y i) (lim_bd _ _).1 (lim_bd _ _).1 (carryv01 x y i)
    rwa [add_limb, add_carry] at this)
  rw [show (carryv x y 8 != 0) = decide (M ≤ x % M + y % M) by
    have h1 := carryv01 x y 8
    have hM : (0 : Int) < M := pow_pos2 _
    have a0 := Int.emod_nonneg x (show M ≠ 0 by omega)
    have b0 := Int.emod_nonneg y (show M ≠ 0 by omega)
    have e : carryv x y 8 = (x % M + y % M) / M := rfl
    have e2 := Int.emod_add_mul_ediv (x % M + y % M) M
    have e3 := Int.emod_nonneg (x % M + y % M) (show M ≠ 0 by omega)
    have e4 := Int.emod_lt_of_pos (x % M + y % M) hM
    rcases h1 with h1 | h1 <;> rw [h1] at e ⊢ <;> rw [← e] at e2 <;> simp <;> omega] at hb
  go_enter Tryd.func33, Tryd.ntmps33
  go_wp2_with (first | (refine w_box (H := []) hw rfl 24 _ rfl _ rfl ?_; clear hw; intro k1 w hw) | (refine w_box (H := [_]) hw rfl 24 _ rfl _ rfl ?_; clear hw; intro k2 w hw) | (refine ok_alloc (H := []) hw rfl 24 rfl _ zero_wide ?_; clear hw; intro k1 w hw) | (refine ok_alloc (H := [_]) hw rfl 24 rfl _ zero_wide ?_; clear hw; intro k2 w hw) | (refine ok_alloc (H := [_, _]) hw rfl 24 rfl _ zero_wide ?_; clear hw; intro k3 w hw) | (refine w_load hw rfl 24 _ rfl _ rfl agg_wide _ (by first | (apply Has.own; (repeat (first | assumption | exact List.mem_cons_self | apply List.mem_cons_of_mem)); done) | (apply Has.read; (repeat (first | assumption | exact List.mem_cons_self | apply List.mem_cons_of_mem)); done)) ?_) | (refine w_store hw rfl 24 _ _ rfl _ rfl _ rfl agg_wide _ (by repeat (first | exact At.head _ | apply At.tail)) ?_; clear hw; intro w hw) | (go_at_call 58; refine hb.call0 hw ?_; clear hw; intro w hw))
  refine ret_ct rfl rfl rfl agg_wide (hw.rows _ (.head _)) (by simp) rfl ⟨rfl, hw.below⟩
theorem sub_gives (x y : Int) : Gives Tryd.prog 26 #[W x, W y] [] (.tuple #[W (x - y), .bool (decide (x % M < y % M))]) := by
  refine .mk fun w0 w hw => ?_
  have hb := both_gives x y (x - y) (borrowv x y) 59 body_lsub (by simp [borrowv, Int.emod_one]) (fun i hi => by
    have := limbsub_gives (lim x i) (lim y i) (borrowv x y i) (lim_bd _ _).1 (lim_bd _ _).2 (lim_bd _ _).1 (lim_bd _ _).2 (borrowv01 x y i)
    rwa [sub_limb, sub_borrow] at this)
  rw [show (borrowv x y 8 != 0) = decide (x % M < y % M) by
    have h1 := borrowv01 x y 8
    have hM : (0 : Int) < M := pow_pos2 _
    have a1 := Int.emod_lt_of_pos x hM
    have b0 := Int.emod_nonneg y (show M ≠ 0 by omega)
    have e : borrowv x y 8 = -((x % M - y % M) / M) := rfl
    have e2 := Int.emod_add_mul_ediv (x % M - y % M) M
    have e3 := Int.emod_nonneg (x % M - y % M) (show M ≠ 0 by omega)
    have e4 := Int.emod_lt_of_pos (x % M - y % M) hM
    rcases h1 with h1 | h1
    · rw [show (x % M - y % M) / M = 0 by omega] at e2
      rw [h1]; simp; omega
    · rw [show (x % M - y % M) / M = -1 by omega] at e2
      rw [h1]; simp; omega] at hb
  go_enter Tryd.func26, Tryd.ntmps26
  go_wp2_with (first | (refine w_box (H := []) hw rfl 24 _ rfl _ rfl ?_; clear hw; intro k1 w hw) | (refine w_box (H := [_]) hw rfl 24 _ rfl _ rfl ?_; clear hw; intro k2 w hw) | (refine ok_alloc (H := []) hw rfl 24 rfl _ zero_wide ?_; clear hw; intro k1 w hw) | (refine ok_alloc (H := [_]) hw rfl 24 rfl _ zero_wide ?_; clear hw; intro k2 w hw) | (refine ok_alloc (H := [_, _]) hw rfl 24 rfl _ zero_wide ?_; clear hw; intro k3 w hw) | (refine w_load hw rfl 24 _ rfl _ rfl agg_wide _ (by first | (apply Has.own; (repeat (first | assumption | exact List.mem_cons_self | apply List.mem_cons_of_mem)); done) | (apply Has.read; (repeat (first | assumption | exact List.mem_cons_self | apply List.mem_cons_of_mem)); done)) ?_) | (refine w_store hw rfl 24 _ _ rfl _ rfl _ rfl agg_wide _ (by repeat (first | exact At.head _ | apply At.tail)) ?_; clear hw; intro w hw) | (go_at_call 58; refine hb.call0 hw ?_; clear hw; intro w hw))
  refine ret_ct rfl rfl rfl agg_wide (hw.rows _ (.head _)) (by simp) rfl ⟨rfl, hw.below⟩

theorem neg_gives (x : Int) : Gives Tryd.prog 43 #[W x] [] (W (-x)) := by
  refine .mk fun w0 w hw => ?_
  have hs := sub_gives 0 x
  rw [Int.zero_sub] at hs
  go_enter Tryd.func43, Tryd.ntmps43
  go_wp2_with (first | (refine w_box (H := []) hw rfl 24 _ rfl _ rfl ?_; clear hw; intro k1 w hw) | (refine ok_alloc (H := []) hw rfl 24 rfl _ zero_wide ?_; clear hw; intro k1 w hw) | (refine ok_alloc (H := [_]) hw rfl 24 rfl _ zero_wide ?_; clear hw; intro k2 w hw) | (refine ok_alloc (H := [_, _]) hw rfl 24 rfl _ zero_wide ?_; clear hw; intro k3 w hw) | (refine w_load hw rfl 24 _ rfl _ rfl agg_wide _ (by first | (apply Has.own; (repeat (first | assumption | exact List.mem_cons_self | apply List.mem_cons_of_mem)); done) | (apply Has.read; (repeat (first | assumption | exact List.mem_cons_self | apply List.mem_cons_of_mem)); done)) ?_) | (refine w_store hw rfl 24 _ _ rfl _ rfl _ rfl agg_wide _ (by repeat (first | exact At.head _ | apply At.tail)) ?_; clear hw; intro w hw) | (go_at_call 26; refine hs.call0 hw ?_; clear hw; intro w hw))
  refine ret_c rfl rfl agg_wide (hw.rows _ (.tail _ (.head _))) (by simp) rfl ⟨rfl, hw.below⟩
end Go.Proofs.YtcodmeljjphoeaaDoor
