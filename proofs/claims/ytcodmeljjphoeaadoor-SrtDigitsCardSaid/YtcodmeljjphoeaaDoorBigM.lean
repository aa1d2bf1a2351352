/-
  A wide of a number; are lists the same?
-/
import Derived.Test.YtcodmeljjphoeaaDoorBigL
namespace Go.Proofs.YtcodmeljjphoeaaDoor
open Go.RowKit
set_option linter.unusedVariables false
set_option linter.unusedSimpArgs false

theorem half_low (b : Int) (i : Nat) : b % 2 ^ (32 * (2 * i + 1)) = b % 2 ^ (64 * i) + dg b (2 * i) * 2 ^ (64 * i) := by
  have := dg_mod b (2 * i)
  rwa [show 32 * (2 * i) = 64 * i by omega] at this
theorem half_lim (b : Int) (i : Nat) : lim (b % 2 ^ (32 * (2 * i + 1))) i = dg b (2 * i) := by
  have hp := pow_pos2 (64 * i)
  have m0 := Int.emod_nonneg b (show (2 : Int) ^ (64 * i) ≠ 0 by omega)
  have m1 := Int.emod_lt_of_pos b hp
  have hd := dg_bd b (2 * i)
  rw [half_low]
  unfold lim
  rw [Int.add_mul_ediv_right _ _ (by omega), Int.ediv_eq_zero_of_lt m0 m1, Int.zero_add]
  exact Int.emod_eq_of_lt hd.1 (by omega)
/-- 32 bits more of a number are laid. -/
theorem wlay (b : Int) (j : Nat) (hj : j < 16) : (limbs 8 (b % 2 ^ (32 * j))).setIfInBounds (j / 2) (.int .u64 (lim (b % 2 ^ (32 * j)) (j / 2) + dg b j * 2 ^ (32 * (j % 2)))) = limbs 8 (b % 2 ^ (32 * (j + 1))) := by
  have hp := pow_pos2 (32 * j)
  have m0 := Int.emod_nonneg b (show (2 : Int) ^ (32 * j) ≠ 0 by omega)
  have m1 := Int.emod_lt_of_pos b hp
  have hd := dg_bd b j
  rw [dg_mod b j]
  rcases Nat.mod_two_eq_zero_or_one j with h | h
  · generalize b % 2 ^ (32 * j) = z at *
    generalize dg b j = d at *
    obtain ⟨i, rfl⟩ : ∃ i, j = 2 * i := ⟨j / 2, by omega⟩
    rw [show 2 * i / 2 = i by omega, h]
    rw [show 32 * (2 * i) = 64 * i by omega] at *
    have : lim z i = 0 := by unfold lim; rw [Int.ediv_eq_zero_of_lt m0 m1]; rfl
    rw [this, show (0 : Int) + d * 2 ^ (32 * 0) = d by simp]
    exact limbs_set z d (by omega) m0 m1 hd.1 (by omega)
  · obtain ⟨i, rfl⟩ : ∃ i, j = 2 * i + 1 := ⟨j / 2, by omega⟩
    rw [show (2 * i + 1) / 2 = i by omega, h, half_lim, half_low]
    have hq := pow_pos2 (64 * i)
    have z0 := Int.emod_nonneg b (show (2 : Int) ^ (64 * i) ≠ 0 by omega)
    have z1 := Int.emod_lt_of_pos b hq
    have h2 := dg_bd b (2 * i)
    have ey : (2 : Int) ^ (32 * (2 * i + 1)) = 4294967296 * 2 ^ (64 * i) := by
      rw [show (4294967296 : Int) = 2 ^ 32 by rfl, ← Int.pow_add]; congr 1; omega
    rw [ey]
    generalize dg b (2 * i) = d0 at *
    generalize dg b (2 * i + 1) = d at *
    generalize b % 2 ^ (64 * i) = z at *
    rw [← limbs_set z d0 (show i < 8 by omega) z0 z1 h2.1 (by omega)]
    rw [Array.setIfInBounds_setIfInBounds]
    rw [limbs_set z (d0 + d * 2 ^ (32 * 1)) (show i < 8 by omega) z0 z1 (by omega) (by omega)]
    congr 1
    rw [show (2 : Int) ^ (32 * 1) = 4294967296 by rfl]
    grind

theorem lim_room (b : Int) (j : Nat) : 0 ≤ lim (b % 2 ^ (32 * j)) (j / 2) + dg b j * 2 ^ (32 * (j % 2)) ∧ lim (b % 2 ^ (32 * j)) (j / 2) + dg b j * 2 ^ (32 * (j % 2)) < 18446744073709551616 := by
  have hd := dg_bd b j
  rcases Nat.mod_two_eq_zero_or_one j with h | h
  · obtain ⟨i, rfl⟩ : ∃ i, j = 2 * i := ⟨j / 2, by omega⟩
    have m0 := Int.emod_nonneg b (show (2 : Int) ^ (64 * i) ≠ 0 by have := pow_pos2 (64 * i); omega)
    have m1 := Int.emod_lt_of_pos b (pow_pos2 (64 * i))
    rw [show 2 * i / 2 = i by omega, h]
    rw [show 32 * (2 * i) = 64 * i by omega] at *
    have : lim (b % 2 ^ (64 * i)) i = 0 := by unfold lim; rw [Int.ediv_eq_zero_of_lt m0 m1]; rfl
    rw [this]
    simp only [Nat.mul_zero, Int.pow_zero]
    omega
  · obtain ⟨i, rfl⟩ : ∃ i, j = 2 * i + 1 := ⟨j / 2, by omega⟩
    rw [show (2 * i + 1) / 2 = i by omega, h, half_lim, show (2 : Int) ^ (32 * 1) = 4294967296 by rfl]
    have h2 := dg_bd b (2 * i)
    omega
theorem shl_half {d : Int} (hd : 0 ≤ d ∧ d < 4294967296) (j : Nat) : shl64 (IntKind.u64.wrap d) (32 * ((j : Int) % 2)) = d * 2 ^ (32 * (j % 2)) := by
  rw [wrap_u64]
  unfold shl64
  rcases Nat.mod_two_eq_zero_or_one j with h | h
  · rw [show ((j : Int) % 2) = 0 by omega, h, show min ((32 : Int) * 0).toNat 64 = 0 by rfl]
    simp only [Nat.mul_zero, Int.pow_zero]
    omega
  · rw [show ((j : Int) % 2) = 1 by omega, h, show min ((32 : Int) * 1).toNat 64 = 32 by rfl, show (2 : Int) ^ (32 * 1) = 4294967296 by rfl]
    omega

set_option maxRecDepth 100000 in
set_option maxHeartbeats 1000000 in
theorem wide_gives {R : List (Nat × Array Value)} {u : Value} {n : Nat} {b : Int} (hb : BigN R u n b) (hn : n ≤ 16) : Gives Tryd.prog 18 #[u] R (.tuple #[W b, .bool false]) := by
  refine .mk fun w0 w hw => ?_
  have hb0 := hb.pos
  have hb1 := hb.lt
  obtain ⟨p, c, rfl, hc, hr⟩ := hb.shape
  clear hb
  go_enter Tryd.func18, Tryd.ntmps18
  go_wp2_with (first | (refine ok_alloc (H := []) hw rfl 24 rfl _ zero_wide ?_; clear hw; intro k1 w hw) | (refine ok_alloc (H := [_]) hw rfl 24 rfl _ zero_wide ?_; clear hw; intro k2 w hw))
  go_loopw [5] (fun a wr => ∃ (j : Nat), j ≤ n ∧ a = .int .i64 j ∧ Ok Non w0 wr [(k2, limbs 8 (b % 2 ^ (32 * j))), (k1, limbs 8 0)] R) (fun a _ => 16 - (intOf a).toNat)
  case atStart => exact ⟨0, by omega, rfl, by rw [show b % 2 ^ (32 * 0) = 0 by simp [Int.emod_one]]; exact hw⟩
  case round =>
    clear hw
    obtain ⟨j, hj, rfl, hw⟩ := hrel
    by_cases hlt : j < n
    · obtain ⟨kx, cx, rfl, hmx, hdx⟩ : ∃ k cs, p = some ⟨k, 0, none⟩ ∧ (k, cs) ∈ R ∧ Dig cs n b := by
        rcases hr with h | h
        · omega
        · exact h
      clear hr
      have hbd := dg_bd b j
      have hroom := lim_room b j
      have hlay := Lib.hid (wlay b j (by omega))
      have f1 : ((j : Int) == 16) = false := by rw [beq_eq_false_iff_ne]; omega
      go_wp2_with fail
      try simp only [Act.put, List.setIfInBounds_toArray, List.set_cons_succ, List.set_cons_zero]
      refine wp_region_draws [⟨[(5, none)], none, false, false⟩, ⟨[(16, some 0)], none, false, false⟩, ⟨[(5, none)], none, false, false⟩, ⟨[(18, some 2)], none, false, false⟩, ⟨[(4, none), (19, some 3)], none, false, false⟩, ⟨[(20, some 4)], none, false, false⟩, ⟨[(0, none)], none, false, false⟩, ⟨[(5, none)], none, false, false⟩, ⟨[(22, some 6), (23, some 7)], none, false, false⟩, ⟨[(24, some 8)], none, false, false⟩, ⟨[(25, some 9)], none, false, false⟩, ⟨[(5, none)], none, false, false⟩, ⟨[(27, some 11)], none, false, false⟩, ⟨[(28, some 12)], none, false, false⟩, ⟨[(26, some 10), (29, some 13)], none, false, false⟩, ⟨[(21, some 5), (30, some 14)], none, false, false⟩] 37 (fun w => Ok Non w0 w [(k2, limbs 8 (b % 2 ^ (32 * j))), (k1, limbs 8 0)] R) (by kernel_rfl) rfl (by kernel_rfl) (hw.grow (below_drew' _)) (fun _ _ h hb => h.grow hb) (fun _ _ _ _ h => h) ?_
      clear hw
      refine ⟨_, stable_is _, ask_run rfl rfl rfl (fun a w hw hk => run_move rfl (eval_of (known_old hk 5 (.head _) (by simp only [List.getElem?_toArray, List.getElem?_cons_zero, List.getElem?_cons_succ, Option.getD_some]; rfl)))), ?_⟩
      refine ⟨_, stable_is _, ask_run rfl rfl rfl (fun a w hw hk => run_quo_i rfl (eval_of (known_op hk 16 0 0 (.head _) rfl rfl)) rfl (by omega) (by omega)), ?_⟩
      refine ⟨_, stable_is _, ask_run rfl rfl rfl (fun a w hw hk => run_move rfl (eval_of (known_old hk 5 (.head _) (by simp only [List.getElem?_toArray, List.getElem?_cons_zero, List.getElem?_cons_succ, Option.getD_some]; rfl)))), ?_⟩
      refine ⟨_, stable_is _, ask_run rfl rfl rfl (fun a w hw hk => run_quo_i rfl (eval_of (known_op hk 18 2 0 (.head _) rfl rfl)) rfl (by omega) (by omega)), ?_⟩
      refine ⟨_, stable_is _, ask_run rfl rfl rfl (fun a w hw hk => run_indexAddr rfl Tryd.underlying24 (by kernel_rfl) (eval_of (known_old hk 4 (.head _) rfl)) (eval_of (known_op hk 19 3 0 (.tail _ (.head _)) rfl rfl)) (by omega) (by omega)), ?_⟩
      refine ⟨_, stable_is _, ask_run rfl rfl rfl (fun a w hw hk => run_load_c rfl (eval_of (known_op hk 20 4 0 (.head _) rfl rfl)) one_u64 (hw.has (by first | (apply Has.own; (repeat (first | assumption | exact List.mem_cons_self | apply List.mem_cons_of_mem)); done) | (apply Has.read; (repeat (first | assumption | exact List.mem_cons_self | apply List.mem_cons_of_mem)); done))) (limbs_at (i := j / 2) _ (by omega) (by omega))), ?_⟩
      refine ⟨_, stable_is _, ask_run rfl rfl rfl (fun a w hw hk => run_move rfl (eval_of (known_old hk 0 (.head _) (by simp only [List.getElem?_toArray, List.getElem?_cons_zero, List.getElem?_cons_succ, Option.getD_some]; rfl)))), ?_⟩
      refine ⟨_, stable_is _, ask_run rfl rfl rfl (fun a w hw hk => run_move rfl (eval_of (known_old hk 5 (.head _) (by simp only [List.getElem?_toArray, List.getElem?_cons_zero, List.getElem?_cons_succ, Option.getD_some]; rfl)))), ?_⟩
      refine ⟨_, stable_is _, ask_run rfl rfl rfl (fun a w hw hk => run_indexAddr_slice rfl Tryd.underlying36 (by kernel_rfl) (eval_of (known_op hk 22 6 1 (.head _) rfl rfl)) (eval_of (known_op hk 23 7 0 (.tail _ (.head _)) rfl rfl)) (by omega) (by omega)), ?_⟩
      refine ⟨_, stable_is _, ask_run rfl rfl rfl (fun a w hw hk => run_load_c rfl (eval_of (known_op hk 24 8 0 (.head _) rfl rfl)) one_u32 (hw.has (by first | (apply Has.own; (repeat (first | assumption | exact List.mem_cons_self | apply List.mem_cons_of_mem)); done) | (apply Has.read; (repeat (first | assumption | exact List.mem_cons_self | apply List.mem_cons_of_mem)); done))) (dig_at (i := j) hdx (by omega) (by omega))), ?_⟩
      refine ⟨_, stable_is _, ask_run rfl rfl rfl (fun a w hw hk => by
      have e25 := known_op hk 25 9 0 (.head _) rfl rfl
      go_simp
      (first | with_reducible rfl | exact ⟨rfl, rfl⟩)), ?_⟩
      refine ⟨_, stable_is _, ask_run rfl rfl rfl (fun a w hw hk => run_move rfl (eval_of (known_old hk 5 (.head _) (by simp only [List.getElem?_toArray, List.getElem?_cons_zero, List.getElem?_cons_succ, Option.getD_some]; rfl)))), ?_⟩
      refine ⟨_, stable_is _, ask_run rfl rfl rfl (fun a w hw hk => run_rem_i rfl (eval_of (known_op hk 27 11 0 (.head _) rfl rfl)) rfl (by omega) (by omega)), ?_⟩
      refine ⟨_, stable_is _, ask_run rfl rfl rfl (fun a w hw hk => run_mul_i rfl rfl (eval_of (known_op hk 28 12 0 (.head _) rfl rfl)) (by omega)), ?_⟩
      refine ⟨_, stable_is _, ask_run rfl rfl rfl (fun a w hw hk => run_shl_u rfl (eval_of (known_op hk 26 10 3 (.head _) rfl rfl)) (eval_of (known_op hk 29 13 0 (.tail _ (.head _)) rfl rfl)) (by omega)), ?_⟩
      refine ⟨_, stable_is _, ask_run rfl rfl rfl (fun a w hw hk => run_add_u rfl (eval_of (known_op hk 21 5 9 (.head _) rfl rfl)) (eval_of (known_op hk 30 14 0 (.tail _ (.head _)) rfl rfl))), ?_⟩
      intro w hw
      rintro _ rfl
      rintro _ rfl
      rintro _ rfl
      rintro _ rfl
      rintro _ rfl
      rintro _ rfl
      rintro _ rfl
      rintro _ rfl
      rintro _ rfl
      rintro _ rfl
      rintro _ rfl
      rintro _ rfl
      rintro _ rfl
      rintro _ rfl
      rintro _ rfl
      rintro _ rfl
      change wpList _ _ _ _ _ _
      simp only [List.length_cons, List.length_nil, Nat.reduceAdd, Nat.zero_add, List.drop_succ_cons, List.drop_zero, Act.put, List.setIfInBounds_toArray, List.set_cons_succ, List.set_cons_zero]
      rw [shl_half hbd, Int.emod_eq_of_lt hroom.1 hroom.2]
      clear hroom hbd f1
      go_wp2_with (first | (refine int_store hw rfl 22 _ _ rfl k2 _ rfl .u64 _ rfl one_u64 _ (.head _) (by simp; omega) ?_; clear hw; intro w hw))
      rw [hlay.out] at hw
      exact ⟨⟨j + 1, by omega, by go_num, hw⟩, by simp [intOf]; omega⟩
    · have hi2 : j = n := by omega
      subst hi2
      rw [Int.emod_eq_of_lt hb0 hb1] at hw
      by_cases h16 : j = 16
      · subst h16
        go_wp2_with (first | (refine w_load hw rfl 24 _ rfl _ rfl agg_wide _ (by first | (apply Has.own; (repeat (first | assumption | exact List.mem_cons_self | apply List.mem_cons_of_mem)); done) | (apply Has.read; (repeat (first | assumption | exact List.mem_cons_self | apply List.mem_cons_of_mem)); done)) ?_) | (refine w_store hw rfl 24 _ _ rfl _ rfl _ rfl agg_wide _ (by repeat (first | exact At.head _ | apply At.tail)) ?_; clear hw; intro w hw))
        refine ret_ct rfl rfl rfl agg_wide (hw.rows _ (.tail _ (.head _))) (by simp) rfl ⟨rfl, hw.below⟩
      · have hgt : decide ((16 : Int) < (j : Int)) = false := by rw [decide_eq_false_iff_not]; omega
        have Hgt := Lib.hid hgt
        clear hgt
        go_wp2_with (first | (refine w_load hw rfl 24 _ rfl _ rfl agg_wide _ (by first | (apply Has.own; (repeat (first | assumption | exact List.mem_cons_self | apply List.mem_cons_of_mem)); done) | (apply Has.read; (repeat (first | assumption | exact List.mem_cons_self | apply List.mem_cons_of_mem)); done)) ?_) | (refine w_store hw rfl 24 _ _ rfl _ rfl _ rfl agg_wide _ (by repeat (first | exact At.head _ | apply At.tail)) ?_; clear hw; intro w hw))
        rw [Hgt.out]
        refine ret_ct rfl rfl rfl agg_wide (hw.rows _ (.tail _ (.head _))) (by simp) rfl ⟨rfl, hw.below⟩
theorem vwide {R : List (Nat × Array Value)} {u : Value} {b : Int} (hb : BigV R u b) (h : b < M) : Gives Tryd.prog 18 #[u] R (.tuple #[W b, .bool false]) := by
  obtain ⟨n, hn, hb⟩ := hb.sized (k := 16) h
  exact wide_gives hb hn
end Go.Proofs.YtcodmeljjphoeaaDoor
