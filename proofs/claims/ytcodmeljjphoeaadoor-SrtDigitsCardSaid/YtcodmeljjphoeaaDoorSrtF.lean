/-
  Layer 13: digits of either sign, converted on the fly.
-/
import Derived.Test.YtcodmeljjphoeaaDoorSrtE
import Derived.Test.YtcodmeljjphoeaaDoorBigJ
namespace Go.Proofs.YtcodmeljjphoeaaDoor
open Go.RowKit
set_option exponentiation.threshold 600
set_option linter.unusedVariables false
set_option linter.unusedSimpArgs false

theorem two_state : Two Tryd.prog 62 := fun y z => by kernel_rfl
theorem agg_state : Agg Tryd.prog 62 16 := .mk _ Tryd.underlying62 rfl (by kernel_rfl)
theorem zero_state : Zero Tryd.prog 62 (two 0 0) := ⟨.agg (two 0 0), by kernel_rfl, rfl⟩

theorem or4 {y b : Int} (hy : 0 ≤ y ∧ 4 * y < 18446744073709551616) (hb : 0 ≤ b ∧ b < 4) : bits .or .u64 (4 * y) b = 4 * y + b := by
  obtain ⟨y, rfl⟩ := Int.eq_ofNat_of_zero_le hy.1
  obtain ⟨b, rfl⟩ := Int.eq_ofNat_of_zero_le hb.1
  have e : (4 : Int) * (y : Int) = ((2 ^ 2 * y : Nat) : Int) := by omega
  rw [e] at hy ⊢
  have h : b < 2 ^ 2 := by omega
  rw [bits_or_u64_nat _ _ (by omega) (by omega), ← Nat.two_pow_add_eq_or_of_lt h, Int.natCast_add]
theorem lim4 (a : Int) : ∃ y, lim (a * 2 ^ 2) 0 = 4 * y ∧ 0 ≤ y ∧ 4 * y < 18446744073709551616 ∧ 4 * y + 3 < 18446744073709551616 := by
  refine ⟨a % 4611686018427387904, ?_, by omega, by omega, by omega⟩
  rw [lim_low, show (2 : Int) ^ 2 = 4 by rfl]
  omega
theorem limbs4 (a b : Int) (hb : 0 ≤ b ∧ b < 4) : (limbs 8 (a * 2 ^ 2)).setIfInBounds 0 (.int .u64 (lim (a * 2 ^ 2) 0 + b)) = limbs 8 (4 * a + b) := by
  apply Array.ext_getElem?
  intro j
  rw [Array.getElem?_setIfInBounds]
  split
  · rename_i h
    subst h
    simp only [size_limbs, Nat.zero_lt_succ, if_true]
    rw [limbs_get _ (by omega), lim_low, lim_low, show (2 : Int) ^ 2 = 4 by rfl]
    congr 2
    omega
  · rename_i h
    by_cases hj : j < 8
    · rw [limbs_get _ hj, limbs_get _ hj]
      congr 2
      unfold lim
      have e : (2 : Int) ^ (64 * j) = 2 ^ 2 * 2 ^ (64 * j - 2) := by rw [← Int.pow_add]; congr 1; omega
      rw [e, ← Int.ediv_ediv_of_nonneg (by omega), ← Int.ediv_ediv_of_nonneg (by omega)]
      congr 2
      rw [show (2 : Int) ^ 2 = 4 by rfl]
      omega
    · rw [Array.getElem?_eq_none (by simp; omega), Array.getElem?_eq_none (by simp; omega)]

set_option maxRecDepth 10000 in
theorem join_gives (a b : Int) (hb : 0 ≤ b ∧ b < 4) : Gives Tryd.prog 65 #[W a, .int .i64 b] [] (W (4 * a + b)) := by
  refine .mk fun w0 w hw => ?_
  have hsh := shl_gives a 2
  rw [show (clampv 2).toNat = 2 by rfl] at hsh
  obtain ⟨y, hy, hy0, hy1, hy2⟩ := lim4 a
  have hset := limbs4 a b hb
  have hor := or4 ⟨hy0, hy1⟩ hb
  have hget : (limbs 8 (a * 2 ^ 2))[0]? = some (.int .u64 (4 * y)) := by rw [limbs_get _ (by omega), hy]
  rw [hy] at hset
  have Hget := Lib.hid hget
  have Hset := Lib.hid hset
  have Hor := Lib.hid hor
  have hwb : IntKind.u64.wrap b = b := by rw [wrap_u64]; omega
  clear hget hset hor hy
  generalize a * 2 ^ 2 = z at *
  generalize 4 * a + b = r at *
  go_enter Tryd.func65, Tryd.ntmps65
  go_wp2_with (first | (refine w_box (H := []) hw rfl 24 _ rfl _ rfl ?_; clear hw; intro k1 w hw) | (refine ok_alloc (H := []) hw rfl 24 rfl _ zero_wide ?_; clear hw; intro k1 w hw) | (refine ok_alloc (H := [_]) hw rfl 24 rfl _ zero_wide ?_; clear hw; intro k2 w hw) | (refine w_load hw rfl 24 _ rfl _ rfl agg_wide _ (by first | (apply Has.own; (repeat (first | assumption | exact List.mem_cons_self | apply List.mem_cons_of_mem)); done) | (apply Has.read; (repeat (first | assumption | exact List.mem_cons_self | apply List.mem_cons_of_mem)); done)) ?_) | (refine w_store hw rfl 24 _ _ rfl _ rfl _ rfl agg_wide _ (by repeat (first | exact At.head _ | apply At.tail)) ?_; clear hw; intro w hw) | (go_at_call 45; refine hsh.call0 hw ?_; clear hw; intro w hw) | (refine ok_load_cell hw rfl 22 _ rfl k1 0 rfl one_u64 _ (.inl (.tail _ (.head _))) _ Hget.out ?_) | (refine int_store hw rfl 22 _ _ rfl k1 0 rfl .u64 _ rfl one_u64 _ (.tail _ (.head _)) (by simp) ?_; clear hw; intro w hw'; have hw : Ok Non w0 w [(k2, limbs 8 0), (k1, limbs 8 r)] [] := (by rw [← Hset.out, ← Hor.out]; exact hw'); clear hw'))
  refine ret_c rfl rfl agg_wide (hw.rows _ (.head _)) (by simp) rfl ⟨rfl, hw.below⟩

set_option maxRecDepth 10000 in
theorem is_gives (d : Int) (hd : -3 ≤ d ∧ d ≤ 3) : Gives Tryd.prog 57 #[.int .i64 d] [] (.bool true) := by
  refine .mk fun w0 w hw => ?_
  have h1 : decide (-3 ≤ d) = true := decide_eq_true hd.1
  have h2 : decide (d ≤ 3) = true := decide_eq_true hd.2
  go_enter Tryd.func57, Tryd.ntmps57
  go_wp2_with fail
  go_ret
  exact ⟨rfl, hw.below⟩

set_option maxRecDepth 100000 in
theorem flynew_gives (q : Int) : Gives Tryd.prog 28 #[W q] [] (.agg (two q (q - 1))) := by
  refine .mk fun w0 w hw => ?_
  have hsub := sub_gives q 1
  generalize (decide (q % M < 1 % M)) = below at *
  generalize hl : q - 1 = l at *
  go_enter Tryd.func28, Tryd.ntmps28
  go_wp2_with (first | (refine w_box (H := []) hw rfl 24 _ rfl _ rfl ?_; clear hw; intro k1 w hw) | (refine ok_alloc (H := []) hw rfl 62 rfl _ zero_state ?_; clear hw; intro k1 w hw) | (refine ok_alloc (H := [_]) hw rfl 62 rfl _ zero_state ?_; clear hw; intro k2 w hw))
  try simp only [Act.put, List.setIfInBounds_toArray, List.set_cons_succ, List.set_cons_zero]
  refine wp_region_draws [⟨[(1, none)], none, false, false⟩, ⟨[], none, false, true⟩, ⟨[(7, some 1)], none, false, false⟩, ⟨[(6, some 0), (8, some 2)], none, false, false⟩, ⟨[(9, some 3)], none, false, false⟩, ⟨[(5, some 4)], none, false, false⟩, ⟨[(5, some 4)], none, true, false⟩, ⟨[], none, false, true⟩] 15 (fun w => Ok Non w0 w [(k2, two 0 0), (k1, limbs 8 q)] []) (by kernel_rfl) rfl (by kernel_rfl) (hw.grow (below_drew' _)) (fun _ _ h hb => h.grow hb) (fun _ _ _ _ h => h) ?_
  clear hw
  refine ⟨_, stable_is _, ask_run rfl rfl rfl (fun a w hw hk => run_load_w rfl (eval_of (known_old hk 1 (.head _) rfl)) agg_wide (hw.has (by first | (apply Has.own; (repeat (first | assumption | exact List.mem_cons_self | apply List.mem_cons_of_mem)); done) | (apply Has.read; (repeat (first | assumption | exact List.mem_cons_self | apply List.mem_cons_of_mem)); done)))), ?_⟩
  refine ⟨_, stable_slice _ _, ask_build1 rfl rfl rfl Tryd.underlying87 one_u64 zero_u64' (fun a w hw hk => rfl), ?_⟩
  refine ⟨_, stable_is _, ask_callr rfl rfl rfl (fun a w hw hk => by
      obtain ⟨k7, e7, b7⟩ := known_rel hk 7 1 0 (.head _) rfl rfl
      exact ⟨_, run_call1 rfl ⟨_, Tryd.func54, by kernel_rfl, by kernel_rfl⟩ (eval_of e7), (of1 1 _ (by omega) (by omega)) w (by simp; exact b7)⟩), ?_⟩
  refine ⟨_, stable_is _, ask_gives rfl rfl rfl (fun a w hw hk => run_call2 rfl ⟨_, Tryd.func26, by kernel_rfl, by kernel_rfl⟩ (eval_of (known_op hk 6 0 2 (.head _) rfl rfl)) (eval_of (known_op hk 8 2 0 (.tail _ (.head _)) rfl rfl)))
    hsub (fun w hw => by simp), ?_⟩
  refine ⟨_, stable_is _, ask_run rfl rfl rfl (fun a w hw hk => run_move rfl (eval_of (known_op hk 9 3 0 (.head _) rfl rfl))), ?_⟩
  refine ⟨_, stable_is _, ask_run rfl rfl rfl (fun a w hw hk => run_extract rfl (eval_of (known_op hk 5 4 0 (.head _) rfl rfl)) rfl), ?_⟩
  refine ⟨_, stable_is _, ask_late rfl (fun a w w' hw hk hd => run_extract rfl (eval_of (known_op hk 5 4 1 (.head _) rfl rfl)) rfl), ?_⟩
  refine ⟨_, stable_mine _ _ _ _ _, ask_alloc rfl rfl 24 rfl _ zero_wide, ?_⟩
  intro w hw
  rintro _ rfl
  rintro _ ⟨m1, rfl, hm1⟩
  intro hn1
  rintro _ rfl
  rintro _ rfl
  rintro _ rfl
  rintro _ rfl
  rintro _ rfl
  rintro _ ⟨m7, rfl, hm7⟩ hn7
  clear hw hn7; have hw := hm7; clear hm7
  change wpList _ _ _ _ _ _
  simp only [List.length_cons, List.length_nil, Nat.reduceAdd, Nat.zero_add, List.drop_succ_cons, List.drop_zero, Act.put, List.setIfInBounds_toArray, List.set_cons_succ, List.set_cons_zero]
  go_wp2_with (first | (refine w_load hw rfl 24 _ rfl _ rfl agg_wide _ (by first | (apply Has.own; (repeat (first | assumption | exact List.mem_cons_self | apply List.mem_cons_of_mem)); done) | (apply Has.read; (repeat (first | assumption | exact List.mem_cons_self | apply List.mem_cons_of_mem)); done)) ?_) | (refine w_store hw rfl 24 _ _ rfl _ rfl _ rfl agg_wide _ (by repeat (first | exact At.head _ | apply At.tail)) ?_; clear hw; intro w hw) | (refine ok_build2 rfl 62 _ _ rfl two_state _ _ rfl rfl ?_) | (refine ok_store hw rfl 62 _ _ rfl _ rfl _ rfl _ agg_state _ (by repeat (first | exact At.head _ | apply At.tail)) (by simp) (by simp) (ones_two _ _) ?_; clear hw; intro w hw))
  refine ret_c rfl rfl agg_state (hw.rows _ (.tail _ (.head _))) (by simp) rfl ⟨rfl, hw.below⟩

set_option maxRecDepth 100000 in
set_option maxHeartbeats 400000 in
theorem flynext_gives (q d : Int) (hd : -3 ≤ d ∧ d ≤ 3) : Gives Tryd.prog 31 #[.agg (two q (q - 1)), .int .i64 d] [] (.tuple #[.agg (two (4 * q + d) (4 * q + d - 1)), .bool true]) := by
  refine .mk fun w0 w hw => ?_
  have his := is_gives d hd
  rcases Int.lt_trichotomy d 0 with h | h | h
  · have hj1 := join_gives (q - 1) (4 + d) (by omega)
    have hj2 := join_gives (q - 1) (3 + d) (by omega)
    rw [show 4 * (q - 1) + (4 + d) = 4 * q + d by omega] at hj1
    rw [show 4 * (q - 1) + (3 + d) = 4 * q + d - 1 by omega] at hj2
    have hb1 : decide (0 < d) = false := decide_eq_false (by omega)
    have hb2 : (d == 0) = false := beq_eq_false_iff_ne.2 (by omega)
    generalize 4 * q + d - 1 = b at *
    generalize 4 * q + d = a at *
    generalize q - 1 = l at *
    go_enter Tryd.func31, Tryd.ntmps31
    go_wp2_with (first | (refine ok_box (H := []) hw rfl 62 _ rfl _ rfl ?_; clear hw; intro k1 w hw) | (refine ok_alloc (H := []) hw rfl 62 rfl _ zero_state ?_; clear hw; intro k1 w hw) | (refine ok_alloc (H := [_]) hw rfl 62 rfl _ zero_state ?_; clear hw; intro k2 w hw) | (go_at_call 57; refine his.call0 hw ?_; clear hw; intro w hw))
    try simp only [Act.put, List.setIfInBounds_toArray, List.set_cons_succ, List.set_cons_zero]
    refine wp_region_draws [⟨[(2, none)], none, false, false⟩, ⟨[(34, some 0)], none, false, false⟩, ⟨[(1, none)], none, false, false⟩, ⟨[(36, some 2)], none, false, false⟩, ⟨[(35, some 1), (37, some 3)], none, false, false⟩, ⟨[(2, none)], none, false, false⟩, ⟨[(39, some 5)], none, false, false⟩, ⟨[(1, none)], none, false, false⟩, ⟨[(41, some 7)], none, false, false⟩, ⟨[(40, some 6), (42, some 8)], none, false, false⟩, ⟨[(38, some 4), (43, some 9)], none, false, false⟩] 45 (fun w => Ok Non w0 w [(k2, two 0 0), (k1, two q l)] []) (by kernel_rfl) rfl (by kernel_rfl) (hw.grow (below_drew' _)) (fun _ _ h hb => h.grow hb) (fun _ _ _ _ h => h) ?_
    clear hw
    refine ⟨_, stable_is _, ask_run rfl rfl rfl (fun a w hw hk => by
      have e2 := known_old hk 2 (.head _) (by simp only [List.getElem?_toArray, List.getElem?_cons_zero, List.getElem?_cons_succ, Option.getD_some]; rfl)
      go_simp
      (first | with_reducible rfl | exact ⟨rfl, rfl⟩)), ?_⟩
    refine ⟨_, stable_is _, ask_run rfl rfl rfl (fun a w hw hk => run_load_snd rfl (eval_of (known_op hk 34 0 0 (.head _) rfl rfl)) agg_wide (hw.has (by first | (apply Has.own; (repeat (first | assumption | exact List.mem_cons_self | apply List.mem_cons_of_mem)); done) | (apply Has.read; (repeat (first | assumption | exact List.mem_cons_self | apply List.mem_cons_of_mem)); done)))), ?_⟩
    refine ⟨_, stable_is _, ask_run rfl rfl rfl (fun a w hw hk => run_move rfl (eval_of (known_old hk 1 (.head _) (by simp only [List.getElem?_toArray, List.getElem?_cons_zero, List.getElem?_cons_succ, Option.getD_some]; rfl)))), ?_⟩
    refine ⟨_, stable_is _, ask_run rfl rfl rfl (fun a w hw hk => run_add_i rfl rfl (eval_of (known_op hk 36 2 0 (.head _) rfl rfl)) (by omega)), ?_⟩
    refine ⟨_, stable_is _, ask_gives rfl rfl rfl (fun a w hw hk => run_call2 rfl ⟨_, Tryd.func65, by kernel_rfl, by kernel_rfl⟩ (eval_of (known_op hk 35 1 2 (.head _) rfl rfl)) (eval_of (known_op hk 37 3 0 (.tail _ (.head _)) rfl rfl)))
    hj1 (fun w hw => by simp), ?_⟩
    refine ⟨_, stable_is _, ask_run rfl rfl rfl (fun a w hw hk => by
      have e2 := known_old hk 2 (.head _) (by simp only [List.getElem?_toArray, List.getElem?_cons_zero, List.getElem?_cons_succ, Option.getD_some]; rfl)
      go_simp
      (first | with_reducible rfl | exact ⟨rfl, rfl⟩)), ?_⟩
    refine ⟨_, stable_is _, ask_run rfl rfl rfl (fun a w hw hk => run_load_snd rfl (eval_of (known_op hk 39 5 0 (.head _) rfl rfl)) agg_wide (hw.has (by first | (apply Has.own; (repeat (first | assumption | exact List.mem_cons_self | apply List.mem_cons_of_mem)); done) | (apply Has.read; (repeat (first | assumption | exact List.mem_cons_self | apply List.mem_cons_of_mem)); done)))), ?_⟩
    refine ⟨_, stable_is _, ask_run rfl rfl rfl (fun a w hw hk => run_move rfl (eval_of (known_old hk 1 (.head _) (by simp only [List.getElem?_toArray, List.getElem?_cons_zero, List.getElem?_cons_succ, Option.getD_some]; rfl)))), ?_⟩
    refine ⟨_, stable_is _, ask_run rfl rfl rfl (fun a w hw hk => run_add_i rfl rfl (eval_of (known_op hk 41 7 0 (.head _) rfl rfl)) (by omega)), ?_⟩
    refine ⟨_, stable_is _, ask_gives rfl rfl rfl (fun a w hw hk => run_call2 rfl ⟨_, Tryd.func65, by kernel_rfl, by kernel_rfl⟩ (eval_of (known_op hk 40 6 2 (.head _) rfl rfl)) (eval_of (known_op hk 42 8 0 (.tail _ (.head _)) rfl rfl)))
    hj2 (fun w hw => by simp), ?_⟩
    refine ⟨_, stable_is _, ask_run rfl rfl rfl (fun a w hw hk => run_build2 rfl two_state (eval_of (known_op hk 38 4 5 (.head _) rfl rfl)) (eval_of (known_op hk 43 9 0 (.tail _ (.head _)) rfl rfl))), ?_⟩
    intro w hw
    rintro _ rfl
    rintro _ rfl
    rintro _ rfl
    rintro _ rfl
    rintro _ rfl
    rintro _ rfl
    rintro _ rfl
    rintro _ rfl
    rintro _ rfl
    rintro _ rfl
    rintro _ rfl
    change wpList _ _ _ _ _ _
    simp only [List.length_cons, List.length_nil, Nat.reduceAdd, Nat.zero_add, List.drop_succ_cons, List.drop_zero, Act.put, List.setIfInBounds_toArray, List.set_cons_succ, List.set_cons_zero]
    go_wp2_with (first | (refine ok_store hw rfl 62 _ _ rfl _ rfl _ rfl _ agg_state _ (by repeat (first | exact At.head _ | apply At.tail)) (by simp) (by simp) (ones_two _ _) ?_; clear hw; intro w hw))
    refine ret_ct rfl rfl rfl agg_state (hw.rows _ (.head _)) (by simp) rfl ⟨rfl, hw.below⟩
  · subst h
    have hj1 := join_gives q 0 (by omega)
    have hj2 := join_gives (q - 1) 3 (by omega)
    rw [show 4 * (q - 1) + 3 = 4 * q + 0 - 1 by omega] at hj2
    generalize 4 * q + 0 - 1 = b at *
    generalize 4 * q + 0 = a at *
    generalize q - 1 = l at *
    go_enter Tryd.func31, Tryd.ntmps31
    go_wp2_with (first | (refine ok_box (H := []) hw rfl 62 _ rfl _ rfl ?_; clear hw; intro k1 w hw) | (refine ok_alloc (H := []) hw rfl 62 rfl _ zero_state ?_; clear hw; intro k1 w hw) | (refine ok_alloc (H := [_]) hw rfl 62 rfl _ zero_state ?_; clear hw; intro k2 w hw) | (go_at_call 57; refine his.call0 hw ?_; clear hw; intro w hw))
    try simp only [Act.put, List.setIfInBounds_toArray, List.set_cons_succ, List.set_cons_zero]
    refine wp_region_draws [⟨[(2, none)], none, false, false⟩, ⟨[(27, some 0)], none, false, false⟩, ⟨[(28, some 1)], none, false, false⟩, ⟨[(2, none)], none, false, false⟩, ⟨[(30, some 3)], none, false, false⟩, ⟨[(31, some 4)], none, false, false⟩, ⟨[(29, some 2), (32, some 5)], none, false, false⟩] 45 (fun w => Ok Non w0 w [(k2, two 0 0), (k1, two q l)] []) (by kernel_rfl) rfl (by kernel_rfl) (hw.grow (below_drew' _)) (fun _ _ h hb => h.grow hb) (fun _ _ _ _ h => h) ?_
    clear hw
    refine ⟨_, stable_is _, ask_run rfl rfl rfl (fun a w hw hk => by
      have e2 := known_old hk 2 (.head _) (by simp only [List.getElem?_toArray, List.getElem?_cons_zero, List.getElem?_cons_succ, Option.getD_some]; rfl)
      go_simp
      (first | with_reducible rfl | exact ⟨rfl, rfl⟩)), ?_⟩
    refine ⟨_, stable_is _, ask_run rfl rfl rfl (fun a w hw hk => run_load_fst rfl (eval_of (known_op hk 27 0 0 (.head _) rfl rfl)) agg_wide (hw.has (by first | (apply Has.own; (repeat (first | assumption | exact List.mem_cons_self | apply List.mem_cons_of_mem)); done) | (apply Has.read; (repeat (first | assumption | exact List.mem_cons_self | apply List.mem_cons_of_mem)); done)))), ?_⟩
    refine ⟨_, stable_is _, ask_gives rfl rfl rfl (fun a w hw hk => run_call2 rfl ⟨_, Tryd.func65, by kernel_rfl, by kernel_rfl⟩ (eval_of (known_op hk 28 1 0 (.head _) rfl rfl)) rfl)
    hj1 (fun w hw => by simp), ?_⟩
    refine ⟨_, stable_is _, ask_run rfl rfl rfl (fun a w hw hk => by
      have e2 := known_old hk 2 (.head _) (by simp only [List.getElem?_toArray, List.getElem?_cons_zero, List.getElem?_cons_succ, Option.getD_some]; rfl)
      go_simp
      (first | with_reducible rfl | exact ⟨rfl, rfl⟩)), ?_⟩
    refine ⟨_, stable_is _, ask_run rfl rfl rfl (fun a w hw hk => run_load_snd rfl (eval_of (known_op hk 30 3 0 (.head _) rfl rfl)) agg_wide (hw.has (by first | (apply Has.own; (repeat (first | assumption | exact List.mem_cons_self | apply List.mem_cons_of_mem)); done) | (apply Has.read; (repeat (first | assumption | exact List.mem_cons_self | apply List.mem_cons_of_mem)); done)))), ?_⟩
    refine ⟨_, stable_is _, ask_gives rfl rfl rfl (fun a w hw hk => run_call2 rfl ⟨_, Tryd.func65, by kernel_rfl, by kernel_rfl⟩ (eval_of (known_op hk 31 4 0 (.head _) rfl rfl)) rfl)
    hj2 (fun w hw => by simp), ?_⟩
    refine ⟨_, stable_is _, ask_run rfl rfl rfl (fun a w hw hk => run_build2 rfl two_state (eval_of (known_op hk 29 2 3 (.head _) rfl rfl)) (eval_of (known_op hk 32 5 0 (.tail _ (.head _)) rfl rfl))), ?_⟩
    intro w hw
    rintro _ rfl
    rintro _ rfl
    rintro _ rfl
    rintro _ rfl
    rintro _ rfl
    rintro _ rfl
    rintro _ rfl
    change wpList _ _ _ _ _ _
    simp only [List.length_cons, List.length_nil, Nat.reduceAdd, Nat.zero_add, List.drop_succ_cons, List.drop_zero, Act.put, List.setIfInBounds_toArray, List.set_cons_succ, List.set_cons_zero]
    go_wp2_with (first | (refine ok_store hw rfl 62 _ _ rfl _ rfl _ rfl _ agg_state _ (by repeat (first | exact At.head _ | apply At.tail)) (by simp) (by simp) (ones_two _ _) ?_; clear hw; intro w hw))
    refine ret_ct rfl rfl rfl agg_state (hw.rows _ (.head _)) (by simp) rfl ⟨rfl, hw.below⟩
  · have hj1 := join_gives q d (by omega)
    have hj2 := join_gives q (d - 1) (by omega)
    rw [show 4 * q + (d - 1) = 4 * q + d - 1 by omega] at hj2
    have hb1 : decide (0 < d) = true := decide_eq_true h
    generalize 4 * q + d - 1 = b at *
    generalize 4 * q + d = a at *
    generalize q - 1 = l at *
    go_enter Tryd.func31, Tryd.ntmps31
    go_wp2_with (first | (refine ok_box (H := []) hw rfl 62 _ rfl _ rfl ?_; clear hw; intro k1 w hw) | (refine ok_alloc (H := []) hw rfl 62 rfl _ zero_state ?_; clear hw; intro k1 w hw) | (refine ok_alloc (H := [_]) hw rfl 62 rfl _ zero_state ?_; clear hw; intro k2 w hw) | (go_at_call 57; refine his.call0 hw ?_; clear hw; intro w hw))
    try simp only [Act.put, List.setIfInBounds_toArray, List.set_cons_succ, List.set_cons_zero]
    refine wp_region_draws [⟨[(2, none)], none, false, false⟩, ⟨[(14, some 0)], none, false, false⟩, ⟨[(1, none)], none, false, false⟩, ⟨[(15, some 1), (16, some 2)], none, false, false⟩, ⟨[(2, none)], none, false, false⟩, ⟨[(18, some 4)], none, false, false⟩, ⟨[(1, none)], none, false, false⟩, ⟨[(20, some 6)], none, false, false⟩, ⟨[(19, some 5), (21, some 7)], none, false, false⟩, ⟨[(17, some 3), (22, some 8)], none, false, false⟩] 45 (fun w => Ok Non w0 w [(k2, two 0 0), (k1, two q l)] []) (by kernel_rfl) rfl (by kernel_rfl) (hw.grow (below_drew' _)) (fun _ _ h hb => h.grow hb) (fun _ _ _ _ h => h) ?_
    clear hw
    refine ⟨_, stable_is _, ask_run rfl rfl rfl (fun a w hw hk => by
      have e2 := known_old hk 2 (.head _) (by simp only [List.getElem?_toArray, List.getElem?_cons_zero, List.getElem?_cons_succ, Option.getD_some]; rfl)
      go_simp
      (first | with_reducible rfl | exact ⟨rfl, rfl⟩)), ?_⟩
    refine ⟨_, stable_is _, ask_run rfl rfl rfl (fun a w hw hk => run_load_fst rfl (eval_of (known_op hk 14 0 0 (.head _) rfl rfl)) agg_wide (hw.has (by first | (apply Has.own; (repeat (first | assumption | exact List.mem_cons_self | apply List.mem_cons_of_mem)); done) | (apply Has.read; (repeat (first | assumption | exact List.mem_cons_self | apply List.mem_cons_of_mem)); done)))), ?_⟩
    refine ⟨_, stable_is _, ask_run rfl rfl rfl (fun a w hw hk => run_move rfl (eval_of (known_old hk 1 (.head _) (by simp only [List.getElem?_toArray, List.getElem?_cons_zero, List.getElem?_cons_succ, Option.getD_some]; rfl)))), ?_⟩
    refine ⟨_, stable_is _, ask_gives rfl rfl rfl (fun a w hw hk => run_call2 rfl ⟨_, Tryd.func65, by kernel_rfl, by kernel_rfl⟩ (eval_of (known_op hk 15 1 1 (.head _) rfl rfl)) (eval_of (known_op hk 16 2 0 (.tail _ (.head _)) rfl rfl)))
    hj1 (fun w hw => by simp), ?_⟩
    refine ⟨_, stable_is _, ask_run rfl rfl rfl (fun a w hw hk => by
      have e2 := known_old hk 2 (.head _) (by simp only [List.getElem?_toArray, List.getElem?_cons_zero, List.getElem?_cons_succ, Option.getD_some]; rfl)
      go_simp
      (first | with_reducible rfl | exact ⟨rfl, rfl⟩)), ?_⟩
    refine ⟨_, stable_is _, ask_run rfl rfl rfl (fun a w hw hk => run_load_fst rfl (eval_of (known_op hk 18 4 0 (.head _) rfl rfl)) agg_wide (hw.has (by first | (apply Has.own; (repeat (first | assumption | exact List.mem_cons_self | apply List.mem_cons_of_mem)); done) | (apply Has.read; (repeat (first | assumption | exact List.mem_cons_self | apply List.mem_cons_of_mem)); done)))), ?_⟩
    refine ⟨_, stable_is _, ask_run rfl rfl rfl (fun a w hw hk => run_move rfl (eval_of (known_old hk 1 (.head _) (by simp only [List.getElem?_toArray, List.getElem?_cons_zero, List.getElem?_cons_succ, Option.getD_some]; rfl)))), ?_⟩
    refine ⟨_, stable_is _, ask_run rfl rfl rfl (fun a w hw hk => run_sub_i rfl (eval_of (known_op hk 20 6 0 (.head _) rfl rfl)) rfl (by omega)), ?_⟩
    refine ⟨_, stable_is _, ask_gives rfl rfl rfl (fun a w hw hk => run_call2 rfl ⟨_, Tryd.func65, by kernel_rfl, by kernel_rfl⟩ (eval_of (known_op hk 19 5 2 (.head _) rfl rfl)) (eval_of (known_op hk 21 7 0 (.tail _ (.head _)) rfl rfl)))
    hj2 (fun w hw => by simp), ?_⟩
    refine ⟨_, stable_is _, ask_run rfl rfl rfl (fun a w hw hk => run_build2 rfl two_state (eval_of (known_op hk 17 3 5 (.head _) rfl rfl)) (eval_of (known_op hk 22 8 0 (.tail _ (.head _)) rfl rfl))), ?_⟩
    intro w hw
    rintro _ rfl
    rintro _ rfl
    rintro _ rfl
    rintro _ rfl
    rintro _ rfl
    rintro _ rfl
    rintro _ rfl
    rintro _ rfl
    rintro _ rfl
    rintro _ rfl
    change wpList _ _ _ _ _ _
    simp only [List.length_cons, List.length_nil, Nat.reduceAdd, Nat.zero_add, List.drop_succ_cons, List.drop_zero, Act.put, List.setIfInBounds_toArray, List.set_cons_succ, List.set_cons_zero]
    go_wp2_with (first | (refine ok_store hw rfl 62 _ _ rfl _ rfl _ rfl _ agg_state _ (by repeat (first | exact At.head _ | apply At.tail)) (by simp) (by simp) (ones_two _ _) ?_; clear hw; intro w hw))
    refine ret_ct rfl rfl rfl agg_state (hw.rows _ (.head _)) (by simp) rfl ⟨rfl, hw.below⟩
end Go.Proofs.YtcodmeljjphoeaaDoor
