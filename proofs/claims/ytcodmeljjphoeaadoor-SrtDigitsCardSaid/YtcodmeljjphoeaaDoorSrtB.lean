/-
  Layer 11: may two be divided? Layer 15: shifted up.
-/
import Derived.Test.YtcodmeljjphoeaaDoorSrtA
namespace Go.Proofs.YtcodmeljjphoeaaDoor
open Go.RowKit
set_option exponentiation.threshold 600
set_option linter.unusedVariables false
set_option linter.unusedSimpArgs false

/-- Why two can't be divided: an error's number. -/
def mayv (n d : Int) : Int := if d = 0 then 5 else if 2 ^ 120 ≤ d ∨ d * 2 ^ 128 ≤ n then 4 else 0
theorem mayv_zero {n d : Int} (h0 : 0 ≤ d) (h : mayv n d = 0) : 0 < d ∧ d < 2 ^ 120 ∧ n < d * 2 ^ 128 := by
  unfold mayv at h
  split at h
  · omega
  · split at h
    · omega
    · rename_i h1 h2
      exact ⟨by omega, by omega, by omega⟩

theorem e120 : (2 : Int) ^ 120 = 1329227995784915872903807060280344576 := by decide
theorem e128 : (2 : Int) ^ 128 = 340282366920938463463374607431768211456 := by decide

set_option maxRecDepth 100000 in
set_option maxHeartbeats 400000 in
theorem may_gives (n d : Int) (hn0 : 0 ≤ n) (hn1 : n < M) (hd0 : 0 ≤ d) (hd1 : d < M) : Gives Tryd.prog 21 #[W n, W d] [] (.int .i64 (mayv n d)) := by
  refine .mk fun w0 w hw => ?_
  by_cases hz : d = 0
  · subst hz
    rw [show mayv n 0 = 5 by unfold mayv; rw [if_pos rfl]]
    clear hn0 hn1 hd0 hd1
    go_enter Tryd.func21, Tryd.ntmps21
    go_wp2_with (first | (refine w_box (H := []) hw rfl 24 _ rfl _ rfl ?_; clear hw; intro k1 w hw) | (refine w_box (H := [_]) hw rfl 24 _ rfl _ rfl ?_; clear hw; intro k2 w hw) | (refine w_load hw rfl 24 _ rfl _ rfl agg_wide _ (by first | (apply Has.own; (repeat (first | assumption | exact List.mem_cons_self | apply List.mem_cons_of_mem)); done) | (apply Has.read; (repeat (first | assumption | exact List.mem_cons_self | apply List.mem_cons_of_mem)); done)) ?_) | (refine ok_buildz rfl rfl ?_) | (refine w_eql rfl _ _ _ rfl _ _ rfl rfl ?_))
    go_ret
    exact ⟨rfl, hw.below⟩
  · have hnz : ¬ d % M = 0 := by rw [Int.emod_eq_of_lt hd0 hd1]; exact hz
    have hlen := len_gives d hd0 hd1
    have hli := blen_le_iff (n := d) (by omega) 120
    by_cases hb : 2 ^ 120 ≤ d
    · rw [show mayv n d = 4 by unfold mayv; rw [if_neg hz, if_pos (.inl hb)]]
      have hgt : 120 < blen d := by
        rcases Nat.lt_or_ge 120 (blen d) with h | h
        · exact h
        · have := hli.1 h; omega
      clear hn0 hn1 hd0 hd1 hb hli hz
      generalize blen d = l at *
      have hgt2 : decide ((120 : Int) < l) = true := decide_eq_true (by omega)
      go_enter Tryd.func21, Tryd.ntmps21
      go_wp2_with (first | (refine w_box (H := []) hw rfl 24 _ rfl _ rfl ?_; clear hw; intro k1 w hw) | (refine w_box (H := [_]) hw rfl 24 _ rfl _ rfl ?_; clear hw; intro k2 w hw) | (refine w_load hw rfl 24 _ rfl _ rfl agg_wide _ (by first | (apply Has.own; (repeat (first | assumption | exact List.mem_cons_self | apply List.mem_cons_of_mem)); done) | (apply Has.read; (repeat (first | assumption | exact List.mem_cons_self | apply List.mem_cons_of_mem)); done)) ?_) | (refine ok_buildz rfl rfl ?_) | (refine w_eql rfl _ _ _ rfl _ _ rfl rfl ?_))
      try simp only [Act.put, List.setIfInBounds_toArray, List.set_cons_succ, List.set_cons_zero]
      refine wp_region_draws [⟨[(3, none)], none, false, false⟩, ⟨[(10, some 0)], none, false, false⟩, ⟨[(11, some 1)], none, false, false⟩, ⟨[(12, some 2)], none, false, false⟩, ⟨[(2, none), (13, some 3)], some (13, false), false, false⟩, ⟨[(3, none), (13, some 3)], some (13, false), false, false⟩, ⟨[(15, some 5), (13, some 3)], some (13, false), false, false⟩, ⟨[(14, some 4), (16, some 6), (13, some 3)], some (13, false), false, false⟩, ⟨[(17, some 7), (13, some 3)], some (13, false), false, false⟩, ⟨[(13, some 3), (18, some 8)], none, false, false⟩, ⟨[(19, some 9)], none, false, false⟩] 20 (fun w => Ok Non w0 w [(k2, limbs 8 d), (k1, limbs 8 n)] []) (by kernel_rfl) rfl (by kernel_rfl) (hw.grow (below_drew' _)) (fun _ _ h hb => h.grow hb) (fun _ _ _ _ h => h) ?_
      clear hw
      refine ⟨_, stable_is _, ask_run rfl rfl rfl (fun a w hw hk => run_load_w rfl (eval_of (known_old hk 3 (.head _) rfl)) agg_wide (hw.has (by first | (apply Has.own; (repeat (first | assumption | exact List.mem_cons_self | apply List.mem_cons_of_mem)); done) | (apply Has.read; (repeat (first | assumption | exact List.mem_cons_self | apply List.mem_cons_of_mem)); done)))), ?_⟩
      refine ⟨_, stable_is _, ask_gives rfl rfl rfl (fun a w hw hk => run_call1 rfl ⟨_, Tryd.func44, by kernel_rfl, by kernel_rfl⟩ (eval_of (known_op hk 10 0 0 (.head _) rfl rfl)))
    hlen (fun w hw => by simp), ?_⟩
      refine ⟨_, stable_is _, ask_run (v := .bool true) rfl rfl rfl (fun a w hw hk => (run_gtr rfl (eval_of (known_op hk 11 1 0 (.head _) rfl rfl)) rfl).trans (by rw [hgt2])), ?_⟩
      refine ⟨_, stable_is _, ask_run rfl rfl rfl (fun a w hw hk => run_move rfl (eval_of (known_op hk 12 2 0 (.head _) rfl rfl))), ?_⟩
      refine ⟨_, stable_is _, ask_not rfl rfl rfl (fun a w hw hk => getD_of (known_op hk 13 3 0 (.tail _ (.head _)) rfl rfl)), ?_⟩
      refine ⟨_, stable_is _, ask_not rfl rfl rfl (fun a w hw hk => getD_of (known_op hk 13 3 1 (.tail _ (.head _)) rfl rfl)), ?_⟩
      refine ⟨_, stable_is _, ask_not rfl rfl rfl (fun a w hw hk => getD_of (known_op hk 13 3 2 (.tail _ (.head _)) rfl rfl)), ?_⟩
      refine ⟨_, stable_is _, ask_not rfl rfl rfl (fun a w hw hk => getD_of (known_op hk 13 3 3 (.tail _ (.tail _ (.head _))) rfl rfl)), ?_⟩
      refine ⟨_, stable_is _, ask_not rfl rfl rfl (fun a w hw hk => getD_of (known_op hk 13 3 4 (.tail _ (.head _)) rfl rfl)), ?_⟩
      refine ⟨_, stable_is _, ask_run rfl rfl rfl (fun a w hw hk => by
      have e13 := known_op hk 13 3 5 (.head _) rfl rfl
      have e18 := known_op hk 18 8 0 (.tail _ (.head _)) rfl rfl
      go_simp
      (first | with_reducible rfl | exact ⟨rfl, rfl⟩)), ?_⟩
      refine ⟨_, stable_is _, ask_run rfl rfl rfl (fun a w hw hk => run_assign rfl (eval_of (known_op hk 19 9 0 (.head _) rfl rfl))), ?_⟩
      intro w hw
      rintro _ rfl
      rintro _ rfl
      rintro _ rfl
      rintro _ rfl
      rintro _ rfl
      rintro _ rfl
      rintro _ rfl
      rintro _ rfl
      rintro _ rfl
      rintro _ rfl
      rintro _ rfl
      change wpList _ _ _ _ _ _
      simp only [List.length_cons, List.length_nil, Nat.reduceAdd, Nat.zero_add, List.drop_succ_cons, List.drop_zero, Act.put, List.setIfInBounds_toArray, List.set_cons_succ, List.set_cons_zero]
      go_wp2_with fail
      go_ret
      exact ⟨rfl, hw.below⟩
    · have hle : blen d ≤ 120 := hli.2 (by omega)
      have hsh := shl_gives d 128
      rw [show (clampv 128).toNat = 128 by rfl] at hsh
      have hdM : d * 2 ^ 128 < M := by
        have := Int.mul_lt_mul_of_pos_right (show d < 2 ^ 120 by omega) (pow_pos2 128)
        rw [← Int.pow_add] at this
        exact Int.lt_trans this (pow_in (by omega))
      have hd00 : 0 ≤ d * 2 ^ 128 := Int.mul_nonneg hd0 (by have := pow_pos2 128; omega)
      have hcm := cmp_gives n (d * 2 ^ 128) hn0 hn1 hd00 hdM
      have hcv : decide (0 ≤ cmpv n (d * 2 ^ 128)) = decide (d * 2 ^ 128 ≤ n) := by
        rw [decide_eq_decide]; unfold cmpv
        split
        · omega
        · split <;> omega
      have hm : mayv n d = if d * 2 ^ 128 ≤ n then 4 else 0 := by
        unfold mayv
        rw [if_neg hz]
        by_cases h : d * 2 ^ 128 ≤ n
        · rw [if_pos (.inr h), if_pos h]
        · rw [if_neg (by omega), if_neg h]
      rw [hm]
      have Hcv := Lib.hid hcv
      clear hn0 hn1 hd0 hd1 hb hli hz hdM hd00 hm hcv
      generalize blen d = l at *
      generalize d * 2 ^ 128 = e at *
      generalize cmpv n e = c at *
      obtain ⟨mv, hmv⟩ : ∃ mv : Int, mv = if e ≤ n then 4 else 0 := ⟨_, rfl⟩
      rw [← hmv]
      have Hmv := Lib.hid hmv
      clear hmv
      have hgt2 : decide ((120 : Int) < l) = false := decide_eq_false (by omega)
      go_enter Tryd.func21, Tryd.ntmps21
      go_wp2_with (first | (refine w_box (H := []) hw rfl 24 _ rfl _ rfl ?_; clear hw; intro k1 w hw) | (refine w_box (H := [_]) hw rfl 24 _ rfl _ rfl ?_; clear hw; intro k2 w hw) | (refine w_load hw rfl 24 _ rfl _ rfl agg_wide _ (by first | (apply Has.own; (repeat (first | assumption | exact List.mem_cons_self | apply List.mem_cons_of_mem)); done) | (apply Has.read; (repeat (first | assumption | exact List.mem_cons_self | apply List.mem_cons_of_mem)); done)) ?_) | (refine ok_buildz rfl rfl ?_) | (refine w_eql rfl _ _ _ rfl _ _ rfl rfl ?_))
      try simp only [Act.put, List.setIfInBounds_toArray, List.set_cons_succ, List.set_cons_zero]
      refine wp_region_draws [⟨[(3, none)], none, false, false⟩, ⟨[(10, some 0)], none, false, false⟩, ⟨[(11, some 1)], none, false, false⟩, ⟨[(12, some 2)], none, false, false⟩, ⟨[(2, none), (13, some 3)], some (13, false), false, false⟩, ⟨[(3, none), (13, some 3)], some (13, false), false, false⟩, ⟨[(15, some 5), (13, some 3)], some (13, false), false, false⟩, ⟨[(14, some 4), (16, some 6), (13, some 3)], some (13, false), false, false⟩, ⟨[(17, some 7), (13, some 3)], some (13, false), false, false⟩, ⟨[(13, some 3), (18, some 8)], none, false, false⟩, ⟨[(19, some 9)], none, false, false⟩] 20 (fun w => Ok Non w0 w [(k2, limbs 8 d), (k1, limbs 8 n)] []) (by kernel_rfl) rfl (by kernel_rfl) (hw.grow (below_drew' _)) (fun _ _ h hb => h.grow hb) (fun _ _ _ _ h => h) ?_
      clear hw
      refine ⟨_, stable_is _, ask_run rfl rfl rfl (fun a w hw hk => run_load_w rfl (eval_of (known_old hk 3 (.head _) rfl)) agg_wide (hw.has (by first | (apply Has.own; (repeat (first | assumption | exact List.mem_cons_self | apply List.mem_cons_of_mem)); done) | (apply Has.read; (repeat (first | assumption | exact List.mem_cons_self | apply List.mem_cons_of_mem)); done)))), ?_⟩
      refine ⟨_, stable_is _, ask_gives rfl rfl rfl (fun a w hw hk => run_call1 rfl ⟨_, Tryd.func44, by kernel_rfl, by kernel_rfl⟩ (eval_of (known_op hk 10 0 0 (.head _) rfl rfl)))
    hlen (fun w hw => by simp), ?_⟩
      refine ⟨_, stable_is _, ask_run (v := .bool false) rfl rfl rfl (fun a w hw hk => (run_gtr rfl (eval_of (known_op hk 11 1 0 (.head _) rfl rfl)) rfl).trans (by rw [hgt2])), ?_⟩
      refine ⟨_, stable_is _, ask_run rfl rfl rfl (fun a w hw hk => run_move rfl (eval_of (known_op hk 12 2 0 (.head _) rfl rfl))), ?_⟩
      refine ⟨_, stable_is _, ask_run_if rfl rfl rfl (fun a w hw hk => getD_of (known_op hk 13 3 0 (.tail _ (.head _)) rfl rfl)) (fun a w hw hk => run_load_w rfl (eval_of (known_old hk 2 (.head _) rfl)) agg_wide (hw.has (by first | (apply Has.own; (repeat (first | assumption | exact List.mem_cons_self | apply List.mem_cons_of_mem)); done) | (apply Has.read; (repeat (first | assumption | exact List.mem_cons_self | apply List.mem_cons_of_mem)); done)))), ?_⟩
      refine ⟨_, stable_is _, ask_run_if rfl rfl rfl (fun a w hw hk => getD_of (known_op hk 13 3 1 (.tail _ (.head _)) rfl rfl)) (fun a w hw hk => run_load_w rfl (eval_of (known_old hk 3 (.head _) rfl)) agg_wide (hw.has (by first | (apply Has.own; (repeat (first | assumption | exact List.mem_cons_self | apply List.mem_cons_of_mem)); done) | (apply Has.read; (repeat (first | assumption | exact List.mem_cons_self | apply List.mem_cons_of_mem)); done)))), ?_⟩
      refine ⟨_, stable_is _, ask_gives_if rfl rfl rfl (fun a w hw hk => getD_of (known_op hk 13 3 2 (.tail _ (.head _)) rfl rfl)) (fun a w hw hk => run_call2 rfl ⟨_, Tryd.func45, by kernel_rfl, by kernel_rfl⟩ (eval_of (known_op hk 15 5 0 (.head _) rfl rfl)) rfl)
    hsh (fun w hw => by simp), ?_⟩
      refine ⟨_, stable_is _, ask_gives_if rfl rfl rfl (fun a w hw hk => getD_of (known_op hk 13 3 3 (.tail _ (.tail _ (.head _))) rfl rfl)) (fun a w hw hk => run_call2 rfl ⟨_, Tryd.func49, by kernel_rfl, by kernel_rfl⟩ (eval_of (known_op hk 14 4 2 (.head _) rfl rfl)) (eval_of (known_op hk 16 6 0 (.tail _ (.head _)) rfl rfl)))
    hcm (fun w hw => by simp), ?_⟩
      refine ⟨_, stable_is _, ask_run_if rfl rfl rfl (fun a w hw hk => getD_of (known_op hk 13 3 4 (.tail _ (.head _)) rfl rfl)) (fun a w hw hk => run_geq rfl (eval_of (known_op hk 17 7 0 (.head _) rfl rfl)) rfl), ?_⟩
      refine ⟨_, stable_is _, ask_run rfl rfl rfl (fun a w hw hk => by
      have e13 := known_op hk 13 3 5 (.head _) rfl rfl
      have e18 := known_op hk 18 8 0 (.tail _ (.head _)) rfl rfl
      go_simp
      (first | with_reducible rfl | exact ⟨rfl, rfl⟩)), ?_⟩
      refine ⟨_, stable_is _, ask_run rfl rfl rfl (fun a w hw hk => run_assign rfl (eval_of (known_op hk 19 9 0 (.head _) rfl rfl))), ?_⟩
      intro w hw
      rintro _ rfl
      rintro _ rfl
      rintro _ rfl
      rintro _ rfl
      rintro _ rfl
      rintro _ rfl
      rintro _ rfl
      rintro _ rfl
      rintro _ rfl
      rintro _ rfl
      rintro _ rfl
      change wpList _ _ _ _ _ _
      simp only [List.length_cons, List.length_nil, Nat.reduceAdd, Nat.zero_add, List.drop_succ_cons, List.drop_zero, Act.put, List.setIfInBounds_toArray, List.set_cons_succ, List.set_cons_zero]
      rw [Hcv.out]
      by_cases h : e ≤ n
      · have Hr := Lib.hid (Hmv.out.trans (if_pos h))
        rw [decide_eq_true h]
        clear h Hmv
        go_wp2_with fail
        go_ret
        exact ⟨by rw [Hr.out]; rfl, hw.below⟩
      · have Hr := Lib.hid (Hmv.out.trans (if_neg h))
        rw [decide_eq_false h]
        clear h Hmv
        go_wp2_with fail
        go_ret
        exact ⟨by rw [Hr.out]; rfl, hw.below⟩

/-- By how much a divisor is shifted up. -/
def sby (d : Int) : Nat := 128 - blen d
theorem sby_bds {d : Int} (h0 : 0 < d) (h1 : d < 2 ^ 120) : 2 ^ 127 ≤ d * 2 ^ sby d ∧ d * 2 ^ sby d < 2 ^ 128 ∧ 8 ≤ sby d ∧ sby d < 128 := by
  have hle := (blen_le_iff h0 120).2 h1
  obtain ⟨l1, l2, l3⟩ := blen_spec h0
  have hp := pow_pos2 (sby d)
  have e : blen d + sby d = 128 := by unfold sby; omega
  refine ⟨?_, ?_, by unfold sby; omega, by unfold sby; omega⟩
  · have h := Int.mul_le_mul_of_nonneg_right l2 (show 0 ≤ (2 : Int) ^ sby d by omega)
    rw [← Int.pow_add] at h
    exact Int.le_trans (pow_mono2 (by omega)) h
  · have h := Int.mul_lt_mul_of_pos_right l3 hp
    rw [← Int.pow_add, e] at h
    exact h

set_option maxRecDepth 10000 in
theorem snorm_gives (d : Int) (h0 : 0 < d) (h1 : d < 2 ^ 120) : Gives Tryd.prog 15 #[W d] [] (.tuple #[W (d * 2 ^ sby d), .int .i64 (sby d), .bool true]) := by
  refine .mk fun w0 w hw => ?_
  have hle := (blen_le_iff h0 120).2 h1
  obtain ⟨l1, _, _⟩ := blen_spec h0
  have hlen := len_gives d (by omega) (Int.lt_trans h1 (pow_in (by omega)))
  have hsh := shl_gives d (128 - (blen d : Int))
  have hb : ((sby d : Nat) : Int) = 128 - (blen d : Int) := by unfold sby; omega
  rw [show (clampv (128 - (blen d : Int))).toNat = sby d by unfold clampv sby; omega] at hsh
  rw [hb]
  clear hb
  generalize d * 2 ^ sby d = D at *
  generalize blen d = l at *
  have hz : ((l : Int) == 0) = false := by rw [beq_eq_false_iff_ne]; omega
  go_enter Tryd.func15, Tryd.ntmps15
  go_wp2_with (first | (refine w_box (H := []) hw rfl 24 _ rfl _ rfl ?_; clear hw; intro k1 w hw) | (refine ok_alloc (H := []) hw rfl 24 rfl _ zero_wide ?_; clear hw; intro k1 w hw) | (refine ok_alloc (H := [_]) hw rfl 24 rfl _ zero_wide ?_; clear hw; intro k2 w hw) | (refine w_load hw rfl 24 _ rfl _ rfl agg_wide _ (by first | (apply Has.own; (repeat (first | assumption | exact List.mem_cons_self | apply List.mem_cons_of_mem)); done) | (apply Has.read; (repeat (first | assumption | exact List.mem_cons_self | apply List.mem_cons_of_mem)); done)) ?_) | (refine w_store hw rfl 24 _ _ rfl _ rfl _ rfl agg_wide _ (by repeat (first | exact At.head _ | apply At.tail)) ?_; clear hw; intro w hw) | (go_at_call 44; refine hlen.call0 hw ?_; clear hw; intro w hw) | (go_at_call 45; refine hsh.call0 hw ?_; clear hw; intro w hw))
  refine ret_ctt rfl rfl rfl rfl agg_wide (hw.rows _ (.head _)) (by simp) rfl ⟨rfl, hw.below⟩
set_option maxRecDepth 10000 in
theorem snorm_none (d : Int) (h0 : 0 ≤ d) (hM : d < M) (h1 : d = 0 ∨ 2 ^ 120 ≤ d) : Gives Tryd.prog 15 #[W d] [] (.tuple #[W 0, .int .i64 0, .bool false]) := by
  refine .mk fun w0 w hw => ?_
  have hlen := len_gives d h0 hM
  have hl : blen d = 0 ∨ 120 < blen d := by
    rcases h1 with rfl | h1
    · left; exact blen_zero (by omega)
    · right; exact le_blen h1
  generalize blen d = l at *
  go_enter Tryd.func15, Tryd.ntmps15
  rcases hl with rfl | hl
  · go_wp2_with (first | (refine w_box (H := []) hw rfl 24 _ rfl _ rfl ?_; clear hw; intro k1 w hw) | (refine ok_alloc (H := []) hw rfl 24 rfl _ zero_wide ?_; clear hw; intro k1 w hw) | (refine ok_alloc (H := [_]) hw rfl 24 rfl _ zero_wide ?_; clear hw; intro k2 w hw) | (refine w_load hw rfl 24 _ rfl _ rfl agg_wide _ (by first | (apply Has.own; (repeat (first | assumption | exact List.mem_cons_self | apply List.mem_cons_of_mem)); done) | (apply Has.read; (repeat (first | assumption | exact List.mem_cons_self | apply List.mem_cons_of_mem)); done)) ?_) | (refine ok_buildz rfl rfl ?_) | (refine w_store hw rfl 24 _ _ rfl _ rfl _ rfl agg_wide _ (by repeat (first | exact At.head _ | apply At.tail)) ?_; clear hw; intro w hw) | (go_at_call 44; refine hlen.call0 hw ?_; clear hw; intro w hw))
    refine ret_ctt rfl rfl rfl rfl agg_wide (hw.rows _ (.head _)) (by simp) rfl ⟨rfl, hw.below⟩
  · have hz : ((l : Int) == 0) = false := by rw [beq_eq_false_iff_ne]; omega
    go_wp2_with (first | (refine w_box (H := []) hw rfl 24 _ rfl _ rfl ?_; clear hw; intro k1 w hw) | (refine ok_alloc (H := []) hw rfl 24 rfl _ zero_wide ?_; clear hw; intro k1 w hw) | (refine ok_alloc (H := [_]) hw rfl 24 rfl _ zero_wide ?_; clear hw; intro k2 w hw) | (refine w_load hw rfl 24 _ rfl _ rfl agg_wide _ (by first | (apply Has.own; (repeat (first | assumption | exact List.mem_cons_self | apply List.mem_cons_of_mem)); done) | (apply Has.read; (repeat (first | assumption | exact List.mem_cons_self | apply List.mem_cons_of_mem)); done)) ?_) | (refine ok_buildz rfl rfl ?_) | (refine w_store hw rfl 24 _ _ rfl _ rfl _ rfl agg_wide _ (by repeat (first | exact At.head _ | apply At.tail)) ?_; clear hw; intro w hw) | (go_at_call 44; refine hlen.call0 hw ?_; clear hw; intro w hw))
    refine ret_ctt rfl rfl rfl rfl agg_wide (hw.rows _ (.head _)) (by simp) rfl ⟨rfl, hw.below⟩
end Go.Proofs.YtcodmeljjphoeaaDoor
