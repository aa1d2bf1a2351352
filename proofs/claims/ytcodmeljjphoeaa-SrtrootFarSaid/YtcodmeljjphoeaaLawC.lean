/-
  Layer 16: the law on the root so far, walked.
-/
import Derived.Test.YtcodmeljjphoeaaLawA
namespace Go.Proofs.Ytcodmeljjphoeaa
open Go.RowKit
set_option exponentiation.threshold 600
set_option linter.unusedVariables false
set_option linter.unusedSimpArgs false

set_option maxRecDepth 100000 in
set_option maxHeartbeats 2000000 in
theorem far_big_low (n st : Int) (h0 : 0 ≤ n) (h1 : n < M) (hn : 2 ^ 256 ≤ n) (hs : st < 0) : Gives Try.prog 4 #[W n, .int .i64 st] [] (.bool true) := by
  refine .mk fun w0 w hw => ?_
  have hfar := far_range n st h0 h1 (.inl hs)
  have hnorm := norm_none n h0 h1 (.inr hn)
  have hmay := may12_gives n h0 h1
  rw [decide_eq_false (by omega)] at hmay
  have hnz : ¬ n % M = 0 := by rw [Int.emod_eq_of_lt h0 h1]; have := z256; omega
  clear h0 h1 hn
  go_enter Try.func4, Try.ntmps4
  go_wp2_with (first | (refine w_box (H := []) hw rfl 24 _ rfl _ rfl ?_; clear hw; intro k1 w hw) | (refine ok_alloc (H := []) hw rfl 24 rfl _ zero_wide ?_; clear hw; intro k1 w hw) | (refine ok_alloc (H := [_]) hw rfl 24 rfl _ zero_wide ?_; clear hw; intro k2 w hw) | (refine ok_alloc (H := [_, _]) hw rfl 24 rfl _ zero_wide ?_; clear hw; intro k3 w hw) | (refine ok_alloc (H := [_, _, _]) hw rfl 24 rfl _ zero_wide ?_; clear hw; intro k4 w hw) | (refine ok_alloc (H := [_, _, _, _]) hw rfl 24 rfl _ zero_wide ?_; clear hw; intro k5 w hw) | (refine w_load hw rfl 24 _ rfl _ rfl agg_wide _ (by first | (apply Has.own; (repeat (first | assumption | exact List.mem_cons_self | apply List.mem_cons_of_mem)); done) | (apply Has.read; (repeat (first | assumption | exact List.mem_cons_self | apply List.mem_cons_of_mem)); done)) ?_) | (refine w_store hw rfl 24 _ _ rfl _ rfl _ rfl agg_wide _ (by repeat (first | exact At.head _ | apply At.tail)) ?_; clear hw; intro w hw) | (refine ok_buildz rfl rfl ?_) | (refine w_eql rfl _ _ _ rfl _ _ rfl rfl ?_) | (refine unguard rfl ?_; first | (refine w_load hw rfl 24 _ rfl _ rfl agg_wide _ (by first | (apply Has.own; (repeat (first | assumption | exact List.mem_cons_self | apply List.mem_cons_of_mem)); done) | (apply Has.read; (repeat (first | assumption | exact List.mem_cons_self | apply List.mem_cons_of_mem)); done)) ?_) | (refine ok_buildz rfl rfl ?_) | (refine w_eql rfl _ _ _ rfl _ _ rfl rfl ?_) | (refine w_neq rfl _ _ _ rfl _ _ rfl rfl ?_)) | (go_at_call 15; refine (hfar).call0 hw ?_; clear hw; intro w hw) | (go_at_call 16; refine (hnorm).call0 hw ?_; clear hw; intro w hw) | (go_at_call 11; refine (hmay).call0 hw ?_; clear hw; intro w hw) | (go_at_call 12; refine (awake16_gives).call0 hw ?_; clear hw; intro w hw))
  go_ret
  exact ⟨rfl, hw.below⟩

set_option maxRecDepth 100000 in
set_option maxHeartbeats 2000000 in
theorem far_zero_low (n st : Int) (h0 : 0 ≤ n) (h1 : n < M) (hn : n = 0) (hs : st < 0) : Gives Try.prog 4 #[W n, .int .i64 st] [] (.bool true) := by
  refine .mk fun w0 w hw => ?_
  have hfar := far_range n st h0 h1 (.inl hs)
  have hnorm := norm_none n h0 h1 (.inl hn)
  have hmay := may12_gives n h0 h1
  rw [decide_eq_true (by have := z256; omega)] at hmay
  subst hn
  clear h0 h1
  go_enter Try.func4, Try.ntmps4
  go_wp2_with (first | (refine w_box (H := []) hw rfl 24 _ rfl _ rfl ?_; clear hw; intro k1 w hw) | (refine ok_alloc (H := []) hw rfl 24 rfl _ zero_wide ?_; clear hw; intro k1 w hw) | (refine ok_alloc (H := [_]) hw rfl 24 rfl _ zero_wide ?_; clear hw; intro k2 w hw) | (refine ok_alloc (H := [_, _]) hw rfl 24 rfl _ zero_wide ?_; clear hw; intro k3 w hw) | (refine ok_alloc (H := [_, _, _]) hw rfl 24 rfl _ zero_wide ?_; clear hw; intro k4 w hw) | (refine ok_alloc (H := [_, _, _, _]) hw rfl 24 rfl _ zero_wide ?_; clear hw; intro k5 w hw) | (refine w_load hw rfl 24 _ rfl _ rfl agg_wide _ (by first | (apply Has.own; (repeat (first | assumption | exact List.mem_cons_self | apply List.mem_cons_of_mem)); done) | (apply Has.read; (repeat (first | assumption | exact List.mem_cons_self | apply List.mem_cons_of_mem)); done)) ?_) | (refine w_store hw rfl 24 _ _ rfl _ rfl _ rfl agg_wide _ (by repeat (first | exact At.head _ | apply At.tail)) ?_; clear hw; intro w hw) | (refine ok_buildz rfl rfl ?_) | (refine w_eql rfl _ _ _ rfl _ _ rfl rfl ?_) | (refine unguard rfl ?_; first | (refine w_load hw rfl 24 _ rfl _ rfl agg_wide _ (by first | (apply Has.own; (repeat (first | assumption | exact List.mem_cons_self | apply List.mem_cons_of_mem)); done) | (apply Has.read; (repeat (first | assumption | exact List.mem_cons_self | apply List.mem_cons_of_mem)); done)) ?_) | (refine ok_buildz rfl rfl ?_) | (refine w_eql rfl _ _ _ rfl _ _ rfl rfl ?_) | (refine w_neq rfl _ _ _ rfl _ _ rfl rfl ?_)) | (go_at_call 15; refine (hfar).call0 hw ?_; clear hw; intro w hw) | (go_at_call 16; refine (hnorm).call0 hw ?_; clear hw; intro w hw) | (go_at_call 11; refine (hmay).call0 hw ?_; clear hw; intro w hw) | (go_at_call 12; refine (awake16_gives).call0 hw ?_; clear hw; intro w hw))
  go_ret
  exact ⟨rfl, hw.below⟩

set_option maxRecDepth 100000 in
set_option maxHeartbeats 2000000 in
theorem far_big_high (n st : Int) (h0 : 0 ≤ n) (h1 : n < M) (hn : 2 ^ 256 ≤ n) (hs : 64 < st) : Gives Try.prog 4 #[W n, .int .i64 st] [] (.bool true) := by
  refine .mk fun w0 w hw => ?_
  have hfar := far_range n st h0 h1 (.inr hs)
  have hnorm := norm_none n h0 h1 (.inr hn)
  have hmay := may12_gives n h0 h1
  rw [decide_eq_false (by omega)] at hmay
  have hnz : ¬ n % M = 0 := by rw [Int.emod_eq_of_lt h0 h1]; have := z256; omega
  clear h0 h1 hn
  go_enter Try.func4, Try.ntmps4
  go_wp2_with (first | (refine w_box (H := []) hw rfl 24 _ rfl _ rfl ?_; clear hw; intro k1 w hw) | (refine ok_alloc (H := []) hw rfl 24 rfl _ zero_wide ?_; clear hw; intro k1 w hw) | (refine ok_alloc (H := [_]) hw rfl 24 rfl _ zero_wide ?_; clear hw; intro k2 w hw) | (refine ok_alloc (H := [_, _]) hw rfl 24 rfl _ zero_wide ?_; clear hw; intro k3 w hw) | (refine ok_alloc (H := [_, _, _]) hw rfl 24 rfl _ zero_wide ?_; clear hw; intro k4 w hw) | (refine ok_alloc (H := [_, _, _, _]) hw rfl 24 rfl _ zero_wide ?_; clear hw; intro k5 w hw) | (refine w_load hw rfl 24 _ rfl _ rfl agg_wide _ (by first | (apply Has.own; (repeat (first | assumption | exact List.mem_cons_self | apply List.mem_cons_of_mem)); done) | (apply Has.read; (repeat (first | assumption | exact List.mem_cons_self | apply List.mem_cons_of_mem)); done)) ?_) | (refine w_store hw rfl 24 _ _ rfl _ rfl _ rfl agg_wide _ (by repeat (first | exact At.head _ | apply At.tail)) ?_; clear hw; intro w hw) | (refine ok_buildz rfl rfl ?_) | (refine w_eql rfl _ _ _ rfl _ _ rfl rfl ?_) | (refine unguard rfl ?_; first | (refine w_load hw rfl 24 _ rfl _ rfl agg_wide _ (by first | (apply Has.own; (repeat (first | assumption | exact List.mem_cons_self | apply List.mem_cons_of_mem)); done) | (apply Has.read; (repeat (first | assumption | exact List.mem_cons_self | apply List.mem_cons_of_mem)); done)) ?_) | (refine ok_buildz rfl rfl ?_) | (refine w_eql rfl _ _ _ rfl _ _ rfl rfl ?_) | (refine w_neq rfl _ _ _ rfl _ _ rfl rfl ?_)) | (go_at_call 15; refine (hfar).call0 hw ?_; clear hw; intro w hw) | (go_at_call 16; refine (hnorm).call0 hw ?_; clear hw; intro w hw) | (go_at_call 11; refine (hmay).call0 hw ?_; clear hw; intro w hw) | (go_at_call 12; refine (awake16_gives).call0 hw ?_; clear hw; intro w hw))
  go_ret
  exact ⟨rfl, hw.below⟩

set_option maxRecDepth 100000 in
set_option maxHeartbeats 2000000 in
theorem far_zero_high (n st : Int) (h0 : 0 ≤ n) (h1 : n < M) (hn : n = 0) (hs : 64 < st) : Gives Try.prog 4 #[W n, .int .i64 st] [] (.bool true) := by
  refine .mk fun w0 w hw => ?_
  have hfar := far_range n st h0 h1 (.inr hs)
  have hnorm := norm_none n h0 h1 (.inl hn)
  have hmay := may12_gives n h0 h1
  rw [decide_eq_true (by have := z256; omega)] at hmay
  subst hn
  clear h0 h1
  go_enter Try.func4, Try.ntmps4
  go_wp2_with (first | (refine w_box (H := []) hw rfl 24 _ rfl _ rfl ?_; clear hw; intro k1 w hw) | (refine ok_alloc (H := []) hw rfl 24 rfl _ zero_wide ?_; clear hw; intro k1 w hw) | (refine ok_alloc (H := [_]) hw rfl 24 rfl _ zero_wide ?_; clear hw; intro k2 w hw) | (refine ok_alloc (H := [_, _]) hw rfl 24 rfl _ zero_wide ?_; clear hw; intro k3 w hw) | (refine ok_alloc (H := [_, _, _]) hw rfl 24 rfl _ zero_wide ?_; clear hw; intro k4 w hw) | (refine ok_alloc (H := [_, _, _, _]) hw rfl 24 rfl _ zero_wide ?_; clear hw; intro k5 w hw) | (refine w_load hw rfl 24 _ rfl _ rfl agg_wide _ (by first | (apply Has.own; (repeat (first | assumption | exact List.mem_cons_self | apply List.mem_cons_of_mem)); done) | (apply Has.read; (repeat (first | assumption | exact List.mem_cons_self | apply List.mem_cons_of_mem)); done)) ?_) | (refine w_store hw rfl 24 _ _ rfl _ rfl _ rfl agg_wide _ (by repeat (first | exact At.head _ | apply At.tail)) ?_; clear hw; intro w hw) | (refine ok_buildz rfl rfl ?_) | (refine w_eql rfl _ _ _ rfl _ _ rfl rfl ?_) | (refine unguard rfl ?_; first | (refine w_load hw rfl 24 _ rfl _ rfl agg_wide _ (by first | (apply Has.own; (repeat (first | assumption | exact List.mem_cons_self | apply List.mem_cons_of_mem)); done) | (apply Has.read; (repeat (first | assumption | exact List.mem_cons_self | apply List.mem_cons_of_mem)); done)) ?_) | (refine ok_buildz rfl rfl ?_) | (refine w_eql rfl _ _ _ rfl _ _ rfl rfl ?_) | (refine w_neq rfl _ _ _ rfl _ _ rfl rfl ?_)) | (go_at_call 15; refine (hfar).call0 hw ?_; clear hw; intro w hw) | (go_at_call 16; refine (hnorm).call0 hw ?_; clear hw; intro w hw) | (go_at_call 11; refine (hmay).call0 hw ?_; clear hw; intro w hw) | (go_at_call 12; refine (awake16_gives).call0 hw ?_; clear hw; intro w hw))
  go_ret
  exact ⟨rfl, hw.below⟩

set_option maxRecDepth 100000 in
set_option maxHeartbeats 2000000 in
theorem far_big_in (n st : Int) (h0 : 0 ≤ n) (h1 : n < M) (hn : 2 ^ 256 ≤ n) (hs : 0 ≤ st ∧ st ≤ 64) : Gives Try.prog 4 #[W n, .int .i64 st] [] (.bool true) := by
  refine .mk fun w0 w hw => ?_
  have hfar := far_none n st h0 h1 (.inr hn) hs
  have e : rerr n = 4 := by unfold rerr; rw [if_pos hn]
  rw [e] at hfar
  have hnorm := norm_none n h0 h1 (.inr hn)
  have hmay := may12_gives n h0 h1
  rw [decide_eq_false (by omega)] at hmay
  have hnz : ¬ n % M = 0 := by rw [Int.emod_eq_of_lt h0 h1]; have := z256; omega
  clear h0 h1 hn e
  go_enter Try.func4, Try.ntmps4
  go_wp2_with (first | (refine w_box (H := []) hw rfl 24 _ rfl _ rfl ?_; clear hw; intro k1 w hw) | (refine ok_alloc (H := []) hw rfl 24 rfl _ zero_wide ?_; clear hw; intro k1 w hw) | (refine ok_alloc (H := [_]) hw rfl 24 rfl _ zero_wide ?_; clear hw; intro k2 w hw) | (refine ok_alloc (H := [_, _]) hw rfl 24 rfl _ zero_wide ?_; clear hw; intro k3 w hw) | (refine ok_alloc (H := [_, _, _]) hw rfl 24 rfl _ zero_wide ?_; clear hw; intro k4 w hw) | (refine ok_alloc (H := [_, _, _, _]) hw rfl 24 rfl _ zero_wide ?_; clear hw; intro k5 w hw) | (refine w_load hw rfl 24 _ rfl _ rfl agg_wide _ (by first | (apply Has.own; (repeat (first | assumption | exact List.mem_cons_self | apply List.mem_cons_of_mem)); done) | (apply Has.read; (repeat (first | assumption | exact List.mem_cons_self | apply List.mem_cons_of_mem)); done)) ?_) | (refine w_store hw rfl 24 _ _ rfl _ rfl _ rfl agg_wide _ (by repeat (first | exact At.head _ | apply At.tail)) ?_; clear hw; intro w hw) | (refine ok_buildz rfl rfl ?_) | (refine w_eql rfl _ _ _ rfl _ _ rfl rfl ?_) | (refine unguard rfl ?_; first | (refine w_load hw rfl 24 _ rfl _ rfl agg_wide _ (by first | (apply Has.own; (repeat (first | assumption | exact List.mem_cons_self | apply List.mem_cons_of_mem)); done) | (apply Has.read; (repeat (first | assumption | exact List.mem_cons_self | apply List.mem_cons_of_mem)); done)) ?_) | (refine ok_buildz rfl rfl ?_) | (refine w_eql rfl _ _ _ rfl _ _ rfl rfl ?_) | (refine w_neq rfl _ _ _ rfl _ _ rfl rfl ?_)) | (go_at_call 15; refine (hfar).call0 hw ?_; clear hw; intro w hw) | (go_at_call 16; refine (hnorm).call0 hw ?_; clear hw; intro w hw) | (go_at_call 11; refine (hmay).call0 hw ?_; clear hw; intro w hw) | (go_at_call 12; refine (awake16_gives).call0 hw ?_; clear hw; intro w hw))
  go_ret
  exact ⟨rfl, hw.below⟩

set_option maxRecDepth 100000 in
set_option maxHeartbeats 2000000 in
theorem far_zero_in (n st : Int) (h0 : 0 ≤ n) (h1 : n < M) (hn : n = 0) (hs : 0 ≤ st ∧ st ≤ 64) : Gives Try.prog 4 #[W n, .int .i64 st] [] (.bool true) := by
  refine .mk fun w0 w hw => ?_
  have hfar := far_none n st h0 h1 (.inl hn) hs
  have e : rerr n = 0 := by unfold rerr; rw [if_neg (by have := z256; omega)]
  rw [e] at hfar
  have hnorm := norm_none n h0 h1 (.inl hn)
  have hmay := may12_gives n h0 h1
  rw [decide_eq_true (by have := z256; omega)] at hmay
  subst hn
  clear h0 h1 e
  go_enter Try.func4, Try.ntmps4
  go_wp2_with (first | (refine w_box (H := []) hw rfl 24 _ rfl _ rfl ?_; clear hw; intro k1 w hw) | (refine ok_alloc (H := []) hw rfl 24 rfl _ zero_wide ?_; clear hw; intro k1 w hw) | (refine ok_alloc (H := [_]) hw rfl 24 rfl _ zero_wide ?_; clear hw; intro k2 w hw) | (refine ok_alloc (H := [_, _]) hw rfl 24 rfl _ zero_wide ?_; clear hw; intro k3 w hw) | (refine ok_alloc (H := [_, _, _]) hw rfl 24 rfl _ zero_wide ?_; clear hw; intro k4 w hw) | (refine ok_alloc (H := [_, _, _, _]) hw rfl 24 rfl _ zero_wide ?_; clear hw; intro k5 w hw) | (refine w_load hw rfl 24 _ rfl _ rfl agg_wide _ (by first | (apply Has.own; (repeat (first | assumption | exact List.mem_cons_self | apply List.mem_cons_of_mem)); done) | (apply Has.read; (repeat (first | assumption | exact List.mem_cons_self | apply List.mem_cons_of_mem)); done)) ?_) | (refine w_store hw rfl 24 _ _ rfl _ rfl _ rfl agg_wide _ (by repeat (first | exact At.head _ | apply At.tail)) ?_; clear hw; intro w hw) | (refine ok_buildz rfl rfl ?_) | (refine w_eql rfl _ _ _ rfl _ _ rfl rfl ?_) | (refine unguard rfl ?_; first | (refine w_load hw rfl 24 _ rfl _ rfl agg_wide _ (by first | (apply Has.own; (repeat (first | assumption | exact List.mem_cons_self | apply List.mem_cons_of_mem)); done) | (apply Has.read; (repeat (first | assumption | exact List.mem_cons_self | apply List.mem_cons_of_mem)); done)) ?_) | (refine ok_buildz rfl rfl ?_) | (refine w_eql rfl _ _ _ rfl _ _ rfl rfl ?_) | (refine w_neq rfl _ _ _ rfl _ _ rfl rfl ?_)) | (go_at_call 15; refine (hfar).call0 hw ?_; clear hw; intro w hw) | (go_at_call 16; refine (hnorm).call0 hw ?_; clear hw; intro w hw) | (go_at_call 11; refine (hmay).call0 hw ?_; clear hw; intro w hw) | (go_at_call 12; refine (awake16_gives).call0 hw ?_; clear hw; intro w hw))
  go_ret
  exact ⟨rfl, hw.below⟩

set_option maxRecDepth 100000 in
set_option maxHeartbeats 2000000 in
theorem far_some_low (n st : Int) (h0 : 0 ≤ n) (h1 : n < M) (hn : 0 < n ∧ n < 2 ^ 256) (hs : st < 0) : Gives Try.prog 4 #[W n, .int .i64 st] [] (.bool true) := by
  refine .mk fun w0 w hw => ?_
  have hup := nup_bds hn.1 hn.2
  have hupM : nup n < M := Int.lt_trans hup.2 (pow_in (by omega))
  have hno := norm16_calls n hn.1 hn.2
  have hnorm := norm_gives n hn.1 hn.2
  have hmay := may12_gives n h0 h1
  rw [decide_eq_true hn.2] at hmay
  have tok : True := trivial
  have hnz : ¬ n % M = 0 := by rw [Int.emod_eq_of_lt h0 h1]; omega
  have hfar := far_range n st h0 h1 (.inl hs)
  clear h0 h1 hn hup
  generalize nup n = N at *
  generalize nby n = Y at *
  go_enter Try.func4, Try.ntmps4
  go_wp2_with (first | (refine w_box (H := []) hw rfl 24 _ rfl _ rfl ?_; clear hw; intro k1 w hw) | (refine ok_alloc (H := []) hw rfl 24 rfl _ zero_wide ?_; clear hw; intro k1 w hw) | (refine ok_alloc (H := [_]) hw rfl 24 rfl _ zero_wide ?_; clear hw; intro k2 w hw) | (refine ok_alloc (H := [_, _]) hw rfl 24 rfl _ zero_wide ?_; clear hw; intro k3 w hw) | (refine ok_alloc (H := [_, _, _]) hw rfl 24 rfl _ zero_wide ?_; clear hw; intro k4 w hw) | (refine ok_alloc (H := [_, _, _, _]) hw rfl 24 rfl _ zero_wide ?_; clear hw; intro k5 w hw) | (refine w_load hw rfl 24 _ rfl _ rfl agg_wide _ (by first | (apply Has.own; (repeat (first | assumption | exact List.mem_cons_self | apply List.mem_cons_of_mem)); done) | (apply Has.read; (repeat (first | assumption | exact List.mem_cons_self | apply List.mem_cons_of_mem)); done)) ?_) | (refine w_store hw rfl 24 _ _ rfl _ rfl _ rfl agg_wide _ (by repeat (first | exact At.head _ | apply At.tail)) ?_; clear hw; intro w hw) | (refine ok_buildz rfl rfl ?_) | (refine w_eql rfl _ _ _ rfl _ _ rfl rfl ?_) | (refine unguard rfl ?_; first | (refine w_load hw rfl 24 _ rfl _ rfl agg_wide _ (by first | (apply Has.own; (repeat (first | assumption | exact List.mem_cons_self | apply List.mem_cons_of_mem)); done) | (apply Has.read; (repeat (first | assumption | exact List.mem_cons_self | apply List.mem_cons_of_mem)); done)) ?_) | (refine ok_buildz rfl rfl ?_) | (refine w_eql rfl _ _ _ rfl _ _ rfl rfl ?_) | (refine w_neq rfl _ _ _ rfl _ _ rfl rfl ?_)) | (go_at_call 15; refine (hfar).call0 hw ?_; clear hw; intro w hw) | (go_at_call 16; refine (hnorm).call0 hw ?_; clear hw; intro w hw) | (go_at_call 11; refine (hmay).call0 hw ?_; clear hw; intro w hw) | (go_at_call 12; refine (awake16_gives).call0 hw ?_; clear hw; intro w hw) | (go_at_call 17; refine hno.use hw (by simp) ?_; clear hw; intro w zu Lu hu hfu hw) | (clear tok; go_at_call 18; refine (vwide hu hupM).of hw (fun p hp => List.mem_append_left _ hp) ?_; clear hw; intro w hw))
  go_ret
  exact ⟨rfl, hw.below⟩

set_option maxRecDepth 100000 in
set_option maxHeartbeats 2000000 in
theorem far_some_high (n st : Int) (h0 : 0 ≤ n) (h1 : n < M) (hn : 0 < n ∧ n < 2 ^ 256) (hs : 64 < st) : Gives Try.prog 4 #[W n, .int .i64 st] [] (.bool true) := by
  refine .mk fun w0 w hw => ?_
  have hup := nup_bds hn.1 hn.2
  have hupM : nup n < M := Int.lt_trans hup.2 (pow_in (by omega))
  have hno := norm16_calls n hn.1 hn.2
  have hnorm := norm_gives n hn.1 hn.2
  have hmay := may12_gives n h0 h1
  rw [decide_eq_true hn.2] at hmay
  have tok : True := trivial
  have hnz : ¬ n % M = 0 := by rw [Int.emod_eq_of_lt h0 h1]; omega
  have hfar := far_range n st h0 h1 (.inr hs)
  clear h0 h1 hn hup
  generalize nup n = N at *
  generalize nby n = Y at *
  go_enter Try.func4, Try.ntmps4
  go_wp2_with (first | (refine w_box (H := []) hw rfl 24 _ rfl _ rfl ?_; clear hw; intro k1 w hw) | (refine ok_alloc (H := []) hw rfl 24 rfl _ zero_wide ?_; clear hw; intro k1 w hw) | (refine ok_alloc (H := [_]) hw rfl 24 rfl _ zero_wide ?_; clear hw; intro k2 w hw) | (refine ok_alloc (H := [_, _]) hw rfl 24 rfl _ zero_wide ?_; clear hw; intro k3 w hw) | (refine ok_alloc (H := [_, _, _]) hw rfl 24 rfl _ zero_wide ?_; clear hw; intro k4 w hw) | (refine ok_alloc (H := [_, _, _, _]) hw rfl 24 rfl _ zero_wide ?_; clear hw; intro k5 w hw) | (refine w_load hw rfl 24 _ rfl _ rfl agg_wide _ (by first | (apply Has.own; (repeat (first | assumption | exact List.mem_cons_self | apply List.mem_cons_of_mem)); done) | (apply Has.read; (repeat (first | assumption | exact List.mem_cons_self | apply List.mem_cons_of_mem)); done)) ?_) | (refine w_store hw rfl 24 _ _ rfl _ rfl _ rfl agg_wide _ (by repeat (first | exact At.head _ | apply At.tail)) ?_; clear hw; intro w hw) | (refine ok_buildz rfl rfl ?_) | (refine w_eql rfl _ _ _ rfl _ _ rfl rfl ?_) | (refine unguard rfl ?_; first | (refine w_load hw rfl 24 _ rfl _ rfl agg_wide _ (by first | (apply Has.own; (repeat (first | assumption | exact List.mem_cons_self | apply List.mem_cons_of_mem)); done) | (apply Has.read; (repeat (first | assumption | exact List.mem_cons_self | apply List.mem_cons_of_mem)); done)) ?_) | (refine ok_buildz rfl rfl ?_) | (refine w_eql rfl _ _ _ rfl _ _ rfl rfl ?_) | (refine w_neq rfl _ _ _ rfl _ _ rfl rfl ?_)) | (go_at_call 15; refine (hfar).call0 hw ?_; clear hw; intro w hw) | (go_at_call 16; refine (hnorm).call0 hw ?_; clear hw; intro w hw) | (go_at_call 11; refine (hmay).call0 hw ?_; clear hw; intro w hw) | (go_at_call 12; refine (awake16_gives).call0 hw ?_; clear hw; intro w hw) | (go_at_call 17; refine hno.use hw (by simp) ?_; clear hw; intro w zu Lu hu hfu hw) | (clear tok; go_at_call 18; refine (vwide hu hupM).of hw (fun p hp => List.mem_append_left _ hp) ?_; clear hw; intro w hw))
  go_ret
  exact ⟨rfl, hw.below⟩

set_option maxRecDepth 100000 in
set_option maxHeartbeats 2000000 in
theorem far_some_in (n st : Int) (h0 : 0 ≤ n) (h1 : n < M) (k : Nat) (hk : st = k) (hn : 0 < n ∧ n < 2 ^ 256) (hs : k ≤ 64) : Gives Try.prog 4 #[W n, .int .i64 st] [] (.bool true) := by
  refine .mk fun w0 w hw => ?_
  have hup := nup_bds hn.1 hn.2
  have hupM : nup n < M := Int.lt_trans hup.2 (pow_in (by omega))
  have hno := norm16_calls n hn.1 hn.2
  have hnorm := norm_gives n hn.1 hn.2
  have hmay := may12_gives n h0 h1
  rw [decide_eq_true hn.2] at hmay
  have tok : True := trivial
  have hnz : ¬ n % M = 0 := by rw [Int.emod_eq_of_lt h0 h1]; omega
  subst hk
  have hfar := far_some n k hs hn.1 hn.2
  have hrun := fun w H R hw K h => run16_use n hn.1 hn.2 k hs (S := Non) (w0 := w0) (w := w) (H := H) (R' := R) hw (k := (k : Int)) rfl (K := K) h
  have hkp := kept_all hup.1 hup.2 k hs
  have hpM : rp (nup n) k < M := Int.lt_of_le_of_lt hkp.hi (pow_in (by omega))
  clear h0 h1 hn hup hkp
  generalize rp (nup n) k = p at *
  generalize dcells (nup n) k = ds at *
  generalize nup n = N at *
  generalize nby n = Y at *
  go_enter Try.func4, Try.ntmps4
  go_wp2_with (first | (refine w_box (H := []) hw rfl 24 _ rfl _ rfl ?_; clear hw; intro k1 w hw) | (refine ok_alloc (H := []) hw rfl 24 rfl _ zero_wide ?_; clear hw; intro k1 w hw) | (refine ok_alloc (H := [_]) hw rfl 24 rfl _ zero_wide ?_; clear hw; intro k2 w hw) | (refine ok_alloc (H := [_, _]) hw rfl 24 rfl _ zero_wide ?_; clear hw; intro k3 w hw) | (refine ok_alloc (H := [_, _, _]) hw rfl 24 rfl _ zero_wide ?_; clear hw; intro k4 w hw) | (refine ok_alloc (H := [_, _, _, _]) hw rfl 24 rfl _ zero_wide ?_; clear hw; intro k5 w hw) | (refine w_load hw rfl 24 _ rfl _ rfl agg_wide _ (by first | (apply Has.own; (repeat (first | assumption | exact List.mem_cons_self | apply List.mem_cons_of_mem)); done) | (apply Has.read; (repeat (first | assumption | exact List.mem_cons_self | apply List.mem_cons_of_mem)); done)) ?_) | (refine w_store hw rfl 24 _ _ rfl _ rfl _ rfl agg_wide _ (by repeat (first | exact At.head _ | apply At.tail)) ?_; clear hw; intro w hw) | (refine ok_buildz rfl rfl ?_) | (refine w_eql rfl _ _ _ rfl _ _ rfl rfl ?_) | (refine unguard rfl ?_; first | (refine w_load hw rfl 24 _ rfl _ rfl agg_wide _ (by first | (apply Has.own; (repeat (first | assumption | exact List.mem_cons_self | apply List.mem_cons_of_mem)); done) | (apply Has.read; (repeat (first | assumption | exact List.mem_cons_self | apply List.mem_cons_of_mem)); done)) ?_) | (refine ok_buildz rfl rfl ?_) | (refine w_eql rfl _ _ _ rfl _ _ rfl rfl ?_) | (refine w_neq rfl _ _ _ rfl _ _ rfl rfl ?_)) | (go_at_call 15; refine (hfar).call0 hw ?_; clear hw; intro w hw) | (go_at_call 16; refine (hnorm).call0 hw ?_; clear hw; intro w hw) | (go_at_call 11; refine (hmay).call0 hw ?_; clear hw; intro w hw) | (go_at_call 12; refine (awake16_gives).call0 hw ?_; clear hw; intro w hw) | (go_at_call 17; refine hno.use hw (by simp) ?_; clear hw; intro w zu Lu hu hfu hw) | (clear tok; go_at_call 18; refine (vwide hu hupM).of hw (fun p hp => List.mem_append_left _ hp) ?_; clear hw; intro w hw) | (go_at_call 13; refine hrun _ _ _ hw _ ?_; clear hw; intro w v2 z2 T2 L2 hl2 hz2 hf2 hf3 hw) | (go_at_call 18; refine (vwide hz2 hpM).of hw (by grind) ?_; clear hw; intro w hw))
  go_ret
  exact ⟨rfl, hw.below⟩

theorem law_far (n st : Int) (h0 : 0 ≤ n) (h1 : n < M) : Gives Try.prog 4 #[W n, .int .i64 st] [] (.bool true) := by
  have hz := z256
  by_cases hn : n = 0
  · by_cases hs : st < 0
    · exact far_zero_low n st h0 h1 hn hs
    · by_cases hs2 : 64 < st
      · exact far_zero_high n st h0 h1 hn hs2
      · exact far_zero_in n st h0 h1 hn ⟨by omega, by omega⟩
  · by_cases hb : 2 ^ 256 ≤ n
    · by_cases hs : st < 0
      · exact far_big_low n st h0 h1 hb hs
      · by_cases hs2 : 64 < st
        · exact far_big_high n st h0 h1 hb hs2
        · exact far_big_in n st h0 h1 hb ⟨by omega, by omega⟩
    · by_cases hs : st < 0
      · exact far_some_low n st h0 h1 ⟨by omega, by omega⟩ hs
      · by_cases hs2 : 64 < st
        · exact far_some_high n st h0 h1 ⟨by omega, by omega⟩ hs2
        · exact far_some_in n st h0 h1 st.toNat (by omega) ⟨by omega, by omega⟩ (by omega)
theorem law_far_w (n st : Int) (h0 : 0 ≤ n) (h1 : n < M) (hs : (Lit.int .i64 st).wf = true) : Gives Try.prog 4 #[W n, .int .i64 st] [] (.bool true) := law_far n st h0 h1
end Go.Proofs.Ytcodmeljjphoeaa
