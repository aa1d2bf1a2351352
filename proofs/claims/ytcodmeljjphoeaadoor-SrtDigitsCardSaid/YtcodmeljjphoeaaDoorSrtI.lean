/-
  Reference 11: may two be divided; quotient and remainder.
-/
import Derived.Test.YtcodmeljjphoeaaDoorSrtH
namespace Go.Proofs.YtcodmeljjphoeaaDoor
open Go.RowKit
set_option exponentiation.threshold 600
set_option linter.unusedVariables false
set_option linter.unusedSimpArgs false

theorem ret_cc {P : Program} {fn : Func} {R : Ending → World → Prop} {a : Act} {w : World} {p p' : Tmp} {ty ty' : TypeId} {k k' n n' : Nat} {cs ds : Array Value} (h : fn.results = #[.cell p ty, .cell p' ty']) (hp : a.tmps.getD p undef = .pointer (some ⟨k, 0, none⟩)) (hp2 : a.tmps.getD p' undef = .pointer (some ⟨k', 0, none⟩))
    (hg : Agg P ty n) (hg' : Agg P ty' n') (hb : Blk w k cs) (hb' : Blk w k' ds) (hn : cs.size = n) (hn' : ds.size = n') (hd : a.defers = []) (hR : R (.returned (.tuple #[.agg cs, .agg ds])) w) : bodyPost P fn R .ret a w := by
  refine ⟨hd, .tuple #[.agg cs, .agg ds], ?_, hR⟩
  have e1 : a.tmps[p]?.getD undef = .pointer (some ⟨k, 0, none⟩) := by simpa using hp
  have e2 : a.tmps[p']?.getD undef = .pointer (some ⟨k', 0, none⟩) := by simpa using hp2
  simp [results, h, e1, e2, asAddr, load_row (P := P) hb hg hn, load_row (P := P) hb' hg' hn']

set_option maxRecDepth 100000 in
set_option maxHeartbeats 1000000 in
theorem may11_zero (n d : Int) (hn0 : 0 ≤ n) (hn1 : n < M) (hd : d = 0) : Gives Tryd.prog 11 #[W n, W d] [] (.int .i64 5) := by
  refine .mk fun w0 w hw => ?_
  have hbn := big_calls n hn0 hn1
  have hbd := big_calls d (by omega) (by rw [hd]; exact pow_pos2 512)
  have hl := Lib.hid (show ((blen d : Nat) : Int) = 0 by rw [hd, blen_zero (Int.le_refl 0)]; rfl)
  clear hd hn0 hn1
  go_enter Tryd.func11, Tryd.ntmps11
  go_wp2_with (first | (refine w_box (H := []) hw rfl 24 _ rfl _ rfl ?_; clear hw; intro k1 w hw) | (refine w_box (H := [_]) hw rfl 24 _ rfl _ rfl ?_; clear hw; intro k2 w hw))
  try simp only [Act.put, List.setIfInBounds_toArray, List.set_cons_succ, List.set_cons_zero]
  refine wp_region_draws [⟨[(2, none)], none, false, false⟩, ⟨[(7, some 0)], none, false, false⟩, ⟨[(3, none)], none, false, false⟩, ⟨[(9, some 2)], none, false, false⟩, ⟨[(8, some 1)], none, false, false⟩, ⟨[(10, some 3)], none, false, false⟩] 24 (fun w => Ok Non w0 w [(k2, limbs 8 d), (k1, limbs 8 n)] []) (by kernel_rfl) rfl (by kernel_rfl) (hw.grow (below_drew' _)) (fun _ _ h hb => h.grow hb) (fun _ _ _ _ h => h) ?_
  clear hw
  refine ⟨_, stable_is _, ask_run rfl rfl rfl (fun a w hw hk => run_load_w rfl (eval_of (known_old hk 2 (.head _) rfl)) agg_wide (hw.has (by first | (apply Has.own; (repeat (first | assumption | exact List.mem_cons_self | apply List.mem_cons_of_mem)); done) | (apply Has.read; (repeat (first | assumption | exact List.mem_cons_self | apply List.mem_cons_of_mem)); done)))), ?_⟩
  refine ⟨_, stable_mineb _ _ _ _ _, ask_big rfl rfl rfl (fun a w hw hk => by
      exact ⟨_, _, run_call1 rfl ⟨_, Tryd.func16, by kernel_rfl, by kernel_rfl⟩ (eval_of (known_op hk 7 0 0 (.head _) rfl rfl)), hbn, (fun p hp => by simp at hp)⟩), ?_⟩
  refine ⟨_, stable_is _, ask_run rfl rfl rfl (fun a w hw hk => run_load_w rfl (eval_of (known_old hk 3 (.head _) rfl)) agg_wide (hw.has (by first | (apply Has.own; (repeat (first | assumption | exact List.mem_cons_self | apply List.mem_cons_of_mem)); done) | (apply Has.read; (repeat (first | assumption | exact List.mem_cons_self | apply List.mem_cons_of_mem)); done)))), ?_⟩
  refine ⟨_, stable_mineb _ _ _ _ _, ask_big rfl rfl rfl (fun a w hw hk => by
      exact ⟨_, _, run_call1 rfl ⟨_, Tryd.func16, by kernel_rfl, by kernel_rfl⟩ (eval_of (known_op hk 9 2 0 (.head _) rfl rfl)), hbd, (fun p hp => by simp at hp)⟩), ?_⟩
  refine ⟨_, stable_mineb _ _ _ _ _, ask_rel rfl rfl rfl (fun a w hw hk => ⟨_, run_assign rfl (eval_of rfl), known_rel hk 8 1 2 (.head _) rfl rfl⟩), ?_⟩
  refine ⟨_, stable_mineb _ _ _ _ _, ask_rel rfl rfl rfl (fun a w hw hk => ⟨_, run_assign rfl (eval_of rfl), known_rel hk 10 3 1 (.head _) rfl rfl⟩), ?_⟩
  intro w hw
  rintro _ rfl
  rintro v1 ⟨L1, hv1, hf1, hm1⟩
  rintro _ rfl
  rintro v3 ⟨L3, hv3, hf3, hm3⟩
  rintro v4 ⟨L4, hv4, hf4, hm4⟩
  rintro v5 ⟨L5, hv5, hf5, hm5⟩
  change wpList _ _ _ _ _ _
  simp only [List.length_cons, List.length_nil, Nat.reduceAdd, Nat.zero_add, List.drop_succ_cons, List.drop_zero, Act.put, List.setIfInBounds_toArray, List.set_cons_succ, List.set_cons_zero]
  have hw := Ok.both hm4 hm5
  go_wp2_with (first | (go_at_call 17; have hg := blen_gives (hv5.mono (R' := L4 ++ (L5 ++ [])) (by grind)); rw [hl.out] at hg; refine hg.of hw sub_all ?_; clear hw hg; intro w hw))
  go_ret
  exact ⟨rfl, hw.below⟩

set_option maxRecDepth 100000 in
set_option maxHeartbeats 1000000 in
theorem may11_big (n d : Int) (hn0 : 0 ≤ n) (hn1 : n < M) (hd0 : 2 ^ 120 ≤ d) (hd1 : d < M) : Gives Tryd.prog 11 #[W n, W d] [] (.int .i64 4) := by
  refine .mk fun w0 w hw => ?_
  have hp := pow_pos2 120
  have hbn := big_calls n hn0 hn1
  have hbd := big_calls d (by omega) hd1
  have hi := (not_congr (blen_iff (show 0 < d by omega) 120)).2 (by omega)
  obtain ⟨bl, hbl⟩ : ∃ bl : Int, ((blen d : Nat) : Int) = bl := ⟨_, rfl⟩
  have h1 : decide (120 < bl) = true := decide_eq_true (by omega)
  have h2 : (bl == 0) = false := by simp; omega
  have hl := Lib.hid hbl
  clear hbl hi hp hn0 hn1 hd0 hd1
  go_enter Tryd.func11, Tryd.ntmps11
  go_wp2_with (first | (refine w_box (H := []) hw rfl 24 _ rfl _ rfl ?_; clear hw; intro k1 w hw) | (refine w_box (H := [_]) hw rfl 24 _ rfl _ rfl ?_; clear hw; intro k2 w hw))
  try simp only [Act.put, List.setIfInBounds_toArray, List.set_cons_succ, List.set_cons_zero]
  refine wp_region_draws [⟨[(2, none)], none, false, false⟩, ⟨[(7, some 0)], none, false, false⟩, ⟨[(3, none)], none, false, false⟩, ⟨[(9, some 2)], none, false, false⟩, ⟨[(8, some 1)], none, false, false⟩, ⟨[(10, some 3)], none, false, false⟩] 24 (fun w => Ok Non w0 w [(k2, limbs 8 d), (k1, limbs 8 n)] []) (by kernel_rfl) rfl (by kernel_rfl) (hw.grow (below_drew' _)) (fun _ _ h hb => h.grow hb) (fun _ _ _ _ h => h) ?_
  clear hw
  refine ⟨_, stable_is _, ask_run rfl rfl rfl (fun a w hw hk => run_load_w rfl (eval_of (known_old hk 2 (.head _) rfl)) agg_wide (hw.has (by first | (apply Has.own; (repeat (first | assumption | exact List.mem_cons_self | apply List.mem_cons_of_mem)); done) | (apply Has.read; (repeat (first | assumption | exact List.mem_cons_self | apply List.mem_cons_of_mem)); done)))), ?_⟩
  refine ⟨_, stable_mineb _ _ _ _ _, ask_big rfl rfl rfl (fun a w hw hk => by
      exact ⟨_, _, run_call1 rfl ⟨_, Tryd.func16, by kernel_rfl, by kernel_rfl⟩ (eval_of (known_op hk 7 0 0 (.head _) rfl rfl)), hbn, (fun p hp => by simp at hp)⟩), ?_⟩
  refine ⟨_, stable_is _, ask_run rfl rfl rfl (fun a w hw hk => run_load_w rfl (eval_of (known_old hk 3 (.head _) rfl)) agg_wide (hw.has (by first | (apply Has.own; (repeat (first | assumption | exact List.mem_cons_self | apply List.mem_cons_of_mem)); done) | (apply Has.read; (repeat (first | assumption | exact List.mem_cons_self | apply List.mem_cons_of_mem)); done)))), ?_⟩
  refine ⟨_, stable_mineb _ _ _ _ _, ask_big rfl rfl rfl (fun a w hw hk => by
      exact ⟨_, _, run_call1 rfl ⟨_, Tryd.func16, by kernel_rfl, by kernel_rfl⟩ (eval_of (known_op hk 9 2 0 (.head _) rfl rfl)), hbd, (fun p hp => by simp at hp)⟩), ?_⟩
  refine ⟨_, stable_mineb _ _ _ _ _, ask_rel rfl rfl rfl (fun a w hw hk => ⟨_, run_assign rfl (eval_of rfl), known_rel hk 8 1 2 (.head _) rfl rfl⟩), ?_⟩
  refine ⟨_, stable_mineb _ _ _ _ _, ask_rel rfl rfl rfl (fun a w hw hk => ⟨_, run_assign rfl (eval_of rfl), known_rel hk 10 3 1 (.head _) rfl rfl⟩), ?_⟩
  intro w hw
  rintro _ rfl
  rintro v1 ⟨L1, hv1, hf1, hm1⟩
  rintro _ rfl
  rintro v3 ⟨L3, hv3, hf3, hm3⟩
  rintro v4 ⟨L4, hv4, hf4, hm4⟩
  rintro v5 ⟨L5, hv5, hf5, hm5⟩
  change wpList _ _ _ _ _ _
  simp only [List.length_cons, List.length_nil, Nat.reduceAdd, Nat.zero_add, List.drop_succ_cons, List.drop_zero, Act.put, List.setIfInBounds_toArray, List.set_cons_succ, List.set_cons_zero]
  have hw := Ok.both hm4 hm5
  go_wp2_with (first | (go_at_call 17; have hg := blen_gives (hv5.mono (R' := L4 ++ (L5 ++ [])) (by grind)); rw [hl.out] at hg; refine hg.of hw sub_all ?_; clear hw hg; intro w hw))
  go_ret
  exact ⟨rfl, hw.below⟩

set_option maxRecDepth 100000 in
set_option maxHeartbeats 1000000 in
theorem may11_in (n d : Int) (hn0 : 0 ≤ n) (hn1 : n < M) (hd0 : 0 < d) (hd1 : d < 2 ^ 120) (r : Int) (hr : r = if d * 2 ^ 128 ≤ n then 4 else 0) : Gives Tryd.prog 11 #[W n, W d] [] (.int .i64 r) := by
  refine .mk fun w0 w hw => ?_
  have hbn := big_calls n hn0 hn1
  have hbd := big_calls d (by omega) (Int.lt_trans hd1 (pow_in (by omega)))
  have hi := (blen_iff hd0 120).2 hd1
  have hz : blen d ≠ 0 := fun h => by have := (blen_iff hd0 0).1 (by omega); simp at this; omega
  have hcd : d < Cap := cap_of hd1 (by omega)
  obtain ⟨bl, hbl⟩ : ∃ bl : Int, ((blen d : Nat) : Int) = bl := ⟨_, rfl⟩
  have h1 : decide (120 < bl) = false := decide_eq_false (by omega)
  have h2 : (bl == 0) = false := by simp; omega
  have hl := Lib.hid hbl
  clear hbl hi hn0 hn1 hd0 hd1 hz
  by_cases hc : d * 2 ^ 128 ≤ n
  · rw [if_pos hc] at hr
    subst hr
    have q1 := Lib.hid (show decide (0 ≤ cmp3 n (d * 2 ^ 128)) = true by rw [cmp_ge_iff]; exact decide_eq_true hc)
    clear hc
    go_enter Tryd.func11, Tryd.ntmps11
    go_wp2_with (first | (refine w_box (H := []) hw rfl 24 _ rfl _ rfl ?_; clear hw; intro k1 w hw) | (refine w_box (H := [_]) hw rfl 24 _ rfl _ rfl ?_; clear hw; intro k2 w hw))
    try simp only [Act.put, List.setIfInBounds_toArray, List.set_cons_succ, List.set_cons_zero]
    refine wp_region_draws [⟨[(2, none)], none, false, false⟩, ⟨[(7, some 0)], none, false, false⟩, ⟨[(3, none)], none, false, false⟩, ⟨[(9, some 2)], none, false, false⟩, ⟨[(8, some 1)], none, false, false⟩, ⟨[(10, some 3)], none, false, false⟩] 24 (fun w => Ok Non w0 w [(k2, limbs 8 d), (k1, limbs 8 n)] []) (by kernel_rfl) rfl (by kernel_rfl) (hw.grow (below_drew' _)) (fun _ _ h hb => h.grow hb) (fun _ _ _ _ h => h) ?_
    clear hw
    refine ⟨_, stable_is _, ask_run rfl rfl rfl (fun a w hw hk => run_load_w rfl (eval_of (known_old hk 2 (.head _) rfl)) agg_wide (hw.has (by first | (apply Has.own; (repeat (first | assumption | exact List.mem_cons_self | apply List.mem_cons_of_mem)); done) | (apply Has.read; (repeat (first | assumption | exact List.mem_cons_self | apply List.mem_cons_of_mem)); done)))), ?_⟩
    refine ⟨_, stable_mineb _ _ _ _ _, ask_big rfl rfl rfl (fun a w hw hk => by
      exact ⟨_, _, run_call1 rfl ⟨_, Tryd.func16, by kernel_rfl, by kernel_rfl⟩ (eval_of (known_op hk 7 0 0 (.head _) rfl rfl)), hbn, (fun p hp => by simp at hp)⟩), ?_⟩
    refine ⟨_, stable_is _, ask_run rfl rfl rfl (fun a w hw hk => run_load_w rfl (eval_of (known_old hk 3 (.head _) rfl)) agg_wide (hw.has (by first | (apply Has.own; (repeat (first | assumption | exact List.mem_cons_self | apply List.mem_cons_of_mem)); done) | (apply Has.read; (repeat (first | assumption | exact List.mem_cons_self | apply List.mem_cons_of_mem)); done)))), ?_⟩
    refine ⟨_, stable_mineb _ _ _ _ _, ask_big rfl rfl rfl (fun a w hw hk => by
      exact ⟨_, _, run_call1 rfl ⟨_, Tryd.func16, by kernel_rfl, by kernel_rfl⟩ (eval_of (known_op hk 9 2 0 (.head _) rfl rfl)), hbd, (fun p hp => by simp at hp)⟩), ?_⟩
    refine ⟨_, stable_mineb _ _ _ _ _, ask_rel rfl rfl rfl (fun a w hw hk => ⟨_, run_assign rfl (eval_of rfl), known_rel hk 8 1 2 (.head _) rfl rfl⟩), ?_⟩
    refine ⟨_, stable_mineb _ _ _ _ _, ask_rel rfl rfl rfl (fun a w hw hk => ⟨_, run_assign rfl (eval_of rfl), known_rel hk 10 3 1 (.head _) rfl rfl⟩), ?_⟩
    intro w hw
    rintro _ rfl
    rintro v1 ⟨L1, hv1, hf1, hm1⟩
    rintro _ rfl
    rintro v3 ⟨L3, hv3, hf3, hm3⟩
    rintro v4 ⟨L4, hv4, hf4, hm4⟩
    rintro v5 ⟨L5, hv5, hf5, hm5⟩
    change wpList _ _ _ _ _ _
    simp only [List.length_cons, List.length_nil, Nat.reduceAdd, Nat.zero_add, List.drop_succ_cons, List.drop_zero, Act.put, List.setIfInBounds_toArray, List.set_cons_succ, List.set_cons_zero]
    have hw := Ok.both hm4 hm5
    go_wp2_with (first | (go_at_call 17; have hg := blen_gives (hv5.mono (R' := L4 ++ (L5 ++ [])) (by grind)); rw [hl.out] at hg; refine hg.of hw sub_all ?_; clear hw hg; intro w hw) | (go_at_call 19; refine (vshl (hv5.mono (R' := L4 ++ (L5 ++ [])) (by grind)) hcd 128 rfl (by omega)).use hw sub_all ?_; clear hw; intro w zs Ls hzs hfs hw) | (go_at_call 20; refine (vcmp (hv4.mono (R' := Ls ++ (L4 ++ (L5 ++ []))) (by grind)) (hzs.mono (by grind))).of hw sub_all ?_; clear hw; intro w hw; have q1' := q1.out; generalize cmp3 n (d * 2 ^ 128) = c at *))
    go_ret
    exact ⟨rfl, hw.below⟩
  · rw [if_neg hc] at hr
    subst hr
    have q1 := Lib.hid (show decide (0 ≤ cmp3 n (d * 2 ^ 128)) = false by rw [cmp_ge_iff]; exact decide_eq_false hc)
    clear hc
    go_enter Tryd.func11, Tryd.ntmps11
    go_wp2_with (first | (refine w_box (H := []) hw rfl 24 _ rfl _ rfl ?_; clear hw; intro k1 w hw) | (refine w_box (H := [_]) hw rfl 24 _ rfl _ rfl ?_; clear hw; intro k2 w hw))
    try simp only [Act.put, List.setIfInBounds_toArray, List.set_cons_succ, List.set_cons_zero]
    refine wp_region_draws [⟨[(2, none)], none, false, false⟩, ⟨[(7, some 0)], none, false, false⟩, ⟨[(3, none)], none, false, false⟩, ⟨[(9, some 2)], none, false, false⟩, ⟨[(8, some 1)], none, false, false⟩, ⟨[(10, some 3)], none, false, false⟩] 24 (fun w => Ok Non w0 w [(k2, limbs 8 d), (k1, limbs 8 n)] []) (by kernel_rfl) rfl (by kernel_rfl) (hw.grow (below_drew' _)) (fun _ _ h hb => h.grow hb) (fun _ _ _ _ h => h) ?_
    clear hw
    refine ⟨_, stable_is _, ask_run rfl rfl rfl (fun a w hw hk => run_load_w rfl (eval_of (known_old hk 2 (.head _) rfl)) agg_wide (hw.has (by first | (apply Has.own; (repeat (first | assumption | exact List.mem_cons_self | apply List.mem_cons_of_mem)); done) | (apply Has.read; (repeat (first | assumption | exact List.mem_cons_self | apply List.mem_cons_of_mem)); done)))), ?_⟩
    refine ⟨_, stable_mineb _ _ _ _ _, ask_big rfl rfl rfl (fun a w hw hk => by
      exact ⟨_, _, run_call1 rfl ⟨_, Tryd.func16, by kernel_rfl, by kernel_rfl⟩ (eval_of (known_op hk 7 0 0 (.head _) rfl rfl)), hbn, (fun p hp => by simp at hp)⟩), ?_⟩
    refine ⟨_, stable_is _, ask_run rfl rfl rfl (fun a w hw hk => run_load_w rfl (eval_of (known_old hk 3 (.head _) rfl)) agg_wide (hw.has (by first | (apply Has.own; (repeat (first | assumption | exact List.mem_cons_self | apply List.mem_cons_of_mem)); done) | (apply Has.read; (repeat (first | assumption | exact List.mem_cons_self | apply List.mem_cons_of_mem)); done)))), ?_⟩
    refine ⟨_, stable_mineb _ _ _ _ _, ask_big rfl rfl rfl (fun a w hw hk => by
      exact ⟨_, _, run_call1 rfl ⟨_, Tryd.func16, by kernel_rfl, by kernel_rfl⟩ (eval_of (known_op hk 9 2 0 (.head _) rfl rfl)), hbd, (fun p hp => by simp at hp)⟩), ?_⟩
    refine ⟨_, stable_mineb _ _ _ _ _, ask_rel rfl rfl rfl (fun a w hw hk => ⟨_, run_assign rfl (eval_of rfl), known_rel hk 8 1 2 (.head _) rfl rfl⟩), ?_⟩
    refine ⟨_, stable_mineb _ _ _ _ _, ask_rel rfl rfl rfl (fun a w hw hk => ⟨_, run_assign rfl (eval_of rfl), known_rel hk 10 3 1 (.head _) rfl rfl⟩), ?_⟩
    intro w hw
    rintro _ rfl
    rintro v1 ⟨L1, hv1, hf1, hm1⟩
    rintro _ rfl
    rintro v3 ⟨L3, hv3, hf3, hm3⟩
    rintro v4 ⟨L4, hv4, hf4, hm4⟩
    rintro v5 ⟨L5, hv5, hf5, hm5⟩
    change wpList _ _ _ _ _ _
    simp only [List.length_cons, List.length_nil, Nat.reduceAdd, Nat.zero_add, List.drop_succ_cons, List.drop_zero, Act.put, List.setIfInBounds_toArray, List.set_cons_succ, List.set_cons_zero]
    have hw := Ok.both hm4 hm5
    go_wp2_with (first | (go_at_call 17; have hg := blen_gives (hv5.mono (R' := L4 ++ (L5 ++ [])) (by grind)); rw [hl.out] at hg; refine hg.of hw sub_all ?_; clear hw hg; intro w hw) | (go_at_call 19; refine (vshl (hv5.mono (R' := L4 ++ (L5 ++ [])) (by grind)) hcd 128 rfl (by omega)).use hw sub_all ?_; clear hw; intro w zs Ls hzs hfs hw) | (go_at_call 20; refine (vcmp (hv4.mono (R' := Ls ++ (L4 ++ (L5 ++ []))) (by grind)) (hzs.mono (by grind))).of hw sub_all ?_; clear hw; intro w hw; have q1' := q1.out; generalize cmp3 n (d * 2 ^ 128) = c at *))
    go_ret
    exact ⟨rfl, hw.below⟩

theorem may11_gives (n d : Int) (hn0 : 0 ≤ n) (hn1 : n < M) (hd0 : 0 ≤ d) (hd1 : d < M) : Gives Tryd.prog 11 #[W n, W d] [] (.int .i64 (mayv n d)) := by
  unfold mayv
  by_cases h : d = 0
  · rw [if_pos h]; exact may11_zero n d hn0 hn1 h
  · rw [if_neg h]
    by_cases h2 : 2 ^ 120 ≤ d
    · rw [if_pos (Or.inl h2)]; exact may11_big n d hn0 hn1 h2 hd1
    · refine may11_in n d hn0 hn1 (by omega) (by omega) _ ?_
      by_cases h3 : d * 2 ^ 128 ≤ n
      · rw [if_pos (Or.inr h3), if_pos h3]
      · rw [if_neg (by rintro (h | h); exact h2 h; exact h3 h), if_neg h3]

set_option maxRecDepth 100000 in
set_option maxHeartbeats 1000000 in
theorem divide11_gives (n d : Int) (hn0 : 0 ≤ n) (hn1 : n < M) (hd0 : 0 < d) (hd1 : d < 2 ^ 120) (hq : n < d * 2 ^ 128) : Gives Tryd.prog 35 #[W n, W d] [] (.tuple #[W (n / d), W (n % d)]) := by
  refine .mk fun w0 w hw => ?_
  have hdM : d < M := Int.lt_trans hd1 (pow_in (by omega))
  have hbn := big_calls n hn0 hn1
  have hbd := big_calls d (by omega) hdM
  have hQ0 : 0 ≤ n / d := Int.ediv_nonneg hn0 (by omega)
  have hQ1 : n / d < 2 ^ 128 := Int.ediv_lt_of_lt_mul hd0 (by rw [Int.mul_comm]; exact hq)
  have hQM : n / d < M := Int.lt_trans hQ1 (pow_in (by omega))
  have hm := Int.mul_ediv_add_emod n d
  have hr0 := Int.emod_nonneg n (show d ≠ 0 by omega)
  have hr1 := Int.emod_lt_of_pos n hd0
  have cd : d < Cap := cap_of hd1 (by omega)
  have cQ : n / d < Cap := cap_of hQ1 (by omega)
  rw [Int.mul_comm] at hm
  have hle : n / d * d ≤ n := by omega
  have hre := Lib.hid (show n - n / d * d = n % d by omega)
  have hrM : n % d < M := by omega
  have hquo := fun (R : List (Nat × Array Value)) (zn zd : Value) (a : BigV R zn n) (b : BigV R zd d) => quot11_calls hn0 hn1 hd0 hd1 hq a b
  clear hm hQ1 hq hr1 hd1 hdM
  generalize n / d = Q at *
  generalize n % d = r at *
  go_enter Tryd.func35, Tryd.ntmps35
  go_wp2_with (first | (refine w_box (H := []) hw rfl 24 _ rfl _ rfl ?_; clear hw; intro k1 w hw) | (refine w_box (H := [_]) hw rfl 24 _ rfl _ rfl ?_; clear hw; intro k2 w hw) | (refine ok_alloc (H := []) hw rfl 24 rfl _ zero_wide ?_; clear hw; intro k1 w hw) | (refine ok_alloc (H := [_]) hw rfl 24 rfl _ zero_wide ?_; clear hw; intro k2 w hw) | (refine ok_alloc (H := [_, _]) hw rfl 24 rfl _ zero_wide ?_; clear hw; intro k3 w hw) | (refine ok_alloc (H := [_, _, _]) hw rfl 24 rfl _ zero_wide ?_; clear hw; intro k4 w hw))
  try simp only [Act.put, List.setIfInBounds_toArray, List.set_cons_succ, List.set_cons_zero]
  refine wp_region_draws [⟨[(2, none)], none, false, false⟩, ⟨[(13, some 0)], none, false, false⟩, ⟨[(3, none)], none, false, false⟩, ⟨[(15, some 2)], none, false, false⟩, ⟨[(14, some 1)], none, false, false⟩, ⟨[(16, some 3)], none, false, false⟩] 36 (fun w => Ok Non w0 w [(k4, limbs 8 0), (k3, limbs 8 0), (k2, limbs 8 d), (k1, limbs 8 n)] []) (by kernel_rfl) rfl (by kernel_rfl) (hw.grow (below_drew' _)) (fun _ _ h hb => h.grow hb) (fun _ _ _ _ h => h) ?_
  clear hw
  refine ⟨_, stable_is _, ask_run rfl rfl rfl (fun a w hw hk => run_load_w rfl (eval_of (known_old hk 2 (.head _) rfl)) agg_wide (hw.has (by first | (apply Has.own; (repeat (first | assumption | exact List.mem_cons_self | apply List.mem_cons_of_mem)); done) | (apply Has.read; (repeat (first | assumption | exact List.mem_cons_self | apply List.mem_cons_of_mem)); done)))), ?_⟩
  refine ⟨_, stable_mineb _ _ _ _ _, ask_big rfl rfl rfl (fun a w hw hk => by
      exact ⟨_, _, run_call1 rfl ⟨_, Tryd.func16, by kernel_rfl, by kernel_rfl⟩ (eval_of (known_op hk 13 0 0 (.head _) rfl rfl)), hbn, (fun p hp => by simp at hp)⟩), ?_⟩
  refine ⟨_, stable_is _, ask_run rfl rfl rfl (fun a w hw hk => run_load_w rfl (eval_of (known_old hk 3 (.head _) rfl)) agg_wide (hw.has (by first | (apply Has.own; (repeat (first | assumption | exact List.mem_cons_self | apply List.mem_cons_of_mem)); done) | (apply Has.read; (repeat (first | assumption | exact List.mem_cons_self | apply List.mem_cons_of_mem)); done)))), ?_⟩
  refine ⟨_, stable_mineb _ _ _ _ _, ask_big rfl rfl rfl (fun a w hw hk => by
      exact ⟨_, _, run_call1 rfl ⟨_, Tryd.func16, by kernel_rfl, by kernel_rfl⟩ (eval_of (known_op hk 15 2 0 (.head _) rfl rfl)), hbd, (fun p hp => by simp at hp)⟩), ?_⟩
  refine ⟨_, stable_mineb _ _ _ _ _, ask_rel rfl rfl rfl (fun a w hw hk => ⟨_, run_assign rfl (eval_of rfl), known_rel hk 14 1 2 (.head _) rfl rfl⟩), ?_⟩
  refine ⟨_, stable_mineb _ _ _ _ _, ask_rel rfl rfl rfl (fun a w hw hk => ⟨_, run_assign rfl (eval_of rfl), known_rel hk 16 3 1 (.head _) rfl rfl⟩), ?_⟩
  intro w hw
  rintro _ rfl
  rintro v1 ⟨L1, hv1, hf1, hm1⟩
  rintro _ rfl
  rintro v3 ⟨L3, hv3, hf3, hm3⟩
  rintro v4 ⟨L4, hv4, hf4, hm4⟩
  rintro v5 ⟨L5, hv5, hf5, hm5⟩
  change wpList _ _ _ _ _ _
  simp only [List.length_cons, List.length_nil, Nat.reduceAdd, Nat.zero_add, List.drop_succ_cons, List.drop_zero, Act.put, List.setIfInBounds_toArray, List.set_cons_succ, List.set_cons_zero]
  have hw := Ok.both hm4 hm5
  have hz4 := hv4
  have hz5 := hv5
  clear hm1 hm3 hm4 hm5 hv4 hv5 hbn hbd
  go_wp2_with (first | (refine ok_alloc (H := []) hw rfl 24 rfl _ zero_wide ?_; clear hw; intro k1 w hw) | (refine ok_alloc (H := [_]) hw rfl 24 rfl _ zero_wide ?_; clear hw; intro k2 w hw) | (refine ok_alloc (H := [_, _]) hw rfl 24 rfl _ zero_wide ?_; clear hw; intro k3 w hw) | (refine ok_alloc (H := [_, _, _]) hw rfl 24 rfl _ zero_wide ?_; clear hw; intro k4 w hw) | (refine ok_alloc (H := [_, _, _, _]) hw rfl 24 rfl _ zero_wide ?_; clear hw; intro k5 w hw) | (refine ok_alloc (H := [_, _, _, _, _]) hw rfl 24 rfl _ zero_wide ?_; clear hw; intro k6 w hw) | (refine w_store hw rfl 24 _ _ rfl _ rfl _ rfl agg_wide _ (by repeat (first | exact At.head _ | apply At.tail)) ?_; clear hw; intro w hw) | (go_at_call 70; refine (hquo (L4 ++ (L5 ++ [])) _ _ (hz4.mono (by grind)) (hz5.mono (by grind))).use hw sub_all ?_; clear hw; intro w zq Lq hzq hfq hw) | (have tk := hzs; clear tk; go_at_call 18; refine (vwide hzs (by rw [hre.out]; exact hrM)).of hw (fun q h => List.mem_append_left _ h) ?_; rw [hre.out]; clear hw; intro w hw) | (go_at_call 18; refine (vwide hzq hQM).of hw (fun q h => List.mem_append_left _ h) ?_; clear hw; intro w hw) | (go_at_call 22; refine (vmul (hzq.mono (R' := Lq ++ (L4 ++ (L5 ++ []))) (by grind)) (hz5.mono (by grind)) cQ cd).use hw sub_all ?_; clear hw; intro w zm Lm hzm hfm hw) | (go_at_call 71; refine (vsub (hz4.mono (R' := Lm ++ (Lq ++ (L4 ++ (L5 ++ [])))) (by grind)) (hzm.mono (by grind)) hle).use hw sub_all ?_; clear hw; intro w zs Ls hzs hfs hw))
  try simp only [Act.put, List.setIfInBounds_toArray, List.set_cons_succ, List.set_cons_zero]
  refine wp_region_draws_D [⟨[(9, none)], none, false, false⟩, ⟨[(11, none)], none, true, false⟩] 36 (fun w => Ok Non w0 w [(k6, limbs 8 r), (k5, limbs 8 Q), (k4, limbs 8 0), (k3, limbs 8 0), (k2, limbs 8 d), (k1, limbs 8 n)] (Ls ++ (Lm ++ (Lq ++ (L4 ++ (L5 ++ [])))))) (DRows [(k6, limbs 8 r)]) (by kernel_rfl) rfl (by kernel_rfl) (hw.grow (below_drew' _)) (fun _ _ h hb => h.grow hb) (fun w hw => dRows hw (by simp only [List.forall_mem_cons, List.not_mem_nil, false_implies, implies_true, and_true]; (repeat' (refine And.intro ?_ ?_)); all_goals (first | (apply Has.own; (repeat (first | assumption | exact List.mem_cons_self | apply List.mem_cons_of_mem)); done) | (apply Has.read; (repeat (first | assumption | exact List.mem_cons_self | apply List.mem_cons_of_mem)); done)))) (fun _ _ _ _ h => h) ?_
  clear hw
  refine ⟨_, stable_is _, ask_run rfl rfl rfl (fun a w hw hk => run_load_w rfl (eval_of (known_old hk 9 (.head _) rfl)) agg_wide (hw.has (by first | (apply Has.own; (repeat (first | assumption | exact List.mem_cons_self | apply List.mem_cons_of_mem)); done) | (apply Has.read; (repeat (first | assumption | exact List.mem_cons_self | apply List.mem_cons_of_mem)); done)))), ?_⟩
  refine ⟨_, stable_is _, ask_late rfl (fun a w w' hw hk hd => run_load_w rfl (eval_of (known_old hk 11 (.head _) rfl)) agg_wide (dHas hd (by (repeat (first | assumption | exact List.mem_cons_self | apply List.mem_cons_of_mem))))), ?_⟩
  intro w hw
  rintro _ rfl
  rintro _ rfl
  change wpListD _ _ _ _ _ _ _
  simp only [List.length_cons, List.length_nil, Nat.reduceAdd, Nat.zero_add, List.drop_succ_cons, List.drop_zero, Act.put, List.setIfInBounds_toArray, List.set_cons_succ, List.set_cons_zero]
  refine wD_store hw rfl _ _ _ rfl _ rfl _ rfl agg_wide _ (by repeat (first | exact At.head _ | apply At.tail)) (fun w hw => (dRows hw (by simp only [List.forall_mem_cons, List.not_mem_nil, false_implies, implies_true, and_true]; (repeat' (refine And.intro ?_ ?_)); all_goals (first | (apply Has.own; (repeat (first | assumption | exact List.mem_cons_self | apply List.mem_cons_of_mem)); done) | (apply Has.read; (repeat (first | assumption | exact List.mem_cons_self | apply List.mem_cons_of_mem)); done))))) ?_; clear hw; intro w hw
  refine wD_store hw rfl _ _ _ rfl _ rfl _ rfl agg_wide _ (by repeat (first | exact At.head _ | apply At.tail)) (fun w hw => (dRows hw (by simp only [List.forall_mem_cons, List.not_mem_nil, false_implies, implies_true, and_true]; (repeat' (refine And.intro ?_ ?_)); all_goals (first | (apply Has.own; (repeat (first | assumption | exact List.mem_cons_self | apply List.mem_cons_of_mem)); done) | (apply Has.read; (repeat (first | assumption | exact List.mem_cons_self | apply List.mem_cons_of_mem)); done))))) ?_; clear hw; intro w hw
  refine wD_end ?_
  go_wp2_with fail
  refine ret_cc rfl rfl rfl agg_wide agg_wide (hw.rows _ (.tail _ (.tail _ (.tail _ (.head _))))) (hw.rows _ (.tail _ (.tail _ (.head _)))) (by simp) (by simp) rfl ⟨rfl, hw.below⟩
end Go.Proofs.YtcodmeljjphoeaaDoor
