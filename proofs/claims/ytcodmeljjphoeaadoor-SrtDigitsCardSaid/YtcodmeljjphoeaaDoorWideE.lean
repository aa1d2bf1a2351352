/-
  Layers 1 and 2: what is below, lengths, powers.
-/
import Derived.Test.YtcodmeljjphoeaaDoorWideD
import Derived.Lib.ItoaNum
namespace Go.Proofs.YtcodmeljjphoeaaDoor
open Go.RowKit
set_option linter.unusedVariables false
set_option linter.unusedSimpArgs false

theorem limbat_in (z : Int) (m n c k j : Nat) (hn : n ≤ m) (hj : j < n) : Gives Tryd.prog 90 #[.slice (some ⟨k, 0, none⟩) n c, .int .i64 j] [(k, limbs m z)] (.int .u64 (lim z j)) := by
  have h := limbat_gives z m n c k j hn
  rwa [latv_in _ _ _ hj] at h

theorem lim_top {x : Int} (h0 : 0 ≤ x) (h1 : x < M) : x / 2 ^ (64 * 8) = 0 := Int.ediv_eq_zero_of_lt h0 h1
theorem ediv_succ (x : Int) (i : Nat) : x / 2 ^ (64 * i) = x / 2 ^ (64 * (i + 1)) * 18446744073709551616 + lim x i := by
  have e : x / 2 ^ (64 * (i + 1)) = x / 2 ^ (64 * i) / 18446744073709551616 := by
    rw [show (18446744073709551616 : Int) = 2 ^ 64 by rfl, ediv_pow]; congr 2
  rw [e]; unfold lim
  generalize x / 2 ^ (64 * i) = y
  omega
theorem lt_of_ediv {x y p : Int} (hp : 0 < p) (h : x / p < y / p) : x < y := by
  have e1 := Int.emod_add_mul_ediv x p
  have e2 := Int.emod_add_mul_ediv y p
  have b1 := Int.emod_lt_of_pos x hp
  have b2 := Int.emod_nonneg y (show p ≠ 0 by omega)
  have := Int.mul_le_mul_of_nonneg_left (show x / p + 1 ≤ y / p by omega) (show 0 ≤ p by omega)
  rw [Int.mul_add] at this
  omega
theorem less_of_lim {x y : Int} {i : Nat} (hh : x / 2 ^ (64 * (i + 1)) = y / 2 ^ (64 * (i + 1))) (hne : lim x i ≠ lim y i) : decide (lim x i < lim y i) = decide (x < y) := by
  have e1 := ediv_succ x i
  have e2 := ediv_succ y i
  have hp := pow_pos2 (64 * i)
  rw [hh] at e1
  rw [decide_eq_decide]
  constructor
  · intro h; exact lt_of_ediv hp (by omega)
  · intro h
    apply Classical.byContradiction
    intro h2
    have := lt_of_ediv (x := y) (y := x) hp (by omega)
    omega

theorem lim_top' {x : Int} {n m : Nat} (h0 : 0 ≤ x) (h1 : x < 2 ^ (64 * n)) (h : n ≤ m) : x / 2 ^ (64 * m) = 0 :=
  Int.ediv_eq_zero_of_lt h0 (Int.lt_of_lt_of_le h1 (pow_mono2 (by omega)))
/-- Beyond the end there are noughts. -/
theorem limbatL (z : Int) (cs : Array Value) (o n c k j : Nat) (hp : Part cs o n z) (h0 : 0 ≤ z) (h1 : z < 2 ^ (64 * n)) : Gives Tryd.prog 90 #[.slice (some ⟨k, o, none⟩) n c, .int .i64 j] [(k, cs)] (.int .u64 (lim z j)) := by
  have h := limbatP z cs o n c k j hp
  by_cases hj : j < n
  · rwa [latv_in _ _ _ hj] at h
  · rw [latv_out _ _ _ (.inr (by omega))] at h
    rw [show lim z j = 0 by unfold lim; rw [lim_top' h0 h1 (by omega)]; rfl]
    exact h

set_option maxRecDepth 10000 in
theorem lessP (x y : Int) (cs ds : Array Value) (k1 o1 n1 c1 k2 o2 n2 c2 : Nat) (hn1 : n1 < 65536) (hn2 : n2 < 65536) (hp1 : Part cs o1 n1 x) (hp2 : Part ds o2 n2 y) (hx0 : 0 ≤ x) (hx1 : x < 2 ^ (64 * n1)) (hy0 : 0 ≤ y) (hy1 : y < 2 ^ (64 * n2)) :
    Gives Tryd.prog 77 #[.slice (some ⟨k1, o1, none⟩) n1 c1, .slice (some ⟨k2, o2, none⟩) n2 c2] [(k1, cs), (k2, ds)] (.bool (decide (x < y))) := by
  refine .mk fun w0 w hw => ?_
  go_enter Tryd.func77, Tryd.ntmps77
  go_wp2_with fail
  go_loopw [5] (fun v wr => ∃ i : Nat, i ≤ 65536 ∧ v = .int .i64 (i - 1) ∧ x / 2 ^ (64 * i) = y / 2 ^ (64 * i) ∧ Ok Non w0 wr [] [(k1, cs), (k2, ds)]) (fun v _ => (intOf v + 1).toNat)
  case atStart => exact ⟨max n1 n2, by omega, by go_num, by rw [lim_top' hx0 hx1 (by omega), lim_top' hy0 hy1 (by omega)], hw⟩
  case round =>
    clear hw
    obtain ⟨i, hi, rfl, hh, hw⟩ := hrel
    by_cases h0 : i = 0
    · subst h0
      go_wp2_with fail
      go_ret
      refine ⟨?_, hw.below⟩
      have : x = y := by simpa using hh
      subst this
      simp
    · obtain ⟨j, rfl⟩ : ∃ j, i = j + 1 := ⟨i - 1, by omega⟩
      rw [show (((j + 1 : Nat) : Int) - 1) = (j : Int) by omega]
      by_cases hne : lim x j = lim y j
      · go_wp2_with (first | (go_at_call 90; refine (limbatL _ _ _ _ _ _ j (by assumption) (by assumption) (by assumption)).call hw (by simp only [List.forall_mem_cons, List.not_mem_nil, false_implies, implies_true, and_true]; (repeat' (refine And.intro ?_ ?_)); all_goals (first | (refine Has.own ?_; (repeat (first | assumption | exact List.mem_cons_self | apply List.mem_cons_of_mem)); done) | (refine Has.read ?_; (repeat (first | assumption | exact List.mem_cons_self | apply List.mem_cons_of_mem)); done))) ?_; clear hw; intro w hw))
        exact ⟨⟨j, by omega, rfl, by rw [ediv_succ x, ediv_succ y, hh, hne], hw⟩, by simp [intOf]⟩
      · have hd := less_of_lim hh hne
        go_wp2_with (first | (go_at_call 90; refine (limbatL _ _ _ _ _ _ j (by assumption) (by assumption) (by assumption)).call hw (by simp only [List.forall_mem_cons, List.not_mem_nil, false_implies, implies_true, and_true]; (repeat' (refine And.intro ?_ ?_)); all_goals (first | (refine Has.own ?_; (repeat (first | assumption | exact List.mem_cons_self | apply List.mem_cons_of_mem)); done) | (refine Has.read ?_; (repeat (first | assumption | exact List.mem_cons_self | apply List.mem_cons_of_mem)); done))) ?_; clear hw; intro w hw))
        go_ret
        exact ⟨rfl, hw.below⟩

theorem less_gives (x y : Int) (k1 k2 : Nat) (hx0 : 0 ≤ x) (hx1 : x < M) (hy0 : 0 ≤ y) (hy1 : y < M) :
    Gives Tryd.prog 77 #[.slice (some ⟨k1, 0, none⟩) 8 8, .slice (some ⟨k2, 0, none⟩) 8 8] [(k1, limbs 8 x), (k2, limbs 8 y)] (.bool (decide (x < y))) :=
  lessP x y _ _ k1 0 8 8 k2 0 8 8 (by omega) (by omega) (part_limbs _ (by omega)) (part_limbs _ (by omega)) hx0 hx1 hy0 hy1

def cmpv (x y : Int) : Int := if x = y then 0 else if x < y then -1 else 1
theorem mod_in {x : Int} (h0 : 0 ≤ x) (h1 : x < M) : x % M = x := Int.emod_eq_of_lt h0 h1

set_option maxRecDepth 100000 in
set_option maxHeartbeats 400000 in
theorem cmp_gives (x y : Int) (hx0 : 0 ≤ x) (hx1 : x < M) (hy0 : 0 ≤ y) (hy1 : y < M) : Gives Tryd.prog 49 #[W x, W y] [] (.int .i64 (cmpv x y)) := by
  refine .mk fun w0 w hw => ?_
  by_cases h : x = y
  · rw [show cmpv x y = 0 by unfold cmpv; rw [if_pos h]]
    go_enter Tryd.func49, Tryd.ntmps49
    go_wp2_with (first | (refine w_box (H := []) hw rfl 24 _ rfl _ rfl ?_; clear hw; intro k1 w hw) | (refine w_box (H := [_]) hw rfl 24 _ rfl _ rfl ?_; clear hw; intro k2 w hw) | (refine w_load hw rfl 24 _ rfl _ rfl agg_wide _ (by first | (apply Has.own; (repeat (first | assumption | exact List.mem_cons_self | apply List.mem_cons_of_mem)); done) | (apply Has.read; (repeat (first | assumption | exact List.mem_cons_self | apply List.mem_cons_of_mem)); done)) ?_) | (refine w_eql rfl _ _ _ rfl _ _ rfl rfl ?_))
    go_ret
    exact ⟨rfl, hw.below⟩
  · have hne : ¬ x % M = y % M := by rw [mod_in hx0 hx1, mod_in hy0 hy1]; exact h
    by_cases hlt : x < y
    · rw [show cmpv x y = -1 by unfold cmpv; rw [if_neg h, if_pos hlt]]
      go_enter Tryd.func49, Tryd.ntmps49
      go_wp2_with (first | (refine w_box (H := []) hw rfl 24 _ rfl _ rfl ?_; clear hw; intro k1 w hw) | (refine w_box (H := [_]) hw rfl 24 _ rfl _ rfl ?_; clear hw; intro k2 w hw) | (refine w_load hw rfl 24 _ rfl _ rfl agg_wide _ (by first | (apply Has.own; (repeat (first | assumption | exact List.mem_cons_self | apply List.mem_cons_of_mem)); done) | (apply Has.read; (repeat (first | assumption | exact List.mem_cons_self | apply List.mem_cons_of_mem)); done)) ?_) | (refine w_eql rfl _ _ _ rfl _ _ rfl rfl ?_))
      try simp only [Act.put, List.setIfInBounds_toArray, List.set_cons_succ, List.set_cons_zero]
      refine wp_region_draws [⟨[(2, none)], none, false, false⟩, ⟨[(3, none)], none, false, false⟩, ⟨[(10, some 0), (11, some 1)], none, false, false⟩, ⟨[(12, some 2)], none, false, false⟩] 13 (fun w => Ok Non w0 w [(k2, limbs 8 y), (k1, limbs 8 x)] []) (by kernel_rfl) rfl (by kernel_rfl) (hw.grow (below_drew' _)) (fun _ _ h hb => h.grow hb) (fun _ _ _ _ h => h) ?_
      clear hw
      refine ⟨_, stable_is _, ask_run rfl rfl rfl (fun a w hw hk => by
      have e2 := known_old hk 2 (.head _) (by simp only [List.getElem?_toArray, List.getElem?_cons_zero, List.getElem?_cons_succ, Option.getD_some]; rfl)
      go_simp
      (first | with_reducible rfl | exact ⟨rfl, rfl⟩)), ?_⟩
      refine ⟨_, stable_is _, ask_run rfl rfl rfl (fun a w hw hk => by
      have e3 := known_old hk 3 (.head _) (by simp only [List.getElem?_toArray, List.getElem?_cons_zero, List.getElem?_cons_succ, Option.getD_some]; rfl)
      go_simp
      (first | with_reducible rfl | exact ⟨rfl, rfl⟩)), ?_⟩
      refine ⟨_, stable_is _, ask_gives rfl rfl rfl (fun a w hw hk => run_call2 rfl ⟨_, Tryd.func77, by kernel_rfl, by kernel_rfl⟩ (eval_of (known_op hk 10 0 1 (.head _) rfl rfl)) (eval_of (known_op hk 11 1 0 (.tail _ (.head _)) rfl rfl)))
    (less_gives x y k1 k2 hx0 hx1 hy0 hy1) (fun w hw => dRows hw (by simp only [List.forall_mem_cons, List.not_mem_nil, false_implies, implies_true, and_true]; (repeat' (refine And.intro ?_ ?_)); all_goals (first | (refine Has.own ?_; (repeat (first | assumption | exact List.mem_cons_self | apply List.mem_cons_of_mem)); done) | (refine Has.read ?_; (repeat (first | assumption | exact List.mem_cons_self | apply List.mem_cons_of_mem)); done)))), ?_⟩
      refine ⟨_, stable_is _, ask_run rfl rfl rfl (fun a w hw hk => run_assign rfl (eval_of (known_op hk 12 2 0 (.head _) rfl rfl))), ?_⟩
      intro w hw
      rintro _ rfl
      rintro _ rfl
      rintro _ rfl
      rintro _ rfl
      change wpList _ _ _ _ _ _
      simp only [List.length_cons, List.length_nil, Nat.reduceAdd, Nat.zero_add, List.drop_succ_cons, List.drop_zero, Act.put, List.setIfInBounds_toArray, List.set_cons_succ, List.set_cons_zero]
      go_wp2
      go_ret
      exact ⟨rfl, hw.below⟩
    · rw [show cmpv x y = 1 by unfold cmpv; rw [if_neg h, if_neg hlt]]
      go_enter Tryd.func49, Tryd.ntmps49
      go_wp2_with (first | (refine w_box (H := []) hw rfl 24 _ rfl _ rfl ?_; clear hw; intro k1 w hw) | (refine w_box (H := [_]) hw rfl 24 _ rfl _ rfl ?_; clear hw; intro k2 w hw) | (refine w_load hw rfl 24 _ rfl _ rfl agg_wide _ (by first | (apply Has.own; (repeat (first | assumption | exact List.mem_cons_self | apply List.mem_cons_of_mem)); done) | (apply Has.read; (repeat (first | assumption | exact List.mem_cons_self | apply List.mem_cons_of_mem)); done)) ?_) | (refine w_eql rfl _ _ _ rfl _ _ rfl rfl ?_))
      try simp only [Act.put, List.setIfInBounds_toArray, List.set_cons_succ, List.set_cons_zero]
      refine wp_region_draws [⟨[(2, none)], none, false, false⟩, ⟨[(3, none)], none, false, false⟩, ⟨[(10, some 0), (11, some 1)], none, false, false⟩, ⟨[(12, some 2)], none, false, false⟩] 13 (fun w => Ok Non w0 w [(k2, limbs 8 y), (k1, limbs 8 x)] []) (by kernel_rfl) rfl (by kernel_rfl) (hw.grow (below_drew' _)) (fun _ _ h hb => h.grow hb) (fun _ _ _ _ h => h) ?_
      clear hw
      refine ⟨_, stable_is _, ask_run rfl rfl rfl (fun a w hw hk => by
      have e2 := known_old hk 2 (.head _) (by simp only [List.getElem?_toArray, List.getElem?_cons_zero, List.getElem?_cons_succ, Option.getD_some]; rfl)
      go_simp
      (first | with_reducible rfl | exact ⟨rfl, rfl⟩)), ?_⟩
      refine ⟨_, stable_is _, ask_run rfl rfl rfl (fun a w hw hk => by
      have e3 := known_old hk 3 (.head _) (by simp only [List.getElem?_toArray, List.getElem?_cons_zero, List.getElem?_cons_succ, Option.getD_some]; rfl)
      go_simp
      (first | with_reducible rfl | exact ⟨rfl, rfl⟩)), ?_⟩
      refine ⟨_, stable_is _, ask_gives rfl rfl rfl (fun a w hw hk => run_call2 rfl ⟨_, Tryd.func77, by kernel_rfl, by kernel_rfl⟩ (eval_of (known_op hk 10 0 1 (.head _) rfl rfl)) (eval_of (known_op hk 11 1 0 (.tail _ (.head _)) rfl rfl)))
    (less_gives x y k1 k2 hx0 hx1 hy0 hy1) (fun w hw => dRows hw (by simp only [List.forall_mem_cons, List.not_mem_nil, false_implies, implies_true, and_true]; (repeat' (refine And.intro ?_ ?_)); all_goals (first | (refine Has.own ?_; (repeat (first | assumption | exact List.mem_cons_self | apply List.mem_cons_of_mem)); done) | (refine Has.read ?_; (repeat (first | assumption | exact List.mem_cons_self | apply List.mem_cons_of_mem)); done)))), ?_⟩
      refine ⟨_, stable_is _, ask_run rfl rfl rfl (fun a w hw hk => run_assign rfl (eval_of (known_op hk 12 2 0 (.head _) rfl rfl))), ?_⟩
      intro w hw
      rintro _ rfl
      rintro _ rfl
      rintro _ rfl
      rintro _ rfl
      change wpList _ _ _ _ _ _
      simp only [List.length_cons, List.length_nil, Nat.reduceAdd, Nat.zero_add, List.drop_succ_cons, List.drop_zero, Act.put, List.setIfInBounds_toArray, List.set_cons_succ, List.set_cons_zero]
      go_wp2
      go_ret
      exact ⟨rfl, hw.below⟩
end Go.Proofs.YtcodmeljjphoeaaDoor
