/-
  Layer 16: square roots by digits of either sign: the steps.
-/
import Derived.Test.YtcodmeljjphoeaaTable
import Derived.Test.YtcodmeljjphoeaaNorm
import Derived.Test.YtcodmeljjphoeaaWideG
import Derived.Laws.Tables
namespace Go.Proofs.Ytcodmeljjphoeaa
open Go.RowKit
set_option linter.unusedVariables false
set_option linter.unusedSimpArgs false

theorem lim_low (v : Int) : lim v 0 = v % 18446744073709551616 := by unfold lim; simp

theorem srsmall_gives (v : Int) (h0 : -9223372036854775808 ≤ v) (h1 : v ≤ 9223372036854775807) : Gives Try.prog 78 #[W v] [] (.int .i64 v) := by
  refine .mk fun w0 w hw => ?_
  go_enter Try.func78, Try.ntmps78
  go_wp2_with (first | (refine w_box (H := []) hw rfl 24 _ rfl _ rfl ?_; clear hw; intro k1 w hw) | (refine ok_load_cell hw rfl 22 _ rfl _ _ rfl one_u64 _ (Has.own (.head _)) _ (limbs_get (i := 0) _ (by omega)) ?_))
  go_ret
  refine ⟨?_, hw.below⟩
  have e : wrap64 (lim v 0) = v := by rw [lim_low]; unfold wrap64; omega
  exact congrArg (fun x => Ending.returned (Value.int .i64 x)) e

set_option maxRecDepth 10000 in
theorem srtimes_gives (a n : Int) (h0 : 0 ≤ a) (h1 : a < M) (hn : -1000 ≤ n ∧ n ≤ 1000) : Gives Try.prog 118 #[W a, .int .i64 n] [] (W (a * n)) := by
  refine .mk fun w0 w hw => ?_
  have hs := small_gives a (max n (-n)) h0 h1 (by omega) (by omega)
  by_cases h : n < 0
  · have hg := neg_gives (a * max n (-n))
    rw [show -(a * max n (-n)) = a * n by rw [show max n (-n) = -n by omega]; grind] at hg
    go_enter Try.func118, Try.ntmps118
    go_wp2_with (first | (refine w_box (H := []) hw rfl 24 _ rfl _ rfl ?_; clear hw; intro k1 w hw) | (refine ok_alloc (H := []) hw rfl 24 rfl _ zero_wide ?_; clear hw; intro k1 w hw) | (refine ok_alloc (H := [_]) hw rfl 24 rfl _ zero_wide ?_; clear hw; intro k2 w hw) | (refine ok_alloc (H := [_, _]) hw rfl 24 rfl _ zero_wide ?_; clear hw; intro k3 w hw) | (refine w_load hw rfl 24 _ rfl _ rfl agg_wide _ (by first | (apply Has.own; (repeat (first | assumption | exact List.mem_cons_self | apply List.mem_cons_of_mem)); done) | (apply Has.read; (repeat (first | assumption | exact List.mem_cons_self | apply List.mem_cons_of_mem)); done)) ?_) | (refine w_store hw rfl 24 _ _ rfl _ rfl _ rfl agg_wide _ (by repeat (first | exact At.head _ | apply At.tail)) ?_; clear hw; intro w hw) | (go_at_call 134; refine hs.call0 hw ?_; clear hw; intro w hw) | (go_at_call 135; refine hg.call0 hw ?_; clear hw; intro w hw))
    refine ret_c rfl rfl agg_wide (hw.rows _ (.tail _ (.head _))) (by simp) rfl ⟨rfl, hw.below⟩
  · go_enter Try.func118, Try.ntmps118
    go_wp2_with (first | (refine w_box (H := []) hw rfl 24 _ rfl _ rfl ?_; clear hw; intro k1 w hw) | (refine ok_alloc (H := []) hw rfl 24 rfl _ zero_wide ?_; clear hw; intro k1 w hw) | (refine ok_alloc (H := [_]) hw rfl 24 rfl _ zero_wide ?_; clear hw; intro k2 w hw) | (refine ok_alloc (H := [_, _]) hw rfl 24 rfl _ zero_wide ?_; clear hw; intro k3 w hw) | (refine w_load hw rfl 24 _ rfl _ rfl agg_wide _ (by first | (apply Has.own; (repeat (first | assumption | exact List.mem_cons_self | apply List.mem_cons_of_mem)); done) | (apply Has.read; (repeat (first | assumption | exact List.mem_cons_self | apply List.mem_cons_of_mem)); done)) ?_) | (refine w_store hw rfl 24 _ _ rfl _ rfl _ rfl agg_wide _ (by repeat (first | exact At.head _ | apply At.tail)) ?_; clear hw; intro w hw) | (go_at_call 134; refine hs.call0 hw ?_; clear hw; intro w hw))
    refine ret_c rfl rfl agg_wide (hw.rows _ (.tail _ (.head _))) (by simp) rfl ⟨by rw [show max n (-n) = n by omega]; rfl, hw.below⟩

/-! Pairs of numbers of 512 bits. -/
/-- A pair, as cells. -/
def two (y z : Int) : Array Value := limbs 8 y ++ limbs 8 z
@[simp] theorem size_two (y z : Int) : (two y z).size = 16 := by simp [two]
theorem ones_two (y z : Int) : Ones (two y z) := by
  have h1 := ones_limbs 8 y
  have h2 := ones_limbs 8 z
  unfold Ones two at *
  simp only [Array.all_append, h1, h2, Bool.and_self]
section
variable {P : Program} {ops : Array Oper} {Q : Exit → Act → World → Prop} {rest : List Oper} {o : Oper} {a : Act} {S : Nat → Prop} {w0 w : World} {H R : List (Nat × Array Value)} {ρ : Operand → Value}
theorem run_load_fst {t : TypeId} {x : Operand} (ho : o.op = .load t x) {k : Nat} {y z : Int} (hx : ρ x = .pointer (some ⟨k, 0, none⟩)) (hg : Agg P t 8) (h : Blk w k (two y z)) : (execOp ρ o).run P w = .ok (.value (W y)) w := by
  rw [run_load_part ho h hx hg (by simp), show (two y z).extract 0 (0 + 8) = limbs 8 y from extract_fst _ _ 8 (by simp)]; rfl
theorem run_load_snd {t : TypeId} {x : Operand} (ho : o.op = .load t x) {k : Nat} {y z : Int} (hx : ρ x = .pointer (some ⟨k, 8, none⟩)) (hg : Agg P t 8) (h : Blk w k (two y z)) : (execOp ρ o).run P w = .ok (.value (W z)) w := by
  rw [run_load_part ho h hx hg (by simp), show (two y z).extract 8 (8 + 8) = limbs 8 z from extract_snd _ _ 8 8 (by simp) (by simp)]; rfl
theorem two_load_fst (h : Ok S w0 w H R) (hgd : o.guard = none) (t : TypeId) (x : Operand) (ho : o.op = .load t x) (k : Nat) (hx : a.eval x = .pointer (some ⟨k, 0, none⟩)) (hg : Agg P t 8) (y z : Int) (hm : Has H R k (two y z))
    (hk : wpList P ops Q rest (a.put o.dst (W y)) w) : wpList P ops Q (o :: rest) a w :=
  wpL_value hgd (run_load_fst ho hx hg (h.has hm)) hk
theorem two_load_snd (h : Ok S w0 w H R) (hgd : o.guard = none) (t : TypeId) (x : Operand) (ho : o.op = .load t x) (k : Nat) (hx : a.eval x = .pointer (some ⟨k, 8, none⟩)) (hg : Agg P t 8) (y z : Int) (hm : Has H R k (two y z))
    (hk : wpList P ops Q rest (a.put o.dst (W z)) w) : wpList P ops Q (o :: rest) a w :=
  wpL_value hgd (run_load_snd ho hx hg (h.has hm)) hk
/-- Is it a struct of two of them? -/
def Two (P : Program) (t : TypeId) : Prop := ∀ y z, (P.built t [(0, W y), (1, W z)]) = some (two y z)
theorem run_build2 {t : TypeId} {x1 x2 : Operand} {y z : Int} (ho : o.op = .build t #[(0, x1), (1, x2)]) (ht : Two P t) (h1 : ρ x1 = W y) (h2 : ρ x2 = W z) : (execOp ρ o).run P w = .ok (.value (.agg (two y z))) w := by
  have := run_build (P := P) w t #[(0, W y), (1, W z)] (two y z) (ht y z)
  simp only [execOp, ho, List.map_toArray, List.map_cons, List.map_nil, h1, h2, Sem.run_bind, this, Result.andThen_ok, Sem.run_pure]
theorem ok_build2 (hgd : o.guard = none) (t : TypeId) (x1 x2 : Operand) (ho : o.op = .build t #[(0, x1), (1, x2)]) (ht : Two P t) (y z : Int) (h1 : a.eval x1 = W y) (h2 : a.eval x2 = W z)
    (hk : wpList P ops Q rest (a.put o.dst (.agg (two y z))) w) : wpList P ops Q (o :: rest) a w :=
  wpL_value hgd (run_build2 ho ht h1 h2) hk
end
theorem two_far : Two Try.prog 65 := fun y z => by kernel_rfl
theorem agg_far : Agg Try.prog 65 16 := .mk _ Try.underlying65 rfl (by kernel_rfl)
theorem zero_far : Zero Try.prog 65 (two 0 0) := ⟨.agg (two 0 0), by kernel_rfl, rfl⟩

set_option maxRecDepth 100000 in
set_option maxHeartbeats 400000 in
theorem begin_gives (N : Int) : Gives Try.prog 49 #[W N] [] (.agg (two (2 ^ 128) (N - 2 ^ 256))) := by
  refine .mk fun w0 w hw => ?_
  have h256 := power_gives 256 (by omega)
  have h128 := power_gives 128 (by omega)
  have hsub := sub_gives N (2 ^ 256)
  generalize (2 : Int) ^ 256 = P2 at *
  generalize (2 : Int) ^ 128 = P1 at *
  go_enter Try.func49, Try.ntmps49
  go_wp2_with (first | (refine w_box (H := []) hw rfl 24 _ rfl _ rfl ?_; clear hw; intro k1 w hw) | (refine ok_alloc (H := []) hw rfl 65 rfl _ zero_far ?_; clear hw; intro k1 w hw) | (refine ok_alloc (H := [_]) hw rfl 65 rfl _ zero_far ?_; clear hw; intro k2 w hw))
  try simp only [Act.put, List.setIfInBounds_toArray, List.set_cons_succ, List.set_cons_zero]
  refine wp_region_draws [⟨[(1, none)], none, false, false⟩, ⟨[], none, false, false⟩, ⟨[(6, some 0), (7, some 1)], none, false, false⟩, ⟨[(8, some 2)], none, false, false⟩, ⟨[(5, some 3)], none, false, false⟩, ⟨[(5, some 3)], none, true, false⟩, ⟨[], none, false, true⟩] 14 (fun w => Ok Non w0 w [(k2, two 0 0), (k1, limbs 8 N)] []) (by kernel_rfl) rfl (by kernel_rfl) (hw.grow (below_drew' _)) (fun _ _ h hb => h.grow hb) (fun _ _ _ _ h => h) ?_
  clear hw
  refine ⟨_, stable_is _, ask_run rfl rfl rfl (fun a w hw hk => run_load_w rfl (eval_of (known_old hk 1 (.head _) rfl)) agg_wide (hw.has (by first | (apply Has.own; (repeat (first | assumption | exact List.mem_cons_self | apply List.mem_cons_of_mem)); done) | (apply Has.read; (repeat (first | assumption | exact List.mem_cons_self | apply List.mem_cons_of_mem)); done)))), ?_⟩
  refine ⟨_, stable_is _, ask_gives rfl rfl rfl (fun a w hw hk => run_call1 rfl ⟨_, Try.func84, by kernel_rfl, by kernel_rfl⟩ rfl)
    h256 (fun w hw => by simp), ?_⟩
  refine ⟨_, stable_is _, ask_gives rfl rfl rfl (fun a w hw hk => run_call2 rfl ⟨_, Try.func60, by kernel_rfl, by kernel_rfl⟩ (eval_of (known_op hk 6 0 1 (.head _) rfl rfl)) (eval_of (known_op hk 7 1 0 (.tail _ (.head _)) rfl rfl)))
    hsub (fun w hw => by simp), ?_⟩
  refine ⟨_, stable_is _, ask_run rfl rfl rfl (fun a w hw hk => run_move rfl (eval_of (known_op hk 8 2 0 (.head _) rfl rfl))), ?_⟩
  refine ⟨_, stable_is _, ask_run rfl rfl rfl (fun a w hw hk => run_extract rfl (eval_of (known_op hk 5 3 0 (.head _) rfl rfl)) rfl), ?_⟩
  refine ⟨_, stable_is _, ask_late rfl (fun a w w' hw hk hd => run_extract rfl (eval_of (known_op hk 5 3 1 (.head _) rfl rfl)) rfl), ?_⟩
  refine ⟨_, stable_mine _ _ _ _ _, ask_alloc rfl rfl 24 rfl _ zero_wide, ?_⟩
  intro w hw
  rintro _ rfl
  rintro _ rfl
  rintro _ rfl
  rintro _ rfl
  rintro _ rfl
  rintro _ rfl
  rintro _ ⟨m6, rfl, hm6⟩ hn6
  clear hw hn6; have hw := hm6; clear hm6
  change wpList _ _ _ _ _ _
  simp only [List.length_cons, List.length_nil, Nat.reduceAdd, Nat.zero_add, List.drop_succ_cons, List.drop_zero, Act.put, List.setIfInBounds_toArray, List.set_cons_succ, List.set_cons_zero]
  go_wp2_with (first | (refine w_store hw rfl 24 _ _ rfl _ rfl _ rfl agg_wide _ (by repeat (first | exact At.head _ | apply At.tail)) ?_; clear hw; intro w hw))
  try simp only [Act.put, List.setIfInBounds_toArray, List.set_cons_succ, List.set_cons_zero]
  refine wp_region_draws [⟨[], none, false, false⟩, ⟨[(3, none)], none, false, false⟩, ⟨[(11, some 0), (12, some 1)], none, false, false⟩] 14 (fun w => Ok Non w0 w [(m6, limbs 8 (N - P2)), (k2, two 0 0), (k1, limbs 8 N)] []) (by kernel_rfl) rfl (by kernel_rfl) (hw.grow (below_drew' _)) (fun _ _ h hb => h.grow hb) (fun _ _ _ _ h => h) ?_
  clear hw
  refine ⟨_, stable_is _, ask_gives rfl rfl rfl (fun a w hw hk => run_call1 rfl ⟨_, Try.func84, by kernel_rfl, by kernel_rfl⟩ rfl)
    h128 (fun w hw => by simp), ?_⟩
  refine ⟨_, stable_is _, ask_run rfl rfl rfl (fun a w hw hk => run_load_w rfl (eval_of (known_old hk 3 (.head _) rfl)) agg_wide (hw.has (by first | (apply Has.own; (repeat (first | assumption | exact List.mem_cons_self | apply List.mem_cons_of_mem)); done) | (apply Has.read; (repeat (first | assumption | exact List.mem_cons_self | apply List.mem_cons_of_mem)); done)))), ?_⟩
  refine ⟨_, stable_is _, ask_run rfl rfl rfl (fun a w hw hk => run_build2 rfl two_far (eval_of (known_op hk 11 0 1 (.head _) rfl rfl)) (eval_of (known_op hk 12 1 0 (.tail _ (.head _)) rfl rfl))), ?_⟩
  intro w hw
  rintro _ rfl
  rintro _ rfl
  rintro _ rfl
  change wpList _ _ _ _ _ _
  simp only [List.length_cons, List.length_nil, Nat.reduceAdd, Nat.zero_add, List.drop_succ_cons, List.drop_zero, Act.put, List.setIfInBounds_toArray, List.set_cons_succ, List.set_cons_zero]
  go_wp2_with (first | (refine ok_store hw rfl 65 _ _ rfl _ rfl _ rfl _ agg_far _ (by repeat (first | exact At.head _ | apply At.tail)) (by simp) (by simp) (ones_two _ _) ?_; clear hw; intro w hw))
  refine ret_c rfl rfl agg_far (hw.rows _ (.tail _ (.head _))) (by simp) rfl ⟨rfl, hw.below⟩

set_option maxRecDepth 100000 in
set_option maxHeartbeats 1000000 in
theorem next_gives (p left d : Int) (t : Nat) (hp0 : 0 ≤ p) (hp1 : p * 2 ^ (t + 1) < M) (ht : t ≤ 126) (hd : -2 ≤ d ∧ d ≤ 2) :
    Gives Try.prog 80 #[.agg (two p left), .int .i64 d, .int .i64 t] [] (.agg (two (p + 2 ^ t * d) (left - p * 2 ^ (t + 1) * d - 2 ^ (2 * t) * (d * d)))) := by
  refine .mk fun w0 w hw => ?_
  have hdd : 0 ≤ d * d ∧ d * d ≤ 4 := by
    have : d = -2 ∨ d = -1 ∨ d = 0 ∨ d = 1 ∨ d = 2 := by omega
    rcases this with h | h | h | h | h <;> subst h <;> omega
  have hone : 0 ≤ p * 2 ^ (t + 1) := Int.mul_nonneg hp0 (by have := pow_pos2 (t + 1); omega)
  have hsh := shl_gives p ((t : Int) + 1)
  rw [show (clampv ((t : Int) + 1)).toNat = t + 1 by unfold clampv; omega] at hsh
  have ht1 := srtimes_gives (p * 2 ^ (t + 1)) d hone hp1 (by omega)
  have hs1 := sub_gives left (p * 2 ^ (t + 1) * d)
  have hpw2 := power_gives (2 * t) (by omega)
  rw [show ((2 * t : Nat) : Int) = 2 * (t : Int) by omega] at hpw2
  have ht2 := srtimes_gives (2 ^ (2 * t)) (d * d) (by have := pow_pos2 (2 * t); omega) (pow_in (by omega)) (by omega)
  have hs2 := sub_gives (left - p * 2 ^ (t + 1) * d) (2 ^ (2 * t) * (d * d))
  have hpw1 := power_gives t (by omega)
  have ht3 := srtimes_gives (2 ^ t) d (by have := pow_pos2 t; omega) (pow_in (by omega)) (by omega)
  have had := add_gives p (2 ^ t * d)
  generalize left - p * 2 ^ (t + 1) * d - 2 ^ (2 * t) * (d * d) = L2 at *
  generalize 2 ^ (2 * t) * (d * d) = T2 at *
  generalize left - p * 2 ^ (t + 1) * d = L1 at *
  generalize p * 2 ^ (t + 1) * d = T1 at *
  generalize p * 2 ^ (t + 1) = O at *
  generalize p + 2 ^ t * d = P1 at *
  generalize 2 ^ t * d = T3 at *
  generalize (2 : Int) ^ (2 * t) = E2 at *
  generalize (2 : Int) ^ t = E1 at *
  go_enter Try.func80, Try.ntmps80
  go_wp2_with (first | (refine ok_box (H := []) hw rfl 65 _ rfl _ rfl ?_; clear hw; intro k1 w hw) | (refine ok_alloc (H := []) hw rfl 65 rfl _ zero_far ?_; clear hw; intro k1 w hw) | (refine ok_alloc (H := [_]) hw rfl 65 rfl _ zero_far ?_; clear hw; intro k2 w hw) | (refine ok_alloc (H := []) hw rfl 24 rfl _ zero_wide ?_; clear hw; intro k1 w hw) | (refine ok_alloc (H := [_]) hw rfl 24 rfl _ zero_wide ?_; clear hw; intro k2 w hw) | (refine ok_alloc (H := [_, _]) hw rfl 24 rfl _ zero_wide ?_; clear hw; intro k3 w hw) | (refine two_load_fst hw rfl 24 _ rfl _ rfl agg_wide _ _ (by first | (apply Has.own; (repeat (first | assumption | exact List.mem_cons_self | apply List.mem_cons_of_mem)); done) | (apply Has.read; (repeat (first | assumption | exact List.mem_cons_self | apply List.mem_cons_of_mem)); done)) ?_) | (refine w_store hw rfl 24 _ _ rfl _ rfl _ rfl agg_wide _ (by repeat (first | exact At.head _ | apply At.tail)) ?_; clear hw; intro w hw) | (go_at_call 52; refine hsh.call0 hw ?_; clear hw; intro w hw))
  try simp only [Act.put, List.setIfInBounds_toArray, List.set_cons_succ, List.set_cons_zero]
  refine wp_region_draws [⟨[(3, none)], none, false, false⟩, ⟨[(18, some 0)], none, false, false⟩, ⟨[(7, none)], none, false, false⟩, ⟨[(1, none)], none, false, false⟩, ⟨[(20, some 2), (21, some 3)], none, false, false⟩, ⟨[(19, some 1), (22, some 4)], none, false, false⟩, ⟨[(23, some 5)], none, false, false⟩, ⟨[(17, some 6)], none, false, false⟩, ⟨[(17, some 6)], none, true, false⟩, ⟨[], none, false, true⟩] 51 (fun w => Ok Non w0 w [(k3, limbs 8 O), (k2, two 0 0), (k1, two p left)] []) (by kernel_rfl) rfl (by kernel_rfl) (hw.grow (below_drew' _)) (fun _ _ h hb => h.grow hb) (fun _ _ _ _ h => h) ?_
  clear hw
  refine ⟨_, stable_is _, ask_run rfl rfl rfl (fun a w hw hk => by
      have e3 := known_old hk 3 (.head _) (by simp only [List.getElem?_toArray, List.getElem?_cons_zero, List.getElem?_cons_succ, Option.getD_some]; rfl)
      go_simp
      (first | with_reducible rfl | exact ⟨rfl, rfl⟩)), ?_⟩
  refine ⟨_, stable_is _, ask_run rfl rfl rfl (fun a w hw hk => run_load_snd rfl (eval_of (known_op hk 18 0 0 (.head _) rfl rfl)) agg_wide (hw.has (by first | (apply Has.own; (repeat (first | assumption | exact List.mem_cons_self | apply List.mem_cons_of_mem)); done) | (apply Has.read; (repeat (first | assumption | exact List.mem_cons_self | apply List.mem_cons_of_mem)); done)))), ?_⟩
  refine ⟨_, stable_is _, ask_run rfl rfl rfl (fun a w hw hk => run_load_w rfl (eval_of (known_old hk 7 (.head _) rfl)) agg_wide (hw.has (by first | (apply Has.own; (repeat (first | assumption | exact List.mem_cons_self | apply List.mem_cons_of_mem)); done) | (apply Has.read; (repeat (first | assumption | exact List.mem_cons_self | apply List.mem_cons_of_mem)); done)))), ?_⟩
  refine ⟨_, stable_is _, ask_run rfl rfl rfl (fun a w hw hk => run_move rfl (eval_of (known_old hk 1 (.head _) (by simp only [List.getElem?_toArray, List.getElem?_cons_zero, List.getElem?_cons_succ, Option.getD_some]; rfl)))), ?_⟩
  refine ⟨_, stable_is _, ask_gives rfl rfl rfl (fun a w hw hk => run_call2 rfl ⟨_, Try.func118, by kernel_rfl, by kernel_rfl⟩ (eval_of (known_op hk 20 2 1 (.head _) rfl rfl)) (eval_of (known_op hk 21 3 0 (.tail _ (.head _)) rfl rfl)))
    ht1 (fun w hw => by simp), ?_⟩
  refine ⟨_, stable_is _, ask_gives rfl rfl rfl (fun a w hw hk => run_call2 rfl ⟨_, Try.func60, by kernel_rfl, by kernel_rfl⟩ (eval_of (known_op hk 19 1 3 (.head _) rfl rfl)) (eval_of (known_op hk 22 4 0 (.tail _ (.head _)) rfl rfl)))
    hs1 (fun w hw => by simp), ?_⟩
  refine ⟨_, stable_is _, ask_run rfl rfl rfl (fun a w hw hk => run_move rfl (eval_of (known_op hk 23 5 0 (.head _) rfl rfl))), ?_⟩
  refine ⟨_, stable_is _, ask_run rfl rfl rfl (fun a w hw hk => run_extract rfl (eval_of (known_op hk 17 6 0 (.head _) rfl rfl)) rfl), ?_⟩
  refine ⟨_, stable_is _, ask_late rfl (fun a w w' hw hk hd => run_extract rfl (eval_of (known_op hk 17 6 1 (.head _) rfl rfl)) rfl), ?_⟩
  refine ⟨_, stable_mine _ _ _ _ _, ask_alloc rfl rfl 24 rfl _ zero_wide, ?_⟩
  intro w hw
  rintro _ rfl
  rintro _ rfl
  rintro _ rfl
  rintro _ rfl
  rintro _ rfl
  rintro _ rfl
  rintro _ rfl
  rintro _ rfl
  rintro _ rfl
  rintro _ ⟨m9, rfl, hm9⟩ hn9
  clear hw hn9; have hw := hm9; clear hm9
  change wpList _ _ _ _ _ _
  simp only [List.length_cons, List.length_nil, Nat.reduceAdd, Nat.zero_add, List.drop_succ_cons, List.drop_zero, Act.put, List.setIfInBounds_toArray, List.set_cons_succ, List.set_cons_zero]
  go_wp2_with (first | (refine w_store hw rfl 24 _ _ rfl _ rfl _ rfl agg_wide _ (by repeat (first | exact At.head _ | apply At.tail)) ?_; clear hw; intro w hw))
  try simp only [Act.put, List.setIfInBounds_toArray, List.set_cons_succ, List.set_cons_zero]
  refine wp_region_draws [⟨[(8, none)], none, false, false⟩, ⟨[(2, none)], none, false, false⟩, ⟨[(28, some 1)], none, false, false⟩, ⟨[(29, some 2)], none, false, false⟩, ⟨[(1, none)], none, false, false⟩, ⟨[(1, none)], none, false, false⟩, ⟨[(31, some 4), (32, some 5)], none, false, false⟩, ⟨[(30, some 3), (33, some 6)], none, false, false⟩, ⟨[(27, some 0), (34, some 7)], none, false, false⟩, ⟨[(35, some 8)], none, false, false⟩, ⟨[(26, some 9)], none, false, false⟩, ⟨[(26, some 9)], none, true, false⟩] 51 (fun w => Ok Non w0 w [(m9, limbs 8 L1), (k3, limbs 8 O), (k2, two 0 0), (k1, two p left)] []) (by kernel_rfl) rfl (by kernel_rfl) (hw.grow (below_drew' _)) (fun _ _ h hb => h.grow hb) (fun _ _ _ _ h => h) ?_
  clear hw
  refine ⟨_, stable_is _, ask_run rfl rfl rfl (fun a w hw hk => run_load_w rfl (eval_of (known_old hk 8 (.head _) rfl)) agg_wide (hw.has (by first | (apply Has.own; (repeat (first | assumption | exact List.mem_cons_self | apply List.mem_cons_of_mem)); done) | (apply Has.read; (repeat (first | assumption | exact List.mem_cons_self | apply List.mem_cons_of_mem)); done)))), ?_⟩
  refine ⟨_, stable_is _, ask_run rfl rfl rfl (fun a w hw hk => run_move rfl (eval_of (known_old hk 2 (.head _) (by simp only [List.getElem?_toArray, List.getElem?_cons_zero, List.getElem?_cons_succ, Option.getD_some]; rfl)))), ?_⟩
  refine ⟨_, stable_is _, ask_run rfl rfl rfl (fun a w hw hk => run_mul_i rfl rfl (eval_of (known_op hk 28 1 0 (.head _) rfl rfl)) (by omega)), ?_⟩
  refine ⟨_, stable_is _, ask_gives rfl rfl rfl (fun a w hw hk => run_call1 rfl ⟨_, Try.func84, by kernel_rfl, by kernel_rfl⟩ (eval_of (known_op hk 29 2 0 (.head _) rfl rfl)))
    hpw2 (fun w hw => by simp), ?_⟩
  refine ⟨_, stable_is _, ask_run rfl rfl rfl (fun a w hw hk => run_move rfl (eval_of (known_old hk 1 (.head _) (by simp only [List.getElem?_toArray, List.getElem?_cons_zero, List.getElem?_cons_succ, Option.getD_some]; rfl)))), ?_⟩
  refine ⟨_, stable_is _, ask_run rfl rfl rfl (fun a w hw hk => run_move rfl (eval_of (known_old hk 1 (.head _) (by simp only [List.getElem?_toArray, List.getElem?_cons_zero, List.getElem?_cons_succ, Option.getD_some]; rfl)))), ?_⟩
  refine ⟨_, stable_is _, ask_run rfl rfl rfl (fun a w hw hk => run_mul_i rfl (eval_of (known_op hk 31 4 1 (.head _) rfl rfl)) (eval_of (known_op hk 32 5 0 (.tail _ (.head _)) rfl rfl)) (by omega)), ?_⟩
  refine ⟨_, stable_is _, ask_gives rfl rfl rfl (fun a w hw hk => run_call2 rfl ⟨_, Try.func118, by kernel_rfl, by kernel_rfl⟩ (eval_of (known_op hk 30 3 3 (.head _) rfl rfl)) (eval_of (known_op hk 33 6 0 (.tail _ (.head _)) rfl rfl)))
    ht2 (fun w hw => by simp), ?_⟩
  refine ⟨_, stable_is _, ask_gives rfl rfl rfl (fun a w hw hk => run_call2 rfl ⟨_, Try.func60, by kernel_rfl, by kernel_rfl⟩ (eval_of (known_op hk 27 0 7 (.head _) rfl rfl)) (eval_of (known_op hk 34 7 0 (.tail _ (.head _)) rfl rfl)))
    hs2 (fun w hw => by simp), ?_⟩
  refine ⟨_, stable_is _, ask_run rfl rfl rfl (fun a w hw hk => run_move rfl (eval_of (known_op hk 35 8 0 (.head _) rfl rfl))), ?_⟩
  refine ⟨_, stable_is _, ask_run rfl rfl rfl (fun a w hw hk => run_extract rfl (eval_of (known_op hk 26 9 0 (.head _) rfl rfl)) rfl), ?_⟩
  refine ⟨_, stable_is _, ask_late rfl (fun a w w' hw hk hd => run_extract rfl (eval_of (known_op hk 26 9 1 (.head _) rfl rfl)) rfl), ?_⟩
  intro w hw
  rintro _ rfl
  rintro _ rfl
  rintro _ rfl
  rintro _ rfl
  rintro _ rfl
  rintro _ rfl
  rintro _ rfl
  rintro _ rfl
  rintro _ rfl
  rintro _ rfl
  rintro _ rfl
  rintro _ rfl
  change wpList _ _ _ _ _ _
  simp only [List.length_cons, List.length_nil, Nat.reduceAdd, Nat.zero_add, List.drop_succ_cons, List.drop_zero, Act.put, List.setIfInBounds_toArray, List.set_cons_succ, List.set_cons_zero]
  go_wp2_with (first | (refine w_store hw rfl 24 _ _ rfl _ rfl _ rfl agg_wide _ (by repeat (first | exact At.head _ | apply At.tail)) ?_; clear hw; intro w hw))
  try simp only [Act.put, List.setIfInBounds_toArray, List.set_cons_succ, List.set_cons_zero]
  refine wp_region_draws [⟨[(3, none)], none, false, false⟩, ⟨[(39, some 0)], none, false, false⟩, ⟨[(2, none)], none, false, false⟩, ⟨[(41, some 2)], none, false, false⟩, ⟨[(1, none)], none, false, false⟩, ⟨[(42, some 3), (43, some 4)], none, false, false⟩, ⟨[(40, some 1), (44, some 5)], none, false, false⟩, ⟨[(45, some 6)], none, false, false⟩, ⟨[(38, some 7)], none, false, false⟩, ⟨[(38, some 7)], none, true, false⟩, ⟨[], none, false, true⟩] 51 (fun w => Ok Non w0 w [(m9, limbs 8 L2), (k3, limbs 8 O), (k2, two 0 0), (k1, two p left)] []) (by kernel_rfl) rfl (by kernel_rfl) (hw.grow (below_drew' _)) (fun _ _ h hb => h.grow hb) (fun _ _ _ _ h => h) ?_
  clear hw
  refine ⟨_, stable_is _, ask_run rfl rfl rfl (fun a w hw hk => by
      have e3 := known_old hk 3 (.head _) (by simp only [List.getElem?_toArray, List.getElem?_cons_zero, List.getElem?_cons_succ, Option.getD_some]; rfl)
      go_simp
      (first | with_reducible rfl | exact ⟨rfl, rfl⟩)), ?_⟩
  refine ⟨_, stable_is _, ask_run rfl rfl rfl (fun a w hw hk => run_load_fst rfl (eval_of (known_op hk 39 0 0 (.head _) rfl rfl)) agg_wide (hw.has (by first | (apply Has.own; (repeat (first | assumption | exact List.mem_cons_self | apply List.mem_cons_of_mem)); done) | (apply Has.read; (repeat (first | assumption | exact List.mem_cons_self | apply List.mem_cons_of_mem)); done)))), ?_⟩
  refine ⟨_, stable_is _, ask_run rfl rfl rfl (fun a w hw hk => run_move rfl (eval_of (known_old hk 2 (.head _) (by simp only [List.getElem?_toArray, List.getElem?_cons_zero, List.getElem?_cons_succ, Option.getD_some]; rfl)))), ?_⟩
  refine ⟨_, stable_is _, ask_gives rfl rfl rfl (fun a w hw hk => run_call1 rfl ⟨_, Try.func84, by kernel_rfl, by kernel_rfl⟩ (eval_of (known_op hk 41 2 0 (.head _) rfl rfl)))
    hpw1 (fun w hw => by simp), ?_⟩
  refine ⟨_, stable_is _, ask_run rfl rfl rfl (fun a w hw hk => run_move rfl (eval_of (known_old hk 1 (.head _) (by simp only [List.getElem?_toArray, List.getElem?_cons_zero, List.getElem?_cons_succ, Option.getD_some]; rfl)))), ?_⟩
  refine ⟨_, stable_is _, ask_gives rfl rfl rfl (fun a w hw hk => run_call2 rfl ⟨_, Try.func118, by kernel_rfl, by kernel_rfl⟩ (eval_of (known_op hk 42 3 1 (.head _) rfl rfl)) (eval_of (known_op hk 43 4 0 (.tail _ (.head _)) rfl rfl)))
    ht3 (fun w hw => by simp), ?_⟩
  refine ⟨_, stable_is _, ask_gives rfl rfl rfl (fun a w hw hk => run_call2 rfl ⟨_, Try.func119, by kernel_rfl, by kernel_rfl⟩ (eval_of (known_op hk 40 1 4 (.head _) rfl rfl)) (eval_of (known_op hk 44 5 0 (.tail _ (.head _)) rfl rfl)))
    had (fun w hw => by simp), ?_⟩
  refine ⟨_, stable_is _, ask_run rfl rfl rfl (fun a w hw hk => run_move rfl (eval_of (known_op hk 45 6 0 (.head _) rfl rfl))), ?_⟩
  refine ⟨_, stable_is _, ask_run rfl rfl rfl (fun a w hw hk => run_extract rfl (eval_of (known_op hk 38 7 0 (.head _) rfl rfl)) rfl), ?_⟩
  refine ⟨_, stable_is _, ask_late rfl (fun a w w' hw hk hd => run_extract rfl (eval_of (known_op hk 38 7 1 (.head _) rfl rfl)) rfl), ?_⟩
  refine ⟨_, stable_mine _ _ _ _ _, ask_alloc rfl rfl 24 rfl _ zero_wide, ?_⟩
  intro w hw
  rintro _ rfl
  rintro _ rfl
  rintro _ rfl
  rintro _ rfl
  rintro _ rfl
  rintro _ rfl
  rintro _ rfl
  rintro _ rfl
  rintro _ rfl
  rintro _ rfl
  rintro _ ⟨m10, rfl, hm10⟩ hn10
  clear hw hn10; have hw := hm10; clear hm10
  change wpList _ _ _ _ _ _
  simp only [List.length_cons, List.length_nil, Nat.reduceAdd, Nat.zero_add, List.drop_succ_cons, List.drop_zero, Act.put, List.setIfInBounds_toArray, List.set_cons_succ, List.set_cons_zero]
  go_wp2_with (first | (refine w_store hw rfl 24 _ _ rfl _ rfl _ rfl agg_wide _ (by repeat (first | exact At.head _ | apply At.tail)) ?_; clear hw; intro w hw) | (refine w_load hw rfl 24 _ rfl _ rfl agg_wide _ (by first | (apply Has.own; (repeat (first | assumption | exact List.mem_cons_self | apply List.mem_cons_of_mem)); done) | (apply Has.read; (repeat (first | assumption | exact List.mem_cons_self | apply List.mem_cons_of_mem)); done)) ?_) | (refine ok_build2 rfl 65 _ _ rfl two_far _ _ rfl rfl ?_) | (refine ok_store hw rfl 65 _ _ rfl _ rfl _ rfl _ agg_far _ (by repeat (first | exact At.head _ | apply At.tail)) (by simp) (by simp) (ones_two _ _) ?_; clear hw; intro w hw))
  refine ret_c rfl rfl agg_far (hw.rows _ (.tail _ (.tail _ (.tail _ (.head _))))) (by simp) rfl ⟨rfl, hw.below⟩
end Go.Proofs.Ytcodmeljjphoeaa
