/-
  Layer 2's inner functions.
-/
import Derived.Test.YtcodmeljjphoeaaDoorTypes
import Derived.Test.YtcodmeljjphoeaaDoorShiftLaw
namespace Go.Proofs.YtcodmeljjphoeaaDoor
open Go.RowKit
set_option linter.unusedVariables false
set_option linter.unusedSimpArgs false

/-- A limb; beyond the end what is told. -/
def atv (z i b : Int) : Int := if i < 0 then 0 else if 8 ≤ i then b else lim z i.toNat

theorem atv_bd {b : Int} (z i : Int) (h : 0 ≤ b ∧ b < 18446744073709551616) : 0 ≤ atv z i b ∧ atv z i b < 18446744073709551616 := by
  unfold atv
  split
  · omega
  · split
    · exact h
    · exact ⟨lim_nonneg _ _, lim_lt _ _⟩

set_option maxHeartbeats 400000 in
theorem at_gives (z i b : Int) : Gives Tryd.prog 76 #[W z, .int .i64 i, .int .u64 b] [] (.int .u64 (atv z i b)) := by
  refine .mk fun w0 w hw => ?_
  by_cases h0 : i < 0
  · rw [show atv z i b = 0 by unfold atv; rw [if_pos h0]]
    go_enter Tryd.func76, Tryd.ntmps76
    go_wp2_with (first
      | (refine w_box hw rfl 24 _ rfl _ rfl ?_; clear hw; intro k w hw))
    go_ret
    exact ⟨rfl, hw.below⟩
  · by_cases h8 : 8 ≤ i
    · rw [show atv z i b = b by unfold atv; rw [if_neg h0, if_pos h8]]
      go_enter Tryd.func76, Tryd.ntmps76
      go_wp2_with (first
        | (refine w_box hw rfl 24 _ rfl _ rfl ?_; clear hw; intro k w hw))
      go_ret
      exact ⟨rfl, hw.below⟩
    · rw [show atv z i b = lim z i.toNat by unfold atv; rw [if_neg h0, if_neg h8]]
      go_enter Tryd.func76, Tryd.ntmps76
      go_wp2_with (first
        | (refine w_box hw rfl 24 _ rfl _ rfl ?_; clear hw; intro k w hw)
        | (refine ok_load_cell hw rfl 22 _ rfl _ _ rfl one_u64 _ (Has.own (.head _)) _ (limbs_get _ (by omega)) ?_))
      go_ret
      exact ⟨rfl, hw.below⟩

theorem atv_neg {z i : Int} (h : i < 0) (b : Int) : atv z i b = 0 := by unfold atv; rw [if_pos h]
theorem atv_in {z : Int} {i : Int} (j : Nat) (h : i = j) (hj : j < 8) (b : Int) : atv z i b = lim z j := by
  subst h; unfold atv; rw [if_neg (by omega), if_neg (by omega)]; rfl
theorem atv_all {z : Int} {i b : Int} (j : Nat) (h : i = j) (hb : ∀ j, 8 ≤ j → lim z j = b) : atv z i b = lim z j := by
  subst h
  by_cases hj : j < 8
  · exact atv_in j rfl hj b
  · unfold atv; rw [if_neg (by omega), if_pos (by omega)]; exact (hb j (by omega)).symm

theorem or64_zero (x : Int) (h : 0 ≤ x) : or64 x 0 = x := by
  unfold or64; obtain ⟨a, rfl⟩ := Int.eq_ofNat_of_zero_le h; simp
theorem shl64_zero (n : Int) : shl64 0 n = 0 := by simp [shl64]
theorem shr64_zero (n : Int) : shr64 0 n = 0 := by simp [shr64]

theorem up_limb (z : Int) (i q r : Nat) (hi : i < 8) (hr : r < 64) : or64 (shl64 (atv z ((i : Int) - q) 0) r) (shr64 (atv z ((i : Int) - q - 1) 0) (64 - r)) = lim (z * 2 ^ (64 * q + r)) i := by
  rcases Nat.lt_trichotomy i q with h | h | h
  · rw [atv_neg (by omega), atv_neg (by omega), shl64_zero, shr64_zero, or64_zero _ (by omega), lim_up0 z i q r h]
  · subst h
    rw [atv_in 0 (by omega) (by omega), atv_neg (by omega), shr64_zero, or64_zero _ (shl64_bd _ _).1, lim_up1 z i r hr]
  · obtain ⟨j, rfl⟩ : ∃ j, i = q + j + 1 := ⟨i - q - 1, by omega⟩
    rw [atv_in (j + 1) (by omega) (by omega), atv_in j (by omega) (by omega), lim_up2 z j q r hr]

theorem down_limb (z b : Int) (i k r : Nat) (hr : r < 64) (hb : ∀ j, 8 ≤ j → lim z j = b) : or64 (shr64 (atv z ((i : Int) + k) b) r) (shl64 (atv z ((i : Int) + k + 1) b) (64 - r)) = lim (z / 2 ^ (64 * k + r)) i := by
  rw [atv_all (i + k) (by omega) hb, atv_all (i + k + 1) (by omega) hb, lim_down z i k r hr]

set_option maxRecDepth 100000 in
set_option maxHeartbeats 400000 in
theorem shl1_gives (z : Int) (i q r : Nat) (k1 k2 k3 : Nat) (hi : i < 8) (hq : q ≤ 8) (hr : r < 64) :
    Gives Tryd.prog 75 #[.int .i64 i, .pointer (some ⟨k1, 0, none⟩), .pointer (some ⟨k2, 0, none⟩), .pointer (some ⟨k3, 0, none⟩)] [(k1, limbs 8 z), (k2, #[.int .i64 q]), (k3, #[.int .i64 r])] (.int .u64 (lim (z * 2 ^ (64 * q + r)) i)) := by
  refine .mk fun w0 w hw => ?_
  go_enter Tryd.func75, Tryd.ntmps75
  go_wp2_with fail
  try simp only [Act.put, List.setIfInBounds_toArray, List.set_cons_succ, List.set_cons_zero]
  refine wp_region_draws [⟨[(1, none)], none, false, false⟩, ⟨[(0, none)], none, false, false⟩, ⟨[(2, none)], none, false, false⟩, ⟨[(7, some 1), (8, some 2)], none, false, false⟩, ⟨[(6, some 0), (9, some 3)], none, false, false⟩, ⟨[(3, none)], none, false, false⟩, ⟨[(10, some 4), (11, some 5)], none, false, false⟩, ⟨[(1, none)], none, false, false⟩, ⟨[(0, none)], none, false, false⟩, ⟨[(2, none)], none, false, false⟩, ⟨[(14, some 8), (15, some 9)], none, false, false⟩, ⟨[(16, some 10)], none, false, false⟩, ⟨[(13, some 7), (17, some 11)], none, false, false⟩, ⟨[(3, none)], none, false, false⟩, ⟨[(19, some 13)], none, false, false⟩, ⟨[(18, some 12), (20, some 14)], none, false, false⟩, ⟨[(12, some 6), (21, some 15)], none, false, false⟩, ⟨[(22, some 16)], none, false, false⟩] 23 (fun w => Ok Non w0 w [] [(k1, limbs 8 z), (k2, #[.int .i64 q]), (k3, #[.int .i64 r])]) (by kernel_rfl) rfl (by kernel_rfl) (hw.grow (below_drew' _)) (fun _ _ h hb => h.grow hb) (fun _ _ _ _ h => h) ?_
  clear hw
  refine ⟨_, stable_is _, ask_run rfl rfl rfl (fun a w hw hk => run_load_w rfl (eval_of (known_old hk 1 (.head _) rfl)) agg_wide (hw.has (by first | (apply Has.own; (repeat (first | assumption | exact List.mem_cons_self | apply List.mem_cons_of_mem)); done) | (apply Has.read; (repeat (first | assumption | exact List.mem_cons_self | apply List.mem_cons_of_mem)); done)))), ?_⟩
  refine ⟨_, stable_is _, ask_run rfl rfl rfl (fun a w hw hk => run_move rfl (eval_of (known_old hk 0 (.head _) (by simp only [List.getElem?_toArray, List.getElem?_cons_zero, List.getElem?_cons_succ, Option.getD_some]; rfl)))), ?_⟩
  refine ⟨_, stable_is _, ask_run rfl rfl rfl (fun a w hw hk => run_load_one rfl (eval_of (known_old hk 2 (.head _) rfl)) one_int (hw.has (by first | (apply Has.own; (repeat (first | assumption | exact List.mem_cons_self | apply List.mem_cons_of_mem)); done) | (apply Has.read; (repeat (first | assumption | exact List.mem_cons_self | apply List.mem_cons_of_mem)); done)))), ?_⟩
  refine ⟨_, stable_is _, ask_run rfl rfl rfl (fun a w hw hk => run_sub_i rfl (eval_of (known_op hk 7 1 1 (.head _) rfl rfl)) (eval_of (known_op hk 8 2 0 (.tail _ (.head _)) rfl rfl)) (by omega)), ?_⟩
  refine ⟨_, stable_is _, ask_gives rfl rfl rfl (fun a w hw hk => run_call3 rfl ⟨_, Tryd.func76, by kernel_rfl, by kernel_rfl⟩ (eval_of (known_op hk 6 0 3 (.head _) rfl rfl)) (eval_of (known_op hk 9 3 0 (.tail _ (.head _)) rfl rfl)) rfl)
    (at_gives _ _ _) (fun w hw => by simp), ?_⟩
  refine ⟨_, stable_is _, ask_run rfl rfl rfl (fun a w hw hk => run_load_one rfl (eval_of (known_old hk 3 (.head _) rfl)) one_int (hw.has (by first | (apply Has.own; (repeat (first | assumption | exact List.mem_cons_self | apply List.mem_cons_of_mem)); done) | (apply Has.read; (repeat (first | assumption | exact List.mem_cons_self | apply List.mem_cons_of_mem)); done)))), ?_⟩
  refine ⟨_, stable_is _, ask_run rfl rfl rfl (fun a w hw hk => run_shl_u rfl (eval_of (known_op hk 10 4 1 (.head _) rfl rfl)) (eval_of (known_op hk 11 5 0 (.tail _ (.head _)) rfl rfl)) (by omega)), ?_⟩
  refine ⟨_, stable_is _, ask_run rfl rfl rfl (fun a w hw hk => run_load_w rfl (eval_of (known_old hk 1 (.head _) rfl)) agg_wide (hw.has (by first | (apply Has.own; (repeat (first | assumption | exact List.mem_cons_self | apply List.mem_cons_of_mem)); done) | (apply Has.read; (repeat (first | assumption | exact List.mem_cons_self | apply List.mem_cons_of_mem)); done)))), ?_⟩
  refine ⟨_, stable_is _, ask_run rfl rfl rfl (fun a w hw hk => run_move rfl (eval_of (known_old hk 0 (.head _) (by simp only [List.getElem?_toArray, List.getElem?_cons_zero, List.getElem?_cons_succ, Option.getD_some]; rfl)))), ?_⟩
  refine ⟨_, stable_is _, ask_run rfl rfl rfl (fun a w hw hk => run_load_one rfl (eval_of (known_old hk 2 (.head _) rfl)) one_int (hw.has (by first | (apply Has.own; (repeat (first | assumption | exact List.mem_cons_self | apply List.mem_cons_of_mem)); done) | (apply Has.read; (repeat (first | assumption | exact List.mem_cons_self | apply List.mem_cons_of_mem)); done)))), ?_⟩
  refine ⟨_, stable_is _, ask_run rfl rfl rfl (fun a w hw hk => run_sub_i rfl (eval_of (known_op hk 14 8 1 (.head _) rfl rfl)) (eval_of (known_op hk 15 9 0 (.tail _ (.head _)) rfl rfl)) (by omega)), ?_⟩
  refine ⟨_, stable_is _, ask_run rfl rfl rfl (fun a w hw hk => run_sub_i rfl (eval_of (known_op hk 16 10 0 (.head _) rfl rfl)) rfl (by omega)), ?_⟩
  refine ⟨_, stable_is _, ask_gives rfl rfl rfl (fun a w hw hk => run_call3 rfl ⟨_, Tryd.func76, by kernel_rfl, by kernel_rfl⟩ (eval_of (known_op hk 13 7 4 (.head _) rfl rfl)) (eval_of (known_op hk 17 11 0 (.tail _ (.head _)) rfl rfl)) rfl)
    (at_gives _ _ _) (fun w hw => by simp), ?_⟩
  refine ⟨_, stable_is _, ask_run rfl rfl rfl (fun a w hw hk => run_load_one rfl (eval_of (known_old hk 3 (.head _) rfl)) one_int (hw.has (by first | (apply Has.own; (repeat (first | assumption | exact List.mem_cons_self | apply List.mem_cons_of_mem)); done) | (apply Has.read; (repeat (first | assumption | exact List.mem_cons_self | apply List.mem_cons_of_mem)); done)))), ?_⟩
  refine ⟨_, stable_is _, ask_run rfl rfl rfl (fun a w hw hk => run_sub_i rfl rfl (eval_of (known_op hk 19 13 0 (.head _) rfl rfl)) (by omega)), ?_⟩
  refine ⟨_, stable_is _, ask_run rfl rfl rfl (fun a w hw hk => run_shr_u rfl (eval_of (known_op hk 18 12 2 (.head _) rfl rfl)) (eval_of (known_op hk 20 14 0 (.tail _ (.head _)) rfl rfl)) (by omega)), ?_⟩
  refine ⟨_, stable_is _, ask_run rfl rfl rfl (fun a w hw hk => run_or_u rfl (eval_of (known_op hk 12 6 9 (.head _) rfl rfl)) (eval_of (known_op hk 21 15 0 (.tail _ (.head _)) rfl rfl)) (shl64_bd _ _) (shr64_bd _ (atv_bd _ _ (by omega)))), ?_⟩
  refine ⟨_, stable_is _, ask_run rfl rfl rfl (fun a w hw hk => run_assign rfl (eval_of (known_op hk 22 16 0 (.head _) rfl rfl))), ?_⟩
  intro w hw
  rintro _ rfl
  rintro _ rfl
  rintro _ rfl
  rintro _ rfl
  rintro _ rfl
  rintro _ rfl
  rintro _ rfl
  rintro _ rfl
  rintro _ rfl
  rintro _ rfl
  rintro _ rfl
  rintro _ rfl
  rintro _ rfl
  rintro _ rfl
  rintro _ rfl
  rintro _ rfl
  rintro _ rfl
  rintro _ rfl
  change wpList _ _ _ _ _ _
  simp only [List.length_cons, List.length_nil, Nat.reduceAdd, Nat.zero_add, List.drop_succ_cons, List.drop_zero, Act.put, List.setIfInBounds_toArray, List.set_cons_succ, List.set_cons_zero]
  go_wp2
  go_ret
  exact ⟨by rw [← up_limb z i q r hi hr]; rfl, hw.below⟩

set_option maxRecDepth 100000 in
set_option maxHeartbeats 400000 in
theorem down1_gives (z b : Int) (i q r : Nat) (k1 k2 k3 k4 : Nat) (hi : i < 8) (hq : q ≤ 8) (hr : r < 64) (hb0 : 0 ≤ b) (hb1 : b < 18446744073709551616) (hb : ∀ j, 8 ≤ j → lim z j = b) :
    Gives Tryd.prog 86 #[.int .i64 i, .pointer (some ⟨k1, 0, none⟩), .pointer (some ⟨k2, 0, none⟩), .pointer (some ⟨k3, 0, none⟩), .pointer (some ⟨k4, 0, none⟩)] [(k1, limbs 8 z), (k2, #[.int .i64 q]), (k3, #[.int .u64 b]), (k4, #[.int .i64 r])] (.int .u64 (lim (z / 2 ^ (64 * q + r)) i)) := by
  refine .mk fun w0 w hw => ?_
  have Hb := Lib.hid hb
  clear hb
  go_enter Tryd.func86, Tryd.ntmps86
  go_wp2_with fail
  try simp only [Act.put, List.setIfInBounds_toArray, List.set_cons_succ, List.set_cons_zero]
  refine wp_region_draws [⟨[(1, none)], none, false, false⟩, ⟨[(0, none)], none, false, false⟩, ⟨[(2, none)], none, false, false⟩, ⟨[(8, some 1), (9, some 2)], none, false, false⟩, ⟨[(3, none)], none, false, false⟩, ⟨[(7, some 0), (10, some 3), (11, some 4)], none, false, false⟩, ⟨[(4, none)], none, false, false⟩, ⟨[(12, some 5), (13, some 6)], none, false, false⟩, ⟨[(1, none)], none, false, false⟩, ⟨[(0, none)], none, false, false⟩, ⟨[(2, none)], none, false, false⟩, ⟨[(16, some 9), (17, some 10)], none, false, false⟩, ⟨[(18, some 11)], none, false, false⟩, ⟨[(3, none)], none, false, false⟩, ⟨[(15, some 8), (19, some 12), (20, some 13)], none, false, false⟩, ⟨[(4, none)], none, false, false⟩, ⟨[(22, some 15)], none, false, false⟩, ⟨[(21, some 14), (23, some 16)], none, false, false⟩, ⟨[(14, some 7), (24, some 17)], none, false, false⟩, ⟨[(25, some 18)], none, false, false⟩] 26 (fun w => Ok Non w0 w [] [(k1, limbs 8 z), (k2, #[.int .i64 q]), (k3, #[.int .u64 b]), (k4, #[.int .i64 r])]) (by kernel_rfl) rfl (by kernel_rfl) (hw.grow (below_drew' _)) (fun _ _ h hb => h.grow hb) (fun _ _ _ _ h => h) ?_
  clear hw
  refine ⟨_, stable_is _, ask_run rfl rfl rfl (fun a w hw hk => run_load_w rfl (eval_of (known_old hk 1 (.head _) rfl)) agg_wide (hw.has (by first | (apply Has.own; (repeat (first | assumption | exact List.mem_cons_self | apply List.mem_cons_of_mem)); done) | (apply Has.read; (repeat (first | assumption | exact List.mem_cons_self | apply List.mem_cons_of_mem)); done)))), ?_⟩
  refine ⟨_, stable_is _, ask_run rfl rfl rfl (fun a w hw hk => run_move rfl (eval_of (known_old hk 0 (.head _) (by simp only [List.getElem?_toArray, List.getElem?_cons_zero, List.getElem?_cons_succ, Option.getD_some]; rfl)))), ?_⟩
  refine ⟨_, stable_is _, ask_run rfl rfl rfl (fun a w hw hk => run_load_one rfl (eval_of (known_old hk 2 (.head _) rfl)) one_int (hw.has (by first | (apply Has.own; (repeat (first | assumption | exact List.mem_cons_self | apply List.mem_cons_of_mem)); done) | (apply Has.read; (repeat (first | assumption | exact List.mem_cons_self | apply List.mem_cons_of_mem)); done)))), ?_⟩
  refine ⟨_, stable_is _, ask_run rfl rfl rfl (fun a w hw hk => run_add_i rfl (eval_of (known_op hk 8 1 1 (.head _) rfl rfl)) (eval_of (known_op hk 9 2 0 (.tail _ (.head _)) rfl rfl)) (by omega)), ?_⟩
  refine ⟨_, stable_is _, ask_run rfl rfl rfl (fun a w hw hk => run_load_one rfl (eval_of (known_old hk 3 (.head _) rfl)) one_u64 (hw.has (by first | (apply Has.own; (repeat (first | assumption | exact List.mem_cons_self | apply List.mem_cons_of_mem)); done) | (apply Has.read; (repeat (first | assumption | exact List.mem_cons_self | apply List.mem_cons_of_mem)); done)))), ?_⟩
  refine ⟨_, stable_is _, ask_gives rfl rfl rfl (fun a w hw hk => run_call3 rfl ⟨_, Tryd.func76, by kernel_rfl, by kernel_rfl⟩ (eval_of (known_op hk 7 0 4 (.head _) rfl rfl)) (eval_of (known_op hk 10 3 1 (.tail _ (.head _)) rfl rfl)) (eval_of (known_op hk 11 4 0 (.tail _ (.tail _ (.head _))) rfl rfl)))
    (at_gives _ _ _) (fun w hw => by simp), ?_⟩
  refine ⟨_, stable_is _, ask_run rfl rfl rfl (fun a w hw hk => run_load_one rfl (eval_of (known_old hk 4 (.head _) rfl)) one_int (hw.has (by first | (apply Has.own; (repeat (first | assumption | exact List.mem_cons_self | apply List.mem_cons_of_mem)); done) | (apply Has.read; (repeat (first | assumption | exact List.mem_cons_self | apply List.mem_cons_of_mem)); done)))), ?_⟩
  refine ⟨_, stable_is _, ask_run rfl rfl rfl (fun a w hw hk => run_shr_u rfl (eval_of (known_op hk 12 5 1 (.head _) rfl rfl)) (eval_of (known_op hk 13 6 0 (.tail _ (.head _)) rfl rfl)) (by omega)), ?_⟩
  refine ⟨_, stable_is _, ask_run rfl rfl rfl (fun a w hw hk => run_load_w rfl (eval_of (known_old hk 1 (.head _) rfl)) agg_wide (hw.has (by first | (apply Has.own; (repeat (first | assumption | exact List.mem_cons_self | apply List.mem_cons_of_mem)); done) | (apply Has.read; (repeat (first | assumption | exact List.mem_cons_self | apply List.mem_cons_of_mem)); done)))), ?_⟩
  refine ⟨_, stable_is _, ask_run rfl rfl rfl (fun a w hw hk => run_move rfl (eval_of (known_old hk 0 (.head _) (by simp only [List.getElem?_toArray, List.getElem?_cons_zero, List.getElem?_cons_succ, Option.getD_some]; rfl)))), ?_⟩
  refine ⟨_, stable_is _, ask_run rfl rfl rfl (fun a w hw hk => run_load_one rfl (eval_of (known_old hk 2 (.head _) rfl)) one_int (hw.has (by first | (apply Has.own; (repeat (first | assumption | exact List.mem_cons_self | apply List.mem_cons_of_mem)); done) | (apply Has.read; (repeat (first | assumption | exact List.mem_cons_self | apply List.mem_cons_of_mem)); done)))), ?_⟩
  refine ⟨_, stable_is _, ask_run rfl rfl rfl (fun a w hw hk => run_add_i rfl (eval_of (known_op hk 16 9 1 (.head _) rfl rfl)) (eval_of (known_op hk 17 10 0 (.tail _ (.head _)) rfl rfl)) (by omega)), ?_⟩
  refine ⟨_, stable_is _, ask_run rfl rfl rfl (fun a w hw hk => run_add_i rfl (eval_of (known_op hk 18 11 0 (.head _) rfl rfl)) rfl (by omega)), ?_⟩
  refine ⟨_, stable_is _, ask_run rfl rfl rfl (fun a w hw hk => run_load_one rfl (eval_of (known_old hk 3 (.head _) rfl)) one_u64 (hw.has (by first | (apply Has.own; (repeat (first | assumption | exact List.mem_cons_self | apply List.mem_cons_of_mem)); done) | (apply Has.read; (repeat (first | assumption | exact List.mem_cons_self | apply List.mem_cons_of_mem)); done)))), ?_⟩
  refine ⟨_, stable_is _, ask_gives rfl rfl rfl (fun a w hw hk => run_call3 rfl ⟨_, Tryd.func76, by kernel_rfl, by kernel_rfl⟩ (eval_of (known_op hk 15 8 5 (.head _) rfl rfl)) (eval_of (known_op hk 19 12 1 (.tail _ (.head _)) rfl rfl)) (eval_of (known_op hk 20 13 0 (.tail _ (.tail _ (.head _))) rfl rfl)))
    (at_gives _ _ _) (fun w hw => by simp), ?_⟩
  refine ⟨_, stable_is _, ask_run rfl rfl rfl (fun a w hw hk => run_load_one rfl (eval_of (known_old hk 4 (.head _) rfl)) one_int (hw.has (by first | (apply Has.own; (repeat (first | assumption | exact List.mem_cons_self | apply List.mem_cons_of_mem)); done) | (apply Has.read; (repeat (first | assumption | exact List.mem_cons_self | apply List.mem_cons_of_mem)); done)))), ?_⟩
  refine ⟨_, stable_is _, ask_run rfl rfl rfl (fun a w hw hk => run_sub_i rfl rfl (eval_of (known_op hk 22 15 0 (.head _) rfl rfl)) (by omega)), ?_⟩
  refine ⟨_, stable_is _, ask_run rfl rfl rfl (fun a w hw hk => run_shl_u rfl (eval_of (known_op hk 21 14 2 (.head _) rfl rfl)) (eval_of (known_op hk 23 16 0 (.tail _ (.head _)) rfl rfl)) (by omega)), ?_⟩
  refine ⟨_, stable_is _, ask_run rfl rfl rfl (fun a w hw hk => run_or_u rfl (eval_of (known_op hk 14 7 10 (.head _) rfl rfl)) (eval_of (known_op hk 24 17 0 (.tail _ (.head _)) rfl rfl)) (shr64_bd _ (atv_bd _ _ (by omega))) (shl64_bd _ _)), ?_⟩
  refine ⟨_, stable_is _, ask_run rfl rfl rfl (fun a w hw hk => run_assign rfl (eval_of (known_op hk 25 18 0 (.head _) rfl rfl))), ?_⟩
  intro w hw
  rintro _ rfl
  rintro _ rfl
  rintro _ rfl
  rintro _ rfl
  rintro _ rfl
  rintro _ rfl
  rintro _ rfl
  rintro _ rfl
  rintro _ rfl
  rintro _ rfl
  rintro _ rfl
  rintro _ rfl
  rintro _ rfl
  rintro _ rfl
  rintro _ rfl
  rintro _ rfl
  rintro _ rfl
  rintro _ rfl
  rintro _ rfl
  rintro _ rfl
  change wpList _ _ _ _ _ _
  simp only [List.length_cons, List.length_nil, Nat.reduceAdd, Nat.zero_add, List.drop_succ_cons, List.drop_zero, Act.put, List.setIfInBounds_toArray, List.set_cons_succ, List.set_cons_zero]
  go_wp2
  go_ret
  exact ⟨by rw [← down_limb z b i q r hr Hb.out]; rfl, hw.below⟩

set_option maxHeartbeats 400000 in
/-- 'made', of a function that tells the limbs of z. -/
theorem made_gives (z : Int) (f : FuncId) (caps : Array Value) (R : List (Nat × Array Value)) (hf : HasBody Tryd.prog f) (hc : ∀ i : Nat, i < 8 → Gives Tryd.prog f (#[.int .i64 i] ++ caps) R (.int .u64 (lim z i))) :
    Gives Tryd.prog 74 #[.func (.func f) #[] caps] R (W z) := by
  refine .mk fun w0 w hw => ?_
  have Hc := Lib.hid hc
  clear hc
  have hcall := fun args w => run_enter hf args w
  go_enter Tryd.func74, Tryd.ntmps74
  go_wp2_with (first | (refine ok_alloc (H := []) hw rfl 24 rfl _ zero_wide ?_; clear hw; intro k1 w hw) | (refine ok_alloc (H := [_]) hw rfl 24 rfl _ zero_wide ?_; clear hw; intro k2 w hw))
  go_loopw [5] (fun v wr => ∃ i : Nat, i ≤ 8 ∧ v = .int .i64 i ∧ Ok Non w0 wr [(k2, limbs 8 (z % 2 ^ (64 * i))), (k1, limbs 8 0)] R) (fun v _ => 8 - (intOf v).toNat)
  case atStart => exact ⟨0, by omega, rfl, by rw [show z % 2 ^ (64 * 0) = 0 by simp [Int.emod_one]]; exact hw⟩
  case round =>
    clear hw
    obtain ⟨i, hi, rfl, hw⟩ := hrel
    by_cases hlt : i < 8
    · have Hci := Hc.out i hlt
      go_wp2_with (first | (refine Hci.call hw (fun p hp => Has.read hp) ?_; clear hw; intro w hw) | (refine int_store hw rfl 22 _ _ rfl _ _ rfl _ _ rfl one_u64 _ (.head _) (by simp; omega) ?_; clear hw; intro w hw))
      rw [limbs_set _ _ hlt (Int.emod_nonneg _ (by have := pow_pos2 (64 * i); omega)) (Int.emod_lt_of_pos _ (pow_pos2 _)) (lim_nonneg _ _) (lim_lt _ _), ← emod_succ] at hw
      go_roundw
      case rel => exact ⟨i + 1, by omega, by go_num, hw⟩
      case measure => simp [intOf]; omega
    · have hi8 : i = 8 := by omega
      subst hi8
      rw [limbs_emod] at hw
      go_wp2_with (first | (refine w_load hw rfl 24 _ rfl _ rfl agg_wide _ (by first | (apply Has.own; (repeat (first | assumption | exact List.mem_cons_self | apply List.mem_cons_of_mem)); done) | (apply Has.read; (repeat (first | assumption | exact List.mem_cons_self | apply List.mem_cons_of_mem)); done)) ?_) | (refine w_store hw rfl 24 _ _ rfl _ rfl _ rfl agg_wide _ (by repeat (first | exact At.head _ | apply At.tail)) ?_; clear hw; intro w hw))
      refine ret_c rfl rfl agg_wide (hw.rows _ (.tail _ (.head _))) (by simp) rfl ⟨rfl, hw.below⟩
end Go.Proofs.YtcodmeljjphoeaaDoor
