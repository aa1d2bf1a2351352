/-
  Numbers with a sign: divided by a power of 2, rounded down.
-/
import Derived.Test.YtcodmeljjphoeaaDoorBigN
namespace Go.Proofs.YtcodmeljjphoeaaDoor
open Go.RowKit
set_option linter.unusedVariables false
set_option linter.unusedSimpArgs false

theorem neg_ediv_pow (b P : Int) (hP : 0 < P) : -b / P = if b / P * P = b then -(b / P) else -(b / P) - 1 := by
  have e := Int.emod_add_mul_ediv b P
  have m0 := Int.emod_nonneg b (show P ≠ 0 by omega)
  have m1 := Int.emod_lt_of_pos b hP
  have e2 := Int.emod_add_mul_ediv (-b) P
  have n0 := Int.emod_nonneg (-b) (show P ≠ 0 by omega)
  have n1 := Int.emod_lt_of_pos (-b) hP
  generalize b / P = q at *
  generalize -b / P = t at *
  have e3 : P * (q + t) = -(b % P) - (-b) % P := by grind
  have e4 : P * (q + t) ≤ 0 := by omega
  have e5 : -(2 * P) < P * (q + t) := by omega
  have h1 : q + t ≤ 0 := by
    rcases Int.lt_or_le 0 (q + t) with h | h
    · have := Int.mul_le_mul_of_nonneg_left (show 1 ≤ q + t by omega) (show 0 ≤ P by omega); omega
    · exact h
  have h2 : -2 < q + t := by
    rcases Int.lt_or_le (-2) (q + t) with h | h
    · exact h
    · have := Int.mul_le_mul_of_nonneg_left h (show 0 ≤ P by omega); omega
  split
  · rename_i h
    have : b % P = 0 := by rw [Int.mul_comm] at h; omega
    have h3 : q + t ≠ -1 := fun h3 => by rw [h3] at e3; omega
    omega
  · rename_i h
    have : b % P ≠ 0 := fun h3 => h (by rw [Int.mul_comm]; omega)
    have h3 : q + t ≠ 0 := fun h3 => by rw [h3] at e3; omega
    omega

set_option maxRecDepth 100000 in
set_option maxHeartbeats 1000000 in
theorem bdown_gives {R : List (Nat × Array Value)} {u : Value} {z k : Int} (s : Nat) (hk : k = (s : Int)) (hz : SgnV R u z) (h1 : -Cap < z) (h2 : z < Cap) (hs : s < 2000) (hq1 : -(4294967295 * 2 ^ s) < z) (hq2 : z < 4294967295 * 2 ^ s) :
    Gives Tryd.prog 40 #[u, .int .i64 k] R (.int .i64 (z / 2 ^ s)) := by
  subst hk
  refine .mk fun w0 w hw => ?_
  have hp := pow_pos2 s
  obtain ⟨p, i, c, rfl, hb⟩ := hz
  by_cases sz : z < 0
  · rw [if_pos sz] at hb
    rw [decide_eq_true sz]
    obtain ⟨b, rfl⟩ : ∃ b, z = -b := ⟨-z, by omega⟩
    rw [show - -b = b by omega] at hb
    have hb0 : 0 < b := by omega
    have hshr := vshr hb (show b < Cap by omega) s rfl (by omega)
    have hqb : b / 2 ^ s < 4294967296 := Int.ediv_lt_of_lt_mul hp (by omega)
    have hqb0 : 0 ≤ b / 2 ^ s := Int.ediv_nonneg (by omega) (by omega)
    have hqc : b / 2 ^ s < Cap := cap_of (k := 32) hqb (by omega)
    have hfin := neg_ediv_pow b (2 ^ s) hp
    have Hq := Lib.hid hqb
    have Hfin := Lib.hid hfin
    clear hfin hq1 hq2 h1 h2 sz
    go_enter Tryd.func40, Tryd.ntmps40
    go_wp2_with (first | (refine ok_box (H := []) hw rfl 38 _ rfl _ rfl ?_; clear hw; intro k1 w hw) | (refine ok_load_cell hw rfl 36 _ rfl _ _ rfl one_big _ (by first | (apply Has.own; (repeat (first | assumption | exact List.mem_cons_self | apply List.mem_cons_of_mem)); done) | (apply Has.read; (repeat (first | assumption | exact List.mem_cons_self | apply List.mem_cons_of_mem)); done)) _ rfl ?_) | (refine ok_load_cell hw rfl 4 _ rfl _ _ rfl one_bool _ (by first | (apply Has.own; (repeat (first | assumption | exact List.mem_cons_self | apply List.mem_cons_of_mem)); done) | (apply Has.read; (repeat (first | assumption | exact List.mem_cons_self | apply List.mem_cons_of_mem)); done)) _ rfl ?_))
    refine hshr.use hw sub_all ?_
    clear hw
    intro w v1 L1 hv1 hf1 hw
    have hshl := vshl (hv1.mono (R' := L1 ++ R) (fun p hp => List.mem_append_left _ hp)) hqc (k := (s : Int)) s rfl (by omega)
    have hcm : ∀ (L : List (Nat × Array Value)) (v : Value), BigV L v (b / 2 ^ s * 2 ^ s) → Gives Tryd.prog 20 #[v, .slice p i c] (L ++ (L1 ++ R)) (.int .i64 (cmp3 (b / 2 ^ s * 2 ^ s) b)) := fun L v h => vcmp (h.mono (fun p hp => List.mem_append_left _ hp)) (hb.mono (by grind))
    have hc3 : (cmp3 (b / 2 ^ s * 2 ^ s) b != 0) = decide (b / 2 ^ s * 2 ^ s ≠ b) := by
      unfold cmp3
      by_cases e : b / 2 ^ s * 2 ^ s = b
      · rw [if_neg (by omega), if_neg (by omega)]; simp [e]
      · rcases Int.lt_or_lt_of_ne e with h | h
        · rw [if_pos h]; simp [e]
        · rw [if_neg (by omega), if_pos h]; simp [e]
    have Hc3 := Lib.hid hc3
    clear hc3
    have hq2 := hqb
    clear hqb hshr
    have hcx : b / 2 ^ s * 2 ^ s = b ∨ b / 2 ^ s * 2 ^ s ≠ b := by omega
    generalize cmp3 (b / 2 ^ s * 2 ^ s) b = cv at *
    generalize b / 2 ^ s * 2 ^ s = bb at *
    generalize b / 2 ^ s = q at *
    rcases bigv_digit hv1 hq2 with ⟨p1, c1, rfl, rfl⟩ | ⟨kq, c1, cq, rfl, hmq, hcq⟩
    · go_wp2_with (first | (refine ok_load_cell hw rfl 36 _ rfl _ _ rfl one_big _ (by first | (apply Has.own; (repeat (first | assumption | exact List.mem_cons_self | apply List.mem_cons_of_mem)); done) | (apply Has.read; (repeat (first | assumption | exact List.mem_cons_self | apply List.mem_cons_of_mem)); done)) _ rfl ?_) | (refine ok_load_cell hw rfl 4 _ rfl _ _ rfl one_bool _ (by first | (apply Has.own; (repeat (first | assumption | exact List.mem_cons_self | apply List.mem_cons_of_mem)); done) | (apply Has.read; (repeat (first | assumption | exact List.mem_cons_self | apply List.mem_cons_of_mem)); done)) _ rfl ?_))
      try simp only [Act.put, List.setIfInBounds_toArray, List.set_cons_succ, List.set_cons_zero]
      refine wp_region_draws [⟨[(5, none)], none, false, false⟩, ⟨[(1, none)], none, false, false⟩, ⟨[(22, some 0), (23, some 1)], none, false, false⟩, ⟨[(2, none)], none, false, false⟩, ⟨[(25, some 3)], none, false, false⟩, ⟨[(24, some 2), (26, some 4)], none, false, false⟩, ⟨[(27, some 5)], none, false, false⟩] 33 (fun w => Ok Non w0 w [(k1, #[.slice p i c, .bool true])] (L1 ++ R)) (by kernel_rfl) rfl (by kernel_rfl) (hw.grow (below_drew' _)) (fun _ _ h hb => h.grow hb) (fun _ _ _ _ h => h) ?_
      clear hw
      refine ⟨_, stable_is _, ask_run rfl rfl rfl (fun a w hw hk => run_move rfl (eval_of (known_old hk 5 (.head _) (by simp only [List.getElem?_toArray, List.getElem?_cons_zero, List.getElem?_cons_succ, Option.getD_some]; rfl)))), ?_⟩
      refine ⟨_, stable_is _, ask_run rfl rfl rfl (fun a w hw hk => run_move rfl (eval_of (known_old hk 1 (.head _) (by simp only [List.getElem?_toArray, List.getElem?_cons_zero, List.getElem?_cons_succ, Option.getD_some]; rfl)))), ?_⟩
      refine ⟨_, stable_mineb _ _ _ _ _, ask_big rfl rfl rfl (fun a w hw hk => by
      exact ⟨_, _, run_call2 rfl ⟨_, Tryd.func19, by kernel_rfl, by kernel_rfl⟩ (eval_of (known_op hk 22 0 1 (.head _) rfl rfl)) (eval_of (known_op hk 23 1 0 (.tail _ (.head _)) rfl rfl)), hshl, (fun p hp => hw.reads p hp)⟩), ?_⟩
      refine ⟨_, stable_is _, ask_run rfl rfl rfl (fun a w hw hk => by
      have e2 := known_old hk 2 (.head _) (by simp only [List.getElem?_toArray, List.getElem?_cons_zero, List.getElem?_cons_succ, Option.getD_some]; rfl)
      go_simp
      (first | with_reducible rfl | exact ⟨rfl, rfl⟩)), ?_⟩
      refine ⟨_, stable_is _, ask_run rfl rfl rfl (fun a w hw hk => run_load_c rfl (eval_of (known_op hk 25 3 0 (.head _) rfl rfl)) one_big (hw.has (by first | (apply Has.own; (repeat (first | assumption | exact List.mem_cons_self | apply List.mem_cons_of_mem)); done) | (apply Has.read; (repeat (first | assumption | exact List.mem_cons_self | apply List.mem_cons_of_mem)); done))) rfl), ?_⟩
      refine ⟨_, stable_is _, ask_callr rfl rfl rfl (fun a w hw hk => by
      obtain ⟨L24, e24, b24⟩ := known_rel hk 24 2 2 (.head _) rfl rfl
      exact ⟨_, run_call2 rfl ⟨_, Tryd.func20, by kernel_rfl, by kernel_rfl⟩ (eval_of rfl) (eval_of (known_op hk 26 4 0 (.tail _ (.head _)) rfl rfl)), (hcm _ _ e24) w (fun p hp => b24.2.reads p hp)⟩), ?_⟩
      refine ⟨_, stable_is _, ask_run rfl rfl rfl (fun a w hw hk => run_neq_i rfl (eval_of (known_op hk 27 5 0 (.head _) rfl rfl)) rfl), ?_⟩
      intro w hw
      rintro _ rfl
      rintro _ rfl
      rintro v2 ⟨L2, hv2, hf2, hm2⟩
      rintro _ rfl
      rintro _ rfl
      rintro _ rfl
      rintro _ rfl
      change wpList _ _ _ _ _ _
      simp only [List.length_cons, List.length_nil, Nat.reduceAdd, Nat.zero_add, List.drop_succ_cons, List.drop_zero, Act.put, List.setIfInBounds_toArray, List.set_cons_succ, List.set_cons_zero]
      rcases hcx with hcx | hcx
      · have hcv : (cv != 0) = false := by rw [Hc3.out]; exact decide_eq_false (by omega)
        have Hf := Lib.hid (Hfin.out.trans (if_pos hcx))
        clear Hfin Hc3 hcm
        rw [hcv]
        go_wp2_with fail
        go_ret
        exact ⟨by rw [Hf.out]; go_num, hw.below⟩
      · have hcv : (cv != 0) = true := by rw [Hc3.out]; exact decide_eq_true hcx
        have Hf := Lib.hid (Hfin.out.trans (if_neg hcx))
        clear Hfin Hc3 hcm
        rw [hcv]
        go_wp2_with fail
        go_ret
        exact ⟨by rw [Hf.out]; go_num, hw.below⟩
    · have hcell := (hw.has (Has.read (List.mem_append_left R hmq))).cell 0
      rw [hcq] at hcell
      go_wp2_with (first | (refine ok_load_cell hw rfl 36 _ rfl _ _ rfl one_big _ (by first | (apply Has.own; (repeat (first | assumption | exact List.mem_cons_self | apply List.mem_cons_of_mem)); done) | (apply Has.read; (repeat (first | assumption | exact List.mem_cons_self | apply List.mem_cons_of_mem)); done)) _ rfl ?_) | (refine ok_load_cell hw rfl 4 _ rfl _ _ rfl one_bool _ (by first | (apply Has.own; (repeat (first | assumption | exact List.mem_cons_self | apply List.mem_cons_of_mem)); done) | (apply Has.read; (repeat (first | assumption | exact List.mem_cons_self | apply List.mem_cons_of_mem)); done)) _ rfl ?_))
      try simp only [Act.put, List.setIfInBounds_toArray, List.set_cons_succ, List.set_cons_zero]
      refine wp_region_draws [⟨[(5, none)], none, false, false⟩, ⟨[(1, none)], none, false, false⟩, ⟨[(22, some 0), (23, some 1)], none, false, false⟩, ⟨[(2, none)], none, false, false⟩, ⟨[(25, some 3)], none, false, false⟩, ⟨[(24, some 2), (26, some 4)], none, false, false⟩, ⟨[(27, some 5)], none, false, false⟩] 33 (fun w => Ok Non w0 w [(k1, #[.slice p i c, .bool true])] (L1 ++ R)) (by kernel_rfl) rfl (by kernel_rfl) (hw.grow (below_drew' _)) (fun _ _ h hb => h.grow hb) (fun _ _ _ _ h => h) ?_
      clear hw
      refine ⟨_, stable_is _, ask_run rfl rfl rfl (fun a w hw hk => run_move rfl (eval_of (known_old hk 5 (.head _) (by simp only [List.getElem?_toArray, List.getElem?_cons_zero, List.getElem?_cons_succ, Option.getD_some]; rfl)))), ?_⟩
      refine ⟨_, stable_is _, ask_run rfl rfl rfl (fun a w hw hk => run_move rfl (eval_of (known_old hk 1 (.head _) (by simp only [List.getElem?_toArray, List.getElem?_cons_zero, List.getElem?_cons_succ, Option.getD_some]; rfl)))), ?_⟩
      refine ⟨_, stable_mineb _ _ _ _ _, ask_big rfl rfl rfl (fun a w hw hk => by
      exact ⟨_, _, run_call2 rfl ⟨_, Tryd.func19, by kernel_rfl, by kernel_rfl⟩ (eval_of (known_op hk 22 0 1 (.head _) rfl rfl)) (eval_of (known_op hk 23 1 0 (.tail _ (.head _)) rfl rfl)), hshl, (fun p hp => hw.reads p hp)⟩), ?_⟩
      refine ⟨_, stable_is _, ask_run rfl rfl rfl (fun a w hw hk => by
      have e2 := known_old hk 2 (.head _) (by simp only [List.getElem?_toArray, List.getElem?_cons_zero, List.getElem?_cons_succ, Option.getD_some]; rfl)
      go_simp
      (first | with_reducible rfl | exact ⟨rfl, rfl⟩)), ?_⟩
      refine ⟨_, stable_is _, ask_run rfl rfl rfl (fun a w hw hk => run_load_c rfl (eval_of (known_op hk 25 3 0 (.head _) rfl rfl)) one_big (hw.has (by first | (apply Has.own; (repeat (first | assumption | exact List.mem_cons_self | apply List.mem_cons_of_mem)); done) | (apply Has.read; (repeat (first | assumption | exact List.mem_cons_self | apply List.mem_cons_of_mem)); done))) rfl), ?_⟩
      refine ⟨_, stable_is _, ask_callr rfl rfl rfl (fun a w hw hk => by
      obtain ⟨L24, e24, b24⟩ := known_rel hk 24 2 2 (.head _) rfl rfl
      exact ⟨_, run_call2 rfl ⟨_, Tryd.func20, by kernel_rfl, by kernel_rfl⟩ (eval_of rfl) (eval_of (known_op hk 26 4 0 (.tail _ (.head _)) rfl rfl)), (hcm _ _ e24) w (fun p hp => b24.2.reads p hp)⟩), ?_⟩
      refine ⟨_, stable_is _, ask_run rfl rfl rfl (fun a w hw hk => run_neq_i rfl (eval_of (known_op hk 27 5 0 (.head _) rfl rfl)) rfl), ?_⟩
      intro w hw
      rintro _ rfl
      rintro _ rfl
      rintro v2 ⟨L2, hv2, hf2, hm2⟩
      rintro _ rfl
      rintro _ rfl
      rintro _ rfl
      rintro _ rfl
      change wpList _ _ _ _ _ _
      simp only [List.length_cons, List.length_nil, Nat.reduceAdd, Nat.zero_add, List.drop_succ_cons, List.drop_zero, Act.put, List.setIfInBounds_toArray, List.set_cons_succ, List.set_cons_zero]
      rcases hcx with hcx | hcx
      · have hcv : (cv != 0) = false := by rw [Hc3.out]; exact decide_eq_false (by omega)
        have Hf := Lib.hid (Hfin.out.trans (if_pos hcx))
        clear Hfin Hc3 hcm
        rw [hcv]
        go_wp2_with fail
        go_ret
        exact ⟨by rw [Hf.out]; go_num, hw.below⟩
      · have hcv : (cv != 0) = true := by rw [Hc3.out]; exact decide_eq_true hcx
        have Hf := Lib.hid (Hfin.out.trans (if_neg hcx))
        clear Hfin Hc3 hcm
        rw [hcv]
        go_wp2_with fail
        go_ret
        exact ⟨by rw [Hf.out]; go_num, hw.below⟩
  · rw [if_neg sz] at hb
    rw [decide_eq_false sz]
    have hshr := vshr hb h2 s rfl (by omega)
    have hqb : z / 2 ^ s < 4294967296 := Int.ediv_lt_of_lt_mul hp (by omega)
    have hqb0 : 0 ≤ z / 2 ^ s := Int.ediv_nonneg (by omega) (by omega)
    clear hq1 hq2 h1 h2 sz
    generalize z / 2 ^ s = q at *
    go_enter Tryd.func40, Tryd.ntmps40
    go_wp2_with (first | (refine ok_box (H := []) hw rfl 38 _ rfl _ rfl ?_; clear hw; intro k1 w hw) | (refine ok_load_cell hw rfl 36 _ rfl _ _ rfl one_big _ (by first | (apply Has.own; (repeat (first | assumption | exact List.mem_cons_self | apply List.mem_cons_of_mem)); done) | (apply Has.read; (repeat (first | assumption | exact List.mem_cons_self | apply List.mem_cons_of_mem)); done)) _ rfl ?_) | (refine ok_load_cell hw rfl 4 _ rfl _ _ rfl one_bool _ (by first | (apply Has.own; (repeat (first | assumption | exact List.mem_cons_self | apply List.mem_cons_of_mem)); done) | (apply Has.read; (repeat (first | assumption | exact List.mem_cons_self | apply List.mem_cons_of_mem)); done)) _ rfl ?_))
    refine hshr.use hw sub_all ?_
    clear hw
    intro w v1 L1 hv1 hf1 hw
    clear hshr
    rcases bigv_digit hv1 hqb with ⟨p1, c1, rfl, rfl⟩ | ⟨kq, c1, cq, rfl, hmq, hcq⟩
    · go_wp2_with (first | (refine ok_load_cell hw rfl 36 _ rfl _ _ rfl one_big _ (by first | (apply Has.own; (repeat (first | assumption | exact List.mem_cons_self | apply List.mem_cons_of_mem)); done) | (apply Has.read; (repeat (first | assumption | exact List.mem_cons_self | apply List.mem_cons_of_mem)); done)) _ rfl ?_) | (refine ok_load_cell hw rfl 4 _ rfl _ _ rfl one_bool _ (by first | (apply Has.own; (repeat (first | assumption | exact List.mem_cons_self | apply List.mem_cons_of_mem)); done) | (apply Has.read; (repeat (first | assumption | exact List.mem_cons_self | apply List.mem_cons_of_mem)); done)) _ rfl ?_))
      go_ret
      exact ⟨rfl, hw.below⟩
    · have hcell := (hw.has (Has.read (List.mem_append_left R hmq))).cell 0
      rw [hcq] at hcell
      go_wp2_with (first | (refine ok_load_cell hw rfl 36 _ rfl _ _ rfl one_big _ (by first | (apply Has.own; (repeat (first | assumption | exact List.mem_cons_self | apply List.mem_cons_of_mem)); done) | (apply Has.read; (repeat (first | assumption | exact List.mem_cons_self | apply List.mem_cons_of_mem)); done)) _ rfl ?_) | (refine ok_load_cell hw rfl 4 _ rfl _ _ rfl one_bool _ (by first | (apply Has.own; (repeat (first | assumption | exact List.mem_cons_self | apply List.mem_cons_of_mem)); done) | (apply Has.read; (repeat (first | assumption | exact List.mem_cons_self | apply List.mem_cons_of_mem)); done)) _ rfl ?_))
      go_ret
      exact ⟨by go_num, hw.below⟩
end Go.Proofs.YtcodmeljjphoeaaDoor
