/-
  Layer 2's 'Of'; layer 3: products.
-/
import Derived.Test.YtcodmeljjphoeaaDoorWideF
import Derived.Laws.CopyOwn
namespace Go.Proofs.YtcodmeljjphoeaaDoor
open Go.RowKit
set_option linter.unusedVariables false
set_option linter.unusedSimpArgs false

theorem lim_mod_ge (z : Int) (n i : Nat) (h : n ≤ i) : lim (z % 2 ^ (64 * n)) i = 0 := by
  have hp := pow_pos2 (64 * n)
  unfold lim
  rw [Int.ediv_eq_zero_of_lt (Int.emod_nonneg _ (by omega)) (Int.lt_of_lt_of_le (Int.emod_lt_of_pos _ hp) (pow_mono2 (by omega)))]
  rfl

section
variable {P : Program} {ops : Array Oper} {Q : Exit → Act → World → Prop} {rest : List Oper} {o : Oper} {a : Act} {S : Nat → Prop} {w0 w : World} {H R : List (Nat × Array Value)}
/-- 'copy' of limbs over a number's noughts. -/
theorem ok_copy8 (h : Ok S w0 w H R) (hgd : o.guard = none) (d s : Operand) (dT sT : TypeId) (ho : o.op = .call { callee := .builtin .copy, args := #[d, s], argTypes := #[dT, sT] }) (elem : TypeId) (hu : P.underlying dT = some (.slice elem)) (hg : One P elem)
    (kd k off n c : Nat) (hd : a.eval d = .slice (some ⟨kd, 0, none⟩) 8 8) (hs : a.eval s = .slice (some ⟨k, off, none⟩) n c) (z : Int) (cs : Array Value) (hp : Part cs off n z) (hm : Has H R k cs) {H' : List (Nat × Array Value)} (ha : At kd (limbs 8 0) (limbs 8 (z % 2 ^ (64 * n))) H H')
    (hk : ∀ w' v, Ok S w0 w' H' R → wpList P ops Q rest (a.put o.dst v) w') : wpList P ops Q (o :: rest) a w := by
  obtain ⟨t, hb⟩ := h.rows _ ha.mem
  have hs2 := (h.has hm)
  obtain ⟨l, hl⟩ : ∃ l, l = (List.range (min n 8)).map (fun i => Value.int .u64 (lim z i)) := ⟨_, rfl⟩
  have hlen : l.length = min n 8 := by rw [hl]; simp
  refine wpList_copy_own hgd d s dT sT ho elem hu hg.2 kd 0 8 8 ⟨k, off, none⟩ n c hd hs (limbs 8 0) t hb l hlen ?_ (by rw [hlen]; simp <;> omega) (by rw [hl]; intro v hv; obtain ⟨i, _, rfl⟩ := List.mem_map.1 hv; rfl) ?_
  · intro j v hv
    have hj : j < min n 8 := by rw [← hlen]; exact (List.getElem?_eq_some_iff.1 hv).1
    have hadd : (⟨k, off, none⟩ : Addr).add j = ⟨k, off + j, none⟩ := by unfold Addr.add; split <;> simp_all
    rw [hadd, hs2.cell, hp j (by omega), ← hv, hl]
    simp [hj]
  · have e : ((limbs 8 0).toList.take 0 ++ (l ++ (limbs 8 0).toList.drop (0 + l.length))).toArray = limbs 8 (z % 2 ^ (64 * n)) := by
      apply Array.ext_getElem?
      intro i
      rw [hlen]
      simp only [List.take_zero, List.nil_append, Nat.zero_add, List.getElem?_toArray]
      by_cases hi : i < min n 8
      · rw [List.getElem?_append_left (by rw [hlen]; exact hi), hl, limbs_get _ (by omega), lim_emod _ _ _ (by omega)]
        simp [hi]
      · rw [List.getElem?_append_right (by rw [hlen]; omega), hlen, List.getElem?_drop, Array.getElem?_toList]
        rw [show min n 8 + (i - min n 8) = i by omega]
        by_cases h8 : i < 8
        · rw [limbs_get _ h8, limbs_get _ h8, lim_mod_ge _ _ _ (by omega)]
          congr 2
          unfold lim; simp
        · rw [Array.getElem?_eq_none (by simp; omega), Array.getElem?_eq_none (by simp; omega)]
    rw [e]
    exact hk _ _ (h.turnAt ha (turns_setRow ⟨t, hb⟩ _))
end

set_option maxRecDepth 10000 in
theorem ofP (z : Int) (cs : Array Value) (o n c k : Nat) (hp : Part cs o n z) : Gives Tryd.prog 54 #[.slice (some ⟨k, o, none⟩) n c] [(k, cs)] (W (z % 2 ^ (64 * n))) := by
  refine .mk fun w0 w hw => ?_
  go_enter Tryd.func54, Tryd.ntmps54
  go_wp2_with (first | (refine ok_alloc (H := []) hw rfl 24 rfl _ zero_wide ?_; clear hw; intro k1 w hw) | (refine ok_alloc (H := [_]) hw rfl 24 rfl _ zero_wide ?_; clear hw; intro k2 w hw) | (refine w_load hw rfl 24 _ rfl _ rfl agg_wide _ (by first | (apply Has.own; (repeat (first | assumption | exact List.mem_cons_self | apply List.mem_cons_of_mem)); done) | (apply Has.read; (repeat (first | assumption | exact List.mem_cons_self | apply List.mem_cons_of_mem)); done)) ?_) | (refine w_store hw rfl 24 _ _ rfl _ rfl _ rfl agg_wide _ (by repeat (first | exact At.head _ | apply At.tail)) ?_; clear hw; intro w hw) | (refine ok_copy8 hw rfl _ _ _ _ rfl _ Tryd.underlying87 one_u64 _ _ _ _ _ rfl rfl _ _ hp (Has.read (.head _)) (.head _) ?_; clear hw; intro w v hw))
  refine ret_c rfl rfl agg_wide (hw.rows _ (.tail _ (.head _))) (by simp) rfl ⟨rfl, hw.below⟩

theorem agg_prod : Agg Tryd.prog 122 17 := .mk _ Tryd.underlying122 rfl (by kernel_rfl)
theorem zero_prod : Zero Tryd.prog 122 (limbs 17 0) := ⟨.agg (limbs 17 0), by kernel_rfl, rfl⟩

/-- A limb is laid over another one. -/
theorem limbs_put {n i : Nat} (z v : Int) (h : i < n) (hv0 : 0 ≤ v) (hv : v < 18446744073709551616) : (limbs n z).setIfInBounds i (.int .u64 v) = limbs n (z + (v - lim z i) * 2 ^ (64 * i)) := by
  have hp := pow_pos2 (64 * i)
  apply Array.ext_getElem?
  intro j
  rw [Array.getElem?_setIfInBounds]
  by_cases hj : j < n
  · rw [limbs_get _ hj, limbs_get _ hj]
    by_cases hij : i = j
    · subst hij
      rw [if_pos rfl, if_pos (by simpa using h)]
      congr 2
      unfold lim
      rw [Int.add_mul_ediv_right _ _ (by omega)]
      omega
    · rw [if_neg hij]
      congr 2
      rcases Nat.lt_or_gt_of_ne hij with h1 | h1
      · have e : ∀ x : Int, lim x j = x / 2 ^ (64 * i) / 18446744073709551616 / 2 ^ (64 * (j - i - 1)) % 18446744073709551616 := fun x => by
          rw [show (18446744073709551616 : Int) = 2 ^ 64 by rfl, ediv_pow, ediv_pow, lim_pow]; congr 3; omega
        rw [e, e, Int.add_mul_ediv_right _ _ (by omega)]
        unfold lim
        generalize z / 2 ^ (64 * i) = y
        rw [show (y + (v - y % 18446744073709551616)) / 18446744073709551616 = y / 18446744073709551616 by omega]
      · rw [lim_add_mul _ _ _ _ h1]
  · rw [Array.getElem?_eq_none (xs := limbs n (z + (v - lim z i) * 2 ^ (64 * i))) (by simp; omega), if_neg (by omega), Array.getElem?_eq_none (by simp; omega)]

theorem Ok.mine {w : World} {k : Nat} {cs : Array Value} (h : Blk w k cs) : Ok (· = k) w w [(k, cs)] [] :=
  ⟨rfl, rfl, rfl, Nat.le_refl _, fun _ _ _ => rfl, by simpa using h, by simp, by simp, by simp, by simp⟩

/-- One limb more, and what is carried: the number grows by it. -/
theorem put_step (y c x : Int) (i : Nat) (hx : 0 ≤ x + c) : y + ((lim y i + x + c) % 18446744073709551616 - lim y i) * 2 ^ (64 * i) + (lim y i + x + c) / 18446744073709551616 * 2 ^ (64 * (i + 1)) = y + (x + c) * 2 ^ (64 * i) := by
  have e : (2 : Int) ^ (64 * (i + 1)) = 18446744073709551616 * 2 ^ (64 * i) := by
    rw [show 64 * (i + 1) = 64 + 64 * i by omega, Int.pow_add]; rfl
  have e2 := Int.emod_add_mul_ediv (lim y i + x + c) 18446744073709551616
  rw [e]
  generalize (lim y i + x + c) % 18446744073709551616 = r at *
  generalize (lim y i + x + c) / 18446744073709551616 = q at *
  generalize (2 : Int) ^ (64 * i) = p at *
  have : x + c = r + 18446744073709551616 * q - lim y i := by omega
  rw [this]; grind

theorem put_nonneg {y v : Int} (i : Nat) (hy : 0 ≤ y) (hv : 0 ≤ v) : 0 ≤ y + (v - lim y i) * 2 ^ (64 * i) := by
  have hp := pow_pos2 (64 * i)
  have e := Int.emod_add_mul_ediv y (2 ^ (64 * i))
  have b := Int.emod_nonneg y (show (2 : Int) ^ (64 * i) ≠ 0 by omega)
  have q := Int.ediv_nonneg hy (show 0 ≤ (2 : Int) ^ (64 * i) by omega)
  have h1 : lim y i ≤ y / 2 ^ (64 * i) := by unfold lim; omega
  have h2 := Int.mul_le_mul_of_nonneg_right h1 (show 0 ≤ (2 : Int) ^ (64 * i) by omega)
  have h3 := Int.mul_nonneg hv (show 0 ≤ (2 : Int) ^ (64 * i) by omega)
  rw [Int.mul_comm] at e
  have h4 : (v - lim y i) * 2 ^ (64 * i) = v * 2 ^ (64 * i) - lim y i * 2 ^ (64 * i) := by grind
  rw [h4]
  rw [Int.mul_comm] at e
  have h5 : 2 ^ (64 * i) * (y / 2 ^ (64 * i)) = y / 2 ^ (64 * i) * 2 ^ (64 * i) := Int.mul_comm _ _
  omega

set_option maxRecDepth 100000 in
set_option maxHeartbeats 1000000 in
theorem put_turns (y x : Int) (i k : Nat) (hi : i ≤ 16) (hx0 : 0 ≤ x) (hx : x < 18446744073709551616) (hy : 0 ≤ y) (ht : y + x * 2 ^ (64 * i) < 2 ^ (64 * 17)) (w0 w : World) (hw : Ok (· = k) w0 w [(k, limbs 17 y)] []) :
    Calls Tryd.prog 95 #[.pointer (some ⟨k, 0, none⟩), .int .i64 i, .int .u64 x] w fun e w' => e = .returned (.tuple #[]) ∧ Ok (· = k) w0 w' [(k, limbs 17 (y + x * 2 ^ (64 * i)))] [] := by
  obtain ⟨T, hT⟩ : ∃ T, T = y + x * 2 ^ (64 * i) := ⟨_, rfl⟩
  rw [← hT] at ht ⊢
  go_enter Tryd.func95, Tryd.ntmps95
  go_wp2_with fail
  try simp only [Act.put, List.setIfInBounds_toArray, List.set_cons_succ, List.set_cons_zero]
  refine wp_region_draws [⟨[(0, none)], none, false, false⟩, ⟨[(1, none)], none, false, false⟩, ⟨[(0, none)], none, false, false⟩, ⟨[(1, none)], none, false, false⟩, ⟨[(10, some 2)], none, false, false⟩, ⟨[(11, some 3), (12, some 4)], none, false, false⟩, ⟨[(13, some 5)], none, false, false⟩, ⟨[(2, none)], none, false, false⟩, ⟨[(14, some 6), (15, some 7)], none, false, false⟩, ⟨[(16, some 8)], none, false, false⟩, ⟨[(7, some 9)], none, false, false⟩, ⟨[(7, some 9)], none, true, false⟩, ⟨[(8, some 0)], none, false, false⟩, ⟨[(9, some 1), (19, some 12)], none, false, false⟩] 45 (fun w => Ok (· = k) w0 w [(k, limbs 17 y)] []) (by kernel_rfl) rfl (by kernel_rfl) (hw.grow (below_drew' _)) (fun _ _ h hb => h.grow hb) (fun _ _ _ _ h => h) ?_
  clear hw
  refine ⟨_, stable_is _, ask_run rfl rfl rfl (fun a w hw hk => run_move rfl (eval_of (known_old hk 0 (.head _) (by simp only [List.getElem?_toArray, List.getElem?_cons_zero, List.getElem?_cons_succ, Option.getD_some]; rfl)))), ?_⟩
  refine ⟨_, stable_is _, ask_run rfl rfl rfl (fun a w hw hk => run_move rfl (eval_of (known_old hk 1 (.head _) (by simp only [List.getElem?_toArray, List.getElem?_cons_zero, List.getElem?_cons_succ, Option.getD_some]; rfl)))), ?_⟩
  refine ⟨_, stable_is _, ask_run rfl rfl rfl (fun a w hw hk => run_move rfl (eval_of (known_old hk 0 (.head _) (by simp only [List.getElem?_toArray, List.getElem?_cons_zero, List.getElem?_cons_succ, Option.getD_some]; rfl)))), ?_⟩
  refine ⟨_, stable_is _, ask_run rfl rfl rfl (fun a w hw hk => run_move rfl (eval_of (known_old hk 1 (.head _) (by simp only [List.getElem?_toArray, List.getElem?_cons_zero, List.getElem?_cons_succ, Option.getD_some]; rfl)))), ?_⟩
  refine ⟨_, stable_is _, ask_run rfl rfl rfl (fun a w hw hk => run_nilCheck rfl (eval_of (known_op hk 10 2 1 (.head _) rfl rfl))), ?_⟩
  refine ⟨_, stable_is _, ask_run rfl rfl rfl (fun a w hw hk => run_indexAddr rfl Tryd.underlying122 (by kernel_rfl) (eval_of (known_op hk 12 4 0 (.tail _ (.head _)) rfl rfl)) (eval_of (known_op hk 11 3 1 (.head _) rfl rfl)) (by omega) (by omega)), ?_⟩
  refine ⟨_, stable_is _, ask_run rfl rfl rfl (fun a w hw hk => run_load_c rfl (eval_of (known_op hk 13 5 0 (.head _) rfl rfl)) one_u64 (hw.has (by first | (apply Has.own; (repeat (first | assumption | exact List.mem_cons_self | apply List.mem_cons_of_mem)); done) | (apply Has.read; (repeat (first | assumption | exact List.mem_cons_self | apply List.mem_cons_of_mem)); done))) (limbs_get _ (by omega))), ?_⟩
  refine ⟨_, stable_is _, ask_run rfl rfl rfl (fun a w hw hk => run_move rfl (eval_of (known_old hk 2 (.head _) (by simp only [List.getElem?_toArray, List.getElem?_cons_zero, List.getElem?_cons_succ, Option.getD_some]; rfl)))), ?_⟩
  refine ⟨_, stable_is _, ask_gives rfl rfl rfl (fun a w hw hk => run_call3 rfl ⟨_, Tryd.func67, by kernel_rfl, by kernel_rfl⟩ (eval_of (known_op hk 14 6 1 (.head _) rfl rfl)) (eval_of (known_op hk 15 7 0 (.tail _ (.head _)) rfl rfl)) rfl)
    (limbadd_gives (lim y i) x 0 (lim_bd _ _).1 hx0 (.inl rfl)) (fun w hw => by simp), ?_⟩
  refine ⟨_, stable_is _, ask_run rfl rfl rfl (fun a w hw hk => run_move rfl (eval_of (known_op hk 16 8 0 (.head _) rfl rfl))), ?_⟩
  refine ⟨_, stable_is _, ask_run rfl rfl rfl (fun a w hw hk => run_extract rfl (eval_of (known_op hk 7 9 0 (.head _) rfl rfl)) rfl), ?_⟩
  refine ⟨_, stable_is _, ask_late rfl (fun a w w' hw hk hd => run_extract rfl (eval_of (known_op hk 7 9 1 (.head _) rfl rfl)) rfl), ?_⟩
  refine ⟨_, stable_is _, ask_run rfl rfl rfl (fun a w hw hk => run_nilCheck rfl (eval_of (known_op hk 8 0 11 (.head _) rfl rfl))), ?_⟩
  refine ⟨_, stable_is _, ask_run rfl rfl rfl (fun a w hw hk => run_indexAddr rfl Tryd.underlying122 (by kernel_rfl) (eval_of (known_op hk 19 12 0 (.tail _ (.head _)) rfl rfl)) (eval_of (known_op hk 9 1 11 (.head _) rfl rfl)) (by omega) (by omega)), ?_⟩
  intro w hw
  rintro _ rfl
  rintro _ rfl
  rintro _ rfl
  rintro _ rfl
  rintro _ rfl
  rintro _ rfl
  rintro _ rfl
  rintro _ rfl
  rintro _ rfl
  rintro _ rfl
  rintro _ rfl
  rintro _ rfl
  rintro _ rfl
  rintro _ rfl
  change wpList _ _ _ _ _ _
  simp only [List.length_cons, List.length_nil, Nat.reduceAdd, Nat.zero_add, List.drop_succ_cons, List.drop_zero, Act.put, List.setIfInBounds_toArray, List.set_cons_succ, List.set_cons_zero]
  have hput : (limbs 17 y).setIfInBounds i (.int .u64 ((lim y i + x + 0) % 18446744073709551616)) = limbs 17 (y + ((lim y i + x + 0) % 18446744073709551616 - lim y i) * 2 ^ (64 * i)) := limbs_put _ _ (by omega) (by omega) (by omega)
  have hsum := put_step y 0 x i (by omega)
  have hcar : 0 ≤ (lim y i + x + 0) / 18446744073709551616 ∧ (lim y i + x + 0) / 18446744073709551616 ≤ 1 := by have := lim_bd y i; omega
  have hy1 : 0 ≤ y + ((lim y i + x + 0) % 18446744073709551616 - lim y i) * 2 ^ (64 * i) := put_nonneg i hy (by omega)
  rw [Int.add_zero x, ← hT] at hsum
  clear hT
  generalize hC : (lim y i + x + 0) / 18446744073709551616 = C at *
  generalize hV : (lim y i + x + 0) % 18446744073709551616 = V at *
  generalize hY : y + (V - lim y i) * 2 ^ (64 * i) = Y at *
  go_wp2_with (first | (refine int_store hw rfl 22 _ _ rfl _ _ rfl _ _ rfl one_u64 _ (.head _) (by simp; omega) ?_; clear hw; intro w hw; rw [Int.toNat_natCast, hput] at hw))
  have hC01 : C = 0 ∨ C = 1 := by omega
  clear hput hC hV hY hcar
  go_loopw [1, 6] (fun v u wr => ∃ (j : Nat) (c z : Int), j ≤ 17 ∧ v = .int .i64 j ∧ u = .int .u64 c ∧ (c = 0 ∨ c = 1) ∧ 0 ≤ z ∧ z + c * 2 ^ (64 * j) = T ∧ Ok (· = k) w0 wr [(k, limbs 17 z)] []) (fun v _ _ => 17 - (intOf v).toNat)
  case atStart => exact ⟨i + 1, C, Y, by omega, by go_num, rfl, hC01, hy1, hsum, hw⟩
  case round =>
    clear hw hy1 hsum hC01
    obtain ⟨j, c, z, hj, rfl, rfl, hc, hz, hsum, hw⟩ := hrel
    rcases hc with rfl | rfl
    · go_wp2_with fail
      refine ⟨rfl, .tuple #[], ?_, rfl, ?_⟩
      · simp [results]
      · rw [show T = z by omega]; exact hw
    · have hj16 : j ≤ 16 := by
        apply Classical.byContradiction
        intro h
        have : j = 17 := by omega
        subst this
        omega
      go_wp2_with fail
      try simp only [Act.put, List.setIfInBounds_toArray, List.set_cons_succ, List.set_cons_zero]
      refine wp_region_draws [⟨[(0, none)], none, false, false⟩, ⟨[(1, none)], none, false, false⟩, ⟨[(0, none)], none, false, false⟩, ⟨[(1, none)], none, false, false⟩, ⟨[(34, some 2)], none, false, false⟩, ⟨[(35, some 3), (36, some 4)], none, false, false⟩, ⟨[(37, some 5)], none, false, false⟩, ⟨[(6, none)], none, false, false⟩, ⟨[(38, some 6), (39, some 7)], none, false, false⟩, ⟨[(40, some 8)], none, false, false⟩, ⟨[(31, some 9)], none, false, false⟩, ⟨[(31, some 9)], none, true, false⟩, ⟨[(32, some 0)], none, false, false⟩, ⟨[(33, some 1), (43, some 12)], none, false, false⟩] 45 (fun w => Ok (· = k) w0 w [(k, limbs 17 z)] []) (by kernel_rfl) rfl (by kernel_rfl) (hw.grow (below_drew' _)) (fun _ _ h hb => h.grow hb) (fun _ _ _ _ h => h) ?_
      clear hw
      refine ⟨_, stable_is _, ask_run rfl rfl rfl (fun a w hw hk => run_move rfl (eval_of (known_old hk 0 (.head _) (by simp only [List.getElem?_toArray, List.getElem?_cons_zero, List.getElem?_cons_succ, Option.getD_some]; rfl)))), ?_⟩
      refine ⟨_, stable_is _, ask_run rfl rfl rfl (fun a w hw hk => run_move rfl (eval_of (known_old hk 1 (.head _) (by simp only [List.getElem?_toArray, List.getElem?_cons_zero, List.getElem?_cons_succ, Option.getD_some]; rfl)))), ?_⟩
      refine ⟨_, stable_is _, ask_run rfl rfl rfl (fun a w hw hk => run_move rfl (eval_of (known_old hk 0 (.head _) (by simp only [List.getElem?_toArray, List.getElem?_cons_zero, List.getElem?_cons_succ, Option.getD_some]; rfl)))), ?_⟩
      refine ⟨_, stable_is _, ask_run rfl rfl rfl (fun a w hw hk => run_move rfl (eval_of (known_old hk 1 (.head _) (by simp only [List.getElem?_toArray, List.getElem?_cons_zero, List.getElem?_cons_succ, Option.getD_some]; rfl)))), ?_⟩
      refine ⟨_, stable_is _, ask_run rfl rfl rfl (fun a w hw hk => run_nilCheck rfl (eval_of (known_op hk 34 2 1 (.head _) rfl rfl))), ?_⟩
      refine ⟨_, stable_is _, ask_run rfl rfl rfl (fun a w hw hk => run_indexAddr rfl Tryd.underlying122 (by kernel_rfl) (eval_of (known_op hk 36 4 0 (.tail _ (.head _)) rfl rfl)) (eval_of (known_op hk 35 3 1 (.head _) rfl rfl)) (by omega) (by omega)), ?_⟩
      refine ⟨_, stable_is _, ask_run rfl rfl rfl (fun a w hw hk => run_load_c rfl (eval_of (known_op hk 37 5 0 (.head _) rfl rfl)) one_u64 (hw.has (by first | (apply Has.own; (repeat (first | assumption | exact List.mem_cons_self | apply List.mem_cons_of_mem)); done) | (apply Has.read; (repeat (first | assumption | exact List.mem_cons_self | apply List.mem_cons_of_mem)); done))) (limbs_get _ (by omega))), ?_⟩
      refine ⟨_, stable_is _, ask_run rfl rfl rfl (fun a w hw hk => run_move rfl (eval_of (known_old hk 6 (.head _) (by simp only [List.getElem?_toArray, List.getElem?_cons_zero, List.getElem?_cons_succ, Option.getD_some]; rfl)))), ?_⟩
      refine ⟨_, stable_is _, ask_gives rfl rfl rfl (fun a w hw hk => run_call3 rfl ⟨_, Tryd.func67, by kernel_rfl, by kernel_rfl⟩ (eval_of (known_op hk 38 6 1 (.head _) rfl rfl)) rfl (eval_of (known_op hk 39 7 0 (.tail _ (.head _)) rfl rfl)))
    (limbadd_gives (lim z j) 0 1 (lim_bd _ _).1 (by omega) (.inr rfl)) (fun w hw => by simp), ?_⟩
      refine ⟨_, stable_is _, ask_run rfl rfl rfl (fun a w hw hk => run_move rfl (eval_of (known_op hk 40 8 0 (.head _) rfl rfl))), ?_⟩
      refine ⟨_, stable_is _, ask_run rfl rfl rfl (fun a w hw hk => run_extract rfl (eval_of (known_op hk 31 9 0 (.head _) rfl rfl)) rfl), ?_⟩
      refine ⟨_, stable_is _, ask_late rfl (fun a w w' hw hk hd => run_extract rfl (eval_of (known_op hk 31 9 1 (.head _) rfl rfl)) rfl), ?_⟩
      refine ⟨_, stable_is _, ask_run rfl rfl rfl (fun a w hw hk => run_nilCheck rfl (eval_of (known_op hk 32 0 11 (.head _) rfl rfl))), ?_⟩
      refine ⟨_, stable_is _, ask_run rfl rfl rfl (fun a w hw hk => run_indexAddr rfl Tryd.underlying122 (by kernel_rfl) (eval_of (known_op hk 43 12 0 (.tail _ (.head _)) rfl rfl)) (eval_of (known_op hk 33 1 11 (.head _) rfl rfl)) (by omega) (by omega)), ?_⟩
      intro w hw
      rintro _ rfl
      rintro _ rfl
      rintro _ rfl
      rintro _ rfl
      rintro _ rfl
      rintro _ rfl
      rintro _ rfl
      rintro _ rfl
      rintro _ rfl
      rintro _ rfl
      rintro _ rfl
      rintro _ rfl
      rintro _ rfl
      rintro _ rfl
      change wpList _ _ _ _ _ _
      simp only [List.length_cons, List.length_nil, Nat.reduceAdd, Nat.zero_add, List.drop_succ_cons, List.drop_zero, Act.put, List.setIfInBounds_toArray, List.set_cons_succ, List.set_cons_zero]
      have hput : (limbs 17 z).setIfInBounds j (.int .u64 ((lim z j + 0 + 1) % 18446744073709551616)) = limbs 17 (z + ((lim z j + 0 + 1) % 18446744073709551616 - lim z j) * 2 ^ (64 * j)) := limbs_put _ _ (by omega) (by omega) (by omega)
      have hstep := put_step z 1 0 j (by omega)
      rw [show (0 : Int) + 1 = 1 by omega, hsum] at hstep
      have hcar : (lim z j + 0 + 1) / 18446744073709551616 = 0 ∨ (lim z j + 0 + 1) / 18446744073709551616 = 1 := by have := lim_bd z j; omega
      have hz1 := put_nonneg (v := (lim z j + 0 + 1) % 18446744073709551616) j hz (by omega)
      generalize (lim z j + 0 + 1) / 18446744073709551616 = C' at *
      generalize (lim z j + 0 + 1) % 18446744073709551616 = V' at *
      generalize z + (V' - lim z j) * 2 ^ (64 * j) = Y' at *
      go_wp2_with (first | (refine int_store hw rfl 22 _ _ rfl _ _ rfl _ _ rfl one_u64 _ (.head _) (by simp; omega) ?_; clear hw; intro w hw; rw [Int.toNat_natCast, hput] at hw))
      exact ⟨⟨j + 1, C', Y', by omega, by go_num, rfl, hcar, hz1, hstep, hw⟩, by simp [intOf]; omega⟩
end Go.Proofs.YtcodmeljjphoeaaDoor
