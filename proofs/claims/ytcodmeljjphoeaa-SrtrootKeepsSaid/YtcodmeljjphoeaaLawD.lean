/-
  Layer 16: the law on what is kept, walked.
-/
import Derived.Test.YtcodmeljjphoeaaLawA
namespace Go.Proofs.Ytcodmeljjphoeaa
open Go.RowKit
set_option exponentiation.threshold 600
set_option linter.unusedVariables false
set_option linter.unusedSimpArgs false

set_option maxRecDepth 100000 in
set_option maxHeartbeats 2000000 in
theorem keeps_none (n st : Int) (h0 : 0 ≤ n) (h1 : n < M) (hn : n = 0 ∨ 2 ^ 256 ≤ n) (hs : 0 ≤ st ∧ st < 256) : Gives Try.prog 5 #[W n, .int .u8 st] [] (.bool true) := by
  refine .mk fun w0 w hw => ?_
  have hd := fun H w hw => digits_calls n h0 h1 Non w0 w H [] hw
  have e1 : rdigits n = [] := by unfold rdigits; rw [if_pos hn]
  have hfar := far_none n (st % 65) h0 h1 hn (by omega)
  have hnorm := norm_none n h0 h1 hn
  rw [e1] at hd
  clear e1 h0 h1 hn
  generalize rerr n = er at *
  go_enter Try.func5, Try.ntmps5
  go_wp2_with (first | (refine w_box (H := []) hw rfl 24 _ rfl _ rfl ?_; clear hw; intro k1 w hw) | (refine ok_alloc (H := []) hw rfl 24 rfl _ zero_wide ?_; clear hw; intro k1 w hw) | (refine ok_alloc (H := [_]) hw rfl 24 rfl _ zero_wide ?_; clear hw; intro k2 w hw) | (refine ok_alloc (H := [_, _]) hw rfl 24 rfl _ zero_wide ?_; clear hw; intro k3 w hw) | (refine w_load hw rfl 24 _ rfl _ rfl agg_wide _ (by first | (apply Has.own; (repeat (first | assumption | exact List.mem_cons_self | apply List.mem_cons_of_mem)); done) | (apply Has.read; (repeat (first | assumption | exact List.mem_cons_self | apply List.mem_cons_of_mem)); done)) ?_) | (refine w_store hw rfl 24 _ _ rfl _ rfl _ rfl agg_wide _ (by repeat (first | exact At.head _ | apply At.tail)) ?_; clear hw; intro w hw) | (go_at_call 15; refine (hfar).call0 hw ?_; clear hw; intro w hw) | (go_at_call 16; refine (hnorm).call0 hw ?_; clear hw; intro w hw) | (go_at_call 12; refine (awake16_gives).call0 hw ?_; clear hw; intro w hw) | (go_at_call 10; refine (hd _ _ hw).mono ?_; rintro e w ⟨v, T, hl, rfl, hw'⟩; clear hw; have hw := Ok.freeze (T := T) hw'; clear hw'; obtain ⟨p, c, rfl⟩ := hl.slice))
  go_ret
  exact ⟨rfl, hw.below⟩

theorem cmp_not_lt {x y : Int} (h : y ≤ x) : decide (cmp3 x y < 0) = false := decide_eq_false (by unfold cmp3; rw [if_neg (by omega)]; split <;> omega)
theorem cmp_le {x y : Int} (h : x ≤ y) : decide (cmp3 x y ≤ 0) = true := decide_eq_true (by unfold cmp3; by_cases h2 : x < y; · rw [if_pos h2]; omega
                                                                                            · rw [if_neg h2, if_neg (by omega)]; omega)

set_option maxRecDepth 100000 in
set_option maxHeartbeats 2000000 in
theorem keeps_some (n st : Int) (k : Nat) (h0 : 0 < n) (h1 : n < 2 ^ 256) (hs : 0 ≤ st ∧ st < 256) (hk : st % 65 = (k : Int)) : Gives Try.prog 5 #[W n, .int .u8 st] [] (.bool true) := by
  refine .mk fun w0 w hw => ?_
  have hM : n < M := Int.lt_trans h1 (pow_in (by omega))
  have hk64 : k ≤ 64 := by omega
  have hd := fun H w hw => digits_calls n (by omega) hM Non w0 w H [] hw
  have e1 : rdigits n = dcells (nup n) 64 := by unfold rdigits; rw [if_neg (by omega)]
  have e2 : rerr n = 0 := by unfold rerr; rw [if_neg (by omega)]
  rw [e1, e2] at hd
  have hfar := far_some n k hk64 h0 h1
  have hnorm := norm_gives n h0 h1
  have hup := nup_bds h0 h1
  have hkp := kept_all hup.1 hup.2 k hk64
  have hnear := hkp.near
  have hupM : nup n < M := Int.lt_trans hup.2 (pow_in (by omega))
  have hup0 : 0 ≤ nup n := by have := pow_pos2 254; omega
  have hp0 : 0 ≤ rp (nup n) k := by have := hkp.lo; have := pow_pos2 127; omega
  have hpM : rp (nup n) k < M := Int.lt_of_le_of_lt hkp.hi (pow_in (by omega))
  have hbp := big_calls _ hp0 hpM
  have hbu := big_calls _ hup0 hupM
  have h3 := bsmall_calls (n := 3) (by omega) (by omega)
  have h9 := bsmall_calls (n := 9) (by omega) (by omega)
  have htw := bpower_calls (k := 1 + 2 * (64 - (k : Int))) (1 + 2 * (64 - k)) (by omega) (by omega)
  have hE : (2 : Int) ^ (1 + 2 * (64 - k)) = 2 * 2 ^ (128 - 2 * k) := by rw [Int.pow_add]; congr 2; omega
  have hEp := pow_pos2 (1 + 2 * (64 - k))
  have hEc : (2 : Int) ^ (1 + 2 * (64 - k)) < 2 ^ 130 := Int.lt_of_le_of_lt (pow_mono2 (show 1 + 2 * (64 - k) ≤ 129 by omega)) (by rw [Int.pow_succ 2 129]; have := pow_pos2 129; omega)
  rw [hE] at htw hEp hEc
  have hpc : rp (nup n) k < 2 ^ 129 := Int.lt_of_le_of_lt hkp.hi (by rw [Int.pow_succ 2 128]; have := pow_pos2 128; omega)
  have e131 : (2 : Int) ^ 132 = 4 * 2 ^ 130 := by rw [show 132 = 2 + 130 by rfl, Int.pow_add]; rfl
  have e130 : (2 : Int) ^ 130 = 2 * 2 ^ 129 := by rw [show 130 = 1 + 129 by rfl, Int.pow_add]; rfl
  have hlen := Lib.hid (length_dcells (nup n) 64)
  have hget : ∀ i, i < 64 → (dcells (nup n) 64)[i]? = some (.int .i64 (rd (nup n) i)) := fun i hi => by simp [dcells, hi]
  have hnil : dcells (nup n) 64 ≠ [] := fun h => by have := hlen.out; rw [h] at this; cases this
  have hrd : ∀ i, -2 ≤ rd (nup n) i ∧ rd (nup n) i ≤ 2 := fun i => pickv_bd _ _
  have n1 := hnear.pos
  have n2 := hnear.lo
  have n3 := hnear.hi
  have hpos2 := pow_pos2 (128 - 2 * k)
  clear e1 e2 hnear hkp hM h0 h1 hE
  generalize (2 : Int) ^ (128 - 2 * k) = E at *
  generalize rp (nup n) k = p at *
  generalize dcells (nup n) 64 = ds at *
  generalize rd (nup n) = rdn at *
  generalize nup n = N at *
  generalize nby n = Y at *
  have cN : N < Cap := cap_of hup.2 (by omega)
  have c9N : 9 * N < Cap := cap_of (k := 260) (by have : (2 : Int) ^ 260 = 16 * 2 ^ 256 := by rw [show 260 = 4 + 256 by rfl, Int.pow_add]; rfl
                                                  omega) (by omega)
  have cp : p < Cap := cap_of hpc (by omega)
  have c3 : (3 : Int) < Cap := cap_of (k := 3) (by omega) (by omega)
  have c9 : (9 : Int) < Cap := cap_of (k := 4) (by omega) (by omega)
  have c3p : 3 * p < Cap := cap_of (k := 132) (by omega) (by omega)
  have cE : 2 * E < Cap := cap_of hEc (by omega)
  have cA : 3 * p + 2 * E < Cap := cap_of (k := 132) (by omega) (by omega)
  have cB : 3 * p - 2 * E < Cap := cap_of (k := 132) (by omega) (by omega)
  have q1 := Lib.hid (cmp_not_lt n3)
  have q2 := Lib.hid (cmp_not_lt n1)
  have q3 := Lib.hid (cmp_le n2)
  clear n2 n3 hup hupM hup0 hp0 hpM hpc e131 e130 hEc hEp hpos2
  go_enter Try.func5, Try.ntmps5
  go_wp2_with (first | (refine w_box (H := []) hw rfl 24 _ rfl _ rfl ?_; clear hw; intro k1 w hw) | (refine ok_alloc (H := []) hw rfl 24 rfl _ zero_wide ?_; clear hw; intro k1 w hw) | (refine ok_alloc (H := [_]) hw rfl 24 rfl _ zero_wide ?_; clear hw; intro k2 w hw) | (refine ok_alloc (H := [_, _]) hw rfl 24 rfl _ zero_wide ?_; clear hw; intro k3 w hw) | (refine w_load hw rfl 24 _ rfl _ rfl agg_wide _ (by first | (apply Has.own; (repeat (first | assumption | exact List.mem_cons_self | apply List.mem_cons_of_mem)); done) | (apply Has.read; (repeat (first | assumption | exact List.mem_cons_self | apply List.mem_cons_of_mem)); done)) ?_) | (refine w_store hw rfl 24 _ _ rfl _ rfl _ rfl agg_wide _ (by repeat (first | exact At.head _ | apply At.tail)) ?_; clear hw; intro w hw) | (go_at_call 16; refine (hnorm).call0 hw ?_; clear hw; intro w hw) | (go_at_call 15; refine hfar.call0 hw ?_; clear hw; intro w hw) | (go_at_call 10; refine (hd _ _ hw).mono ?_; rintro e w ⟨v, T, hl, rfl, hw'⟩; clear hw; have hw := Ok.freeze (T := T) hw'; clear hw'; obtain ⟨g, c, cs, rfl, rfl, hcs⟩ := hl.rows hnil; rw [hlen.out]))
  go_loopw [13] (fun v wr => ∃ i : Nat, i ≤ 64 ∧ v = .int .i64 i ∧ Ok Non w0 wr [(k3, limbs 8 N), (k2, limbs 8 p), (k1, limbs 8 n)] ([(g, cs)] ++ [])) (fun v _ => 64 - (intOf v).toNat)
  case atStart => exact ⟨0, by omega, rfl, hw⟩
  case round =>
    clear hw
    obtain ⟨i, hi, rfl, hw⟩ := hrel
    by_cases hlt : i < 64
    · have hcell := (hw.has (Has.read (List.mem_append_left _ (List.Mem.head _)))).cell i
      rw [(hcs i (by rw [hlen.out]; exact hlt)).trans (hget i hlt)] at hcell
      have hb := hrd i
      generalize rdn i = d at *
      have hb1 : decide (d < -2) = false := decide_eq_false (by omega)
      have hb2 : decide (2 < d) = false := decide_eq_false (by omega)
      clear cN c9N cp c3 c9 c3p cE cA cB n1 hget hrd hd hfar hnorm
      go_wp2_with fail
      exact ⟨⟨i + 1, by omega, by go_num, hw⟩, by simp [intOf]; omega⟩
    · have hi2 : i = 64 := by omega
      subst hi2
      clear hd hfar hnorm hget hrd hcs hl
      go_wp2_with fail
      try simp only [Act.put, List.setIfInBounds_toArray, List.set_cons_succ, List.set_cons_zero]
      refine wp_region_draws [⟨[], none, false, false⟩, ⟨[(8, none)], none, false, false⟩, ⟨[(82, some 1)], none, false, false⟩, ⟨[(81, some 0), (83, some 2)], none, false, false⟩, ⟨[(84, some 3)], none, false, false⟩] 121 (fun w => Ok Non w0 w [(k3, limbs 8 N), (k2, limbs 8 p), (k1, limbs 8 n)] ([(g, cs)] ++ [])) (by kernel_rfl) rfl (by kernel_rfl) (hw.grow (below_drew' _)) (fun _ _ h hb => h.grow hb) (fun _ _ _ _ h => h) ?_
      clear hw
      refine ⟨_, stable_mineb _ _ _ _ _, ask_big rfl rfl rfl (fun a w hw hk => by
      exact ⟨_, _, run_call1 rfl ⟨_, Try.func20, by kernel_rfl, by kernel_rfl⟩ rfl, h3, (fun p hp => by simp at hp)⟩), ?_⟩
      refine ⟨_, stable_is _, ask_run rfl rfl rfl (fun a w hw hk => run_load_w rfl (eval_of (known_old hk 8 (.head _) rfl)) agg_wide (hw.has (by first | (apply Has.own; (repeat (first | assumption | exact List.mem_cons_self | apply List.mem_cons_of_mem)); done) | (apply Has.read; (repeat (first | assumption | exact List.mem_cons_self | apply List.mem_cons_of_mem)); done)))), ?_⟩
      refine ⟨_, stable_mineb _ _ _ _ _, ask_big rfl rfl rfl (fun a w hw hk => by
      exact ⟨_, _, run_call1 rfl ⟨_, Try.func21, by kernel_rfl, by kernel_rfl⟩ (eval_of (known_op hk 82 1 0 (.head _) rfl rfl)), hbp, (fun p hp => by simp at hp)⟩), ?_⟩
      refine ⟨_, stable_mineb _ _ _ _ _, ask_big rfl rfl rfl (fun a w hw hk => by
      obtain ⟨L81, e81, b81⟩ := known_rel hk 81 0 2 (.head _) rfl rfl
      obtain ⟨L83, e83, b83⟩ := known_rel hk 83 2 0 (.tail _ (.head _)) rfl rfl
      exact ⟨_, _, run_call2 rfl ⟨_, Try.func19, by kernel_rfl, by kernel_rfl⟩ (eval_of rfl) (eval_of rfl), (vmul (e81.mono (R' := L81 ++ L83) (fun q h => List.mem_append_left _ h)) (e83.mono (fun q h => List.mem_append_right _ h)) c3 cp), (fun q h => by rcases List.mem_append.1 h with h | h; exact b81.2.reads q (List.mem_append_left _ h); exact b83.2.reads q (List.mem_append_left _ h))⟩), ?_⟩
      refine ⟨_, stable_mineb _ _ _ _ _, ask_rel rfl rfl rfl (fun a w hw hk => ⟨_, run_assign rfl (eval_of rfl), known_rel hk 84 3 0 (.head _) rfl rfl⟩), ?_⟩
      intro w hw
      rintro v0 ⟨L0, hv0, hf0, hm0⟩
      rintro _ rfl
      rintro v2 ⟨L2, hv2, hf2, hm2⟩
      rintro v3 ⟨L3, hv3, hf3, hm3⟩
      rintro v4 ⟨L4, hv4, hf4, hm4⟩
      change wpList _ _ _ _ _ _
      simp only [List.length_cons, List.length_nil, Nat.reduceAdd, Nat.zero_add, List.drop_succ_cons, List.drop_zero, Act.put, List.setIfInBounds_toArray, List.set_cons_succ, List.set_cons_zero]
      clear hw hm0 hv0 hf0 hm2 hv2 hf2 hm3 hv3 hf3 hbp h3 c3 cp
      have hw := hm4
      have hzt := hv4
      clear hm4 hv4 hf4
      generalize v4 = zt at *
      generalize L4 = Lt at *
      go_wp2_with (go_at_call 22; refine htw.use hw (by simp) ?_; clear hw; intro w zp Lp hzp hfp hw)
      clear htw
      try simp only [Act.put, List.setIfInBounds_toArray, List.set_cons_succ, List.set_cons_zero]
      refine wp_region_draws [⟨[], none, false, false⟩, ⟨[(10, none)], none, false, false⟩, ⟨[(91, some 1)], none, false, false⟩, ⟨[(90, some 0), (92, some 2)], none, false, false⟩, ⟨[(93, some 3)], none, false, false⟩] 121 (fun w => Ok Non w0 w [(k3, limbs 8 N), (k2, limbs 8 p), (k1, limbs 8 n)] (Lp ++ (Lt ++ ([(g, cs)] ++ [])))) (by kernel_rfl) rfl (by kernel_rfl) (hw.grow (below_drew' _)) (fun _ _ h hb => h.grow hb) (fun _ _ _ _ h => h) ?_
      clear hw
      refine ⟨_, stable_mineb _ _ _ _ _, ask_big rfl rfl rfl (fun a w hw hk => by
      exact ⟨_, _, run_call1 rfl ⟨_, Try.func20, by kernel_rfl, by kernel_rfl⟩ rfl, h9, (fun p hp => by simp at hp)⟩), ?_⟩
      refine ⟨_, stable_is _, ask_run rfl rfl rfl (fun a w hw hk => run_load_w rfl (eval_of (known_old hk 10 (.head _) rfl)) agg_wide (hw.has (by first | (apply Has.own; (repeat (first | assumption | exact List.mem_cons_self | apply List.mem_cons_of_mem)); done) | (apply Has.read; (repeat (first | assumption | exact List.mem_cons_self | apply List.mem_cons_of_mem)); done)))), ?_⟩
      refine ⟨_, stable_mineb _ _ _ _ _, ask_big rfl rfl rfl (fun a w hw hk => by
      exact ⟨_, _, run_call1 rfl ⟨_, Try.func21, by kernel_rfl, by kernel_rfl⟩ (eval_of (known_op hk 91 1 0 (.head _) rfl rfl)), hbu, (fun p hp => by simp at hp)⟩), ?_⟩
      refine ⟨_, stable_mineb _ _ _ _ _, ask_big rfl rfl rfl (fun a w hw hk => by
      obtain ⟨L90, e90, b90⟩ := known_rel hk 90 0 2 (.head _) rfl rfl
      obtain ⟨L92, e92, b92⟩ := known_rel hk 92 2 0 (.tail _ (.head _)) rfl rfl
      exact ⟨_, _, run_call2 rfl ⟨_, Try.func19, by kernel_rfl, by kernel_rfl⟩ (eval_of rfl) (eval_of rfl), (vmul (e90.mono (R' := L90 ++ L92) (fun q h => List.mem_append_left _ h)) (e92.mono (fun q h => List.mem_append_right _ h)) c9 cN), (fun q h => by rcases List.mem_append.1 h with h | h; exact b90.2.reads q (List.mem_append_left _ h); exact b92.2.reads q (List.mem_append_left _ h))⟩), ?_⟩
      refine ⟨_, stable_mineb _ _ _ _ _, ask_rel rfl rfl rfl (fun a w hw hk => ⟨_, run_assign rfl (eval_of rfl), known_rel hk 93 3 0 (.head _) rfl rfl⟩), ?_⟩
      intro w hw
      rintro v0 ⟨L0, hv0, hf0, hm0⟩
      rintro _ rfl
      rintro v2 ⟨L2, hv2, hf2, hm2⟩
      rintro v3 ⟨L3, hv3, hf3, hm3⟩
      rintro v4 ⟨L4, hv4, hf4, hm4⟩
      change wpList _ _ _ _ _ _
      simp only [List.length_cons, List.length_nil, Nat.reduceAdd, Nat.zero_add, List.drop_succ_cons, List.drop_zero, Act.put, List.setIfInBounds_toArray, List.set_cons_succ, List.set_cons_zero]
      clear hw hm0 hv0 hf0 hm2 hv2 hf2 hm3 hv3 hf3 hbu h9 c9 cN
      have hw := hm4
      have hz9 := hv4
      clear hm4 hv4 hf4
      generalize v4 = z9 at *
      generalize L4 = L9 at *
      go_wp2_with (first | (go_at_call 23; refine (vadd (hzt.mono (R' := L9 ++ (Lp ++ (Lt ++ ([(g, cs)] ++ [])))) (by grind)) (hzp.mono (by grind)) c3p cE).use hw sub_all ?_; clear hw; intro w za La hza hfa hw) | (go_at_call 25; refine (vsub (hzt.mono (R' := Lm ++ (La ++ (L9 ++ (Lp ++ (Lt ++ ([(g, cs)] ++ [])))))) (by grind)) (hzp.mono (by grind)) n1).use hw sub_all ?_; clear hw; intro w zs Ls hzs hfs hw) | (have tk := hzs; clear tk; go_at_call 19; refine (vmul hzs hzs cB cB).use hw (fun q h => List.mem_append_left _ h) ?_; clear hw; intro w zq Lq hzq hfq hw) | (go_at_call 19; refine (vmul hza hza cA cA).use hw (fun q h => List.mem_append_left _ h) ?_; clear hw; intro w zm Lm hzm hfm hw) | (have tk := hzq; clear tk; go_at_call 24; refine (vcmp (R := Lq ++ (Ls ++ (Lm ++ (La ++ (L9 ++ (Lp ++ (Lt ++ ([(g, cs)] ++ [])))))))) (hzq.mono (by grind)) (hz9.mono (by grind))).of hw sub_all ?_; clear hw; intro w hw; have q3' := q3.out; generalize cmp3 ((3 * p - 2 * E) * (3 * p - 2 * E)) (9 * N) = c3 at *) | (have tk := q1'; clear tk; go_at_call 24; refine (vcmp (R := Lm ++ (La ++ (L9 ++ (Lp ++ (Lt ++ ([(g, cs)] ++ [])))))) (hzt.mono (by grind)) (hzp.mono (by grind))).of hw sub_all ?_; clear hw; intro w hw; have q2' := q2.out; generalize cmp3 (3 * p) (2 * E) = c2 at *) | (go_at_call 24; refine (vcmp (R := Lm ++ (La ++ (L9 ++ (Lp ++ (Lt ++ ([(g, cs)] ++ [])))))) (hzm.mono (by grind)) (hz9.mono (by grind))).of hw sub_all ?_; clear hw; intro w hw; have q1' := q1.out; generalize cmp3 ((3 * p + 2 * E) * (3 * p + 2 * E)) (9 * N) = c1 at *) | (go_at_call 12; refine (awake16_gives).call0 hw ?_; clear hw; intro w hw))
      go_ret
      exact ⟨rfl, hw.below⟩

theorem law_keeps (n st : Int) (h0 : 0 ≤ n) (h1 : n < M) (hs : (Lit.int .u8 st).wf = true) : Gives Try.prog 5 #[W n, .int .u8 st] [] (.bool true) := by
  have hst : 0 ≤ st ∧ st < 256 := by
    simp [Lit.wf, IntKind.min, IntKind.max, IntKind.signed, IntKind.bits] at hs
    omega
  by_cases hn : n = 0 ∨ 2 ^ 256 ≤ n
  · exact keeps_none n st h0 h1 hn hst
  · exact keeps_some n st (st % 65).toNat (by omega) (by omega) hst (by omega)
end Go.Proofs.Ytcodmeljjphoeaa
