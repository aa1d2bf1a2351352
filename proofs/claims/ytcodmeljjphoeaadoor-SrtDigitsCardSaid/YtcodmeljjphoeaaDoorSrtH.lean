/-
  Reference 11: may two be divided, the quotient, and what is left.
-/
import Derived.Test.YtcodmeljjphoeaaDoorSrtB
import Derived.Test.YtcodmeljjphoeaaDoorDrawB
namespace Go.Proofs.YtcodmeljjphoeaaDoor
open Go.RowKit
set_option exponentiation.threshold 600
set_option linter.unusedVariables false
set_option linter.unusedSimpArgs false

theorem Ok.both {S : Nat → Prop} {w0 w : World} {H R L T : List (Nat × Array Value)} (h : Ok S w0 w H (L ++ R)) (g : Ok S w0 w H (T ++ R)) : Ok S w0 w H (L ++ (T ++ R)) := by
  refine ⟨h.os, h.tape, h.output, h.size, h.old, h.rows, ?_, h.own, h.nd, ?_⟩
  · intro p hp
    rcases List.mem_append.1 hp with hp | hp
    · exact h.reads p (List.mem_append_left _ hp)
    · exact g.reads p hp
  · intro p hp q hq
    rcases List.mem_append.1 hq with hq | hq
    · exact h.ap p hp q (List.mem_append_left _ hq)
    · exact g.ap p hp q hq

/-- A quotient's head: its bits from the i-th on. -/
def qb (Q : Int) (i : Nat) : Int := Q / 2 ^ i * 2 ^ i
theorem qb_zero (Q : Int) : qb Q 0 = Q := by simp [qb]
theorem qb_top {Q : Int} (h0 : 0 ≤ Q) {i : Nat} (h : Q < 2 ^ i) : qb Q i = 0 := by unfold qb; rw [Int.ediv_eq_zero_of_lt h0 h, Int.zero_mul]
theorem qb_step (Q : Int) (i : Nat) : (qb Q (i + 1) + 2 ^ i ≤ Q → qb Q i = qb Q (i + 1) + 2 ^ i) ∧ (¬ qb Q (i + 1) + 2 ^ i ≤ Q → qb Q i = qb Q (i + 1)) := by
  have hp := pow_pos2 i
  have e : Q / 2 ^ (i + 1) = Q / 2 ^ i / 2 := by rw [Int.pow_succ, Int.ediv_ediv_of_nonneg (by omega)]
  have hm := Int.mul_ediv_add_emod Q (2 ^ i)
  have hr0 := Int.emod_nonneg Q (show (2 : Int) ^ i ≠ 0 by omega)
  have hr1 := Int.emod_lt_of_pos Q hp
  unfold qb
  rw [e, Int.pow_succ]
  generalize (2 : Int) ^ i = P at *
  generalize Q % P = r at *
  generalize Q / P = b at *
  have hb : b = 2 * (b / 2) ∨ b = 2 * (b / 2) + 1 := by omega
  generalize b / 2 = c at *
  have e1 : c * (P * 2) = 2 * (c * P) := by rw [← Int.mul_assoc, Int.mul_comm]
  rw [e1]
  rcases hb with rfl | rfl
  · have e2 : 2 * c * P = 2 * (c * P) := Int.mul_assoc 2 c P
    have e3 : P * (2 * c) = 2 * (c * P) := by rw [Int.mul_comm, e2]
    rw [e2]; rw [e3] at hm
    exact ⟨fun h => by omega, fun h => by omega⟩
  · have e2 : (2 * c + 1) * P = 2 * (c * P) + P := by rw [Int.add_mul, Int.mul_assoc, Int.one_mul]
    have e3 : P * (2 * c + 1) = 2 * (c * P) + P := by rw [Int.mul_comm, e2]
    rw [e2]; rw [e3] at hm
    exact ⟨fun h => by omega, fun h => by omega⟩
theorem qb_bds {Q : Int} (h0 : 0 ≤ Q) (i : Nat) : 0 ≤ qb Q i ∧ qb Q i ≤ Q := by
  have hp := pow_pos2 i
  exact ⟨Int.mul_nonneg (Int.ediv_nonneg h0 (by omega)) (by omega), Int.ediv_mul_le Q (by omega)⟩
theorem cmp_le_iff (x y : Int) : decide (cmp3 x y ≤ 0) = decide (x ≤ y) := by
  rw [decide_eq_decide]; unfold cmp3
  by_cases h : x < y
  · rw [if_pos h]; constructor <;> intro _ <;> omega
  · rw [if_neg h]
    by_cases h2 : y < x
    · simp [h2]; try omega
    · simp [h2]; try omega
theorem cmp_ge_iff (x y : Int) : decide (0 ≤ cmp3 x y) = decide (y ≤ x) := by
  rw [decide_eq_decide]; unfold cmp3
  by_cases h : x < y
  · rw [if_pos h]; constructor <;> intro _ <;> omega
  · rw [if_neg h]
    by_cases h2 : y < x
    · simp [h2]; try omega
    · simp [h2]; try omega

set_option maxRecDepth 100000 in
set_option maxHeartbeats 1000000 in
theorem quot11_calls {n d : Int} (h0 : 0 ≤ n) (h1 : n < M) (hd0 : 0 < d) (hd1 : d < 2 ^ 120) (hq : n < d * 2 ^ 128) {R : List (Nat × Array Value)} {zn zd : Value} (hzn : BigV R zn n) (hzd : BigV R zd d) :
    GivesB 70 #[zn, zd] R (n / d) := by
  intro w0 w R' hR hw
  have hzn := hzn.mono hR
  have hzd := hzd.mono hR
  clear hR
  have hQ0 : 0 ≤ n / d := Int.ediv_nonneg h0 (by omega)
  have hQ1 : n / d < 2 ^ 128 := Int.ediv_lt_of_lt_mul hd0 (by rw [Int.mul_comm]; exact hq)
  have hQ2 : n / d < 2 ^ 131 := Int.lt_trans hQ1 (by rw [show (131 : Nat) = 3 + 128 by rfl, Int.pow_add]; have := pow_pos2 128; omega)
  have htop := qb_top hQ0 hQ2
  have cd : d < Cap := cap_of hd1 (by omega)
  have hle : ∀ x : Int, (x * d ≤ n ↔ x ≤ n / d) := fun x => (Int.le_ediv_iff_mul_le hd0).symm
  have hstep := qb_step (n / d)
  have hbd := fun i => qb_bds hQ0 i
  have Hz := Lib.hid (qb_zero (n / d))
  generalize n / d = Q at *
  have hQ3 : Q < 2 ^ 132 := Int.lt_trans hQ2 (by rw [show (132 : Nat) = 1 + 131 by rfl, Int.pow_add]; have := pow_pos2 131; omega)
  clear h0 h1 hd0 hd1 hq hQ2
  go_enter Tryd.func70, Tryd.ntmps70
  go_wp2_with (refine ok_build0 hw rfl _ _ rfl Tryd.underlying36 one_u32 ?_; clear hw; intro k2 w hw)
  go_loopw [6, 5] (fun a b wr => ∃ (t : Int) (i : Nat) (L : List (Nat × Array Value)), i ≤ 131 ∧ Hid (t + 1 = (i : Int)) ∧ a = .int .i64 t ∧ BigV L b (qb Q i) ∧ Fresh w0 L ∧ Ok Non w0 wr [] (L ++ R')) (fun a _ _ => (intOf a + 1).toNat)
  case atStart => exact ⟨130, 131, [], by omega, Lib.hid rfl, rfl, by rw [htop]; exact bigv_nil _ _ _, fresh_nil _, hw⟩
  case round =>
    clear hw htop
    obtain ⟨t, i, L, hi, ht, rfl, hb, hf, hw⟩ := hrel
    by_cases hz : i = 0
    · subst hz
      have e : t = -1 := by have := ht.out; omega
      subst e
      rw [Hz.out] at hb
      clear hstep hbd hle
      go_wp2_with fail
      go_ret
      exact ⟨_, L, rfl, hb, hf, hw⟩
    · obtain ⟨j, rfl⟩ : ∃ j, i = j + 1 := ⟨i - 1, by omega⟩
      have ht1 : t = (j : Int) := by have := ht.out; omega
      have hp := bpower_calls (k := t) j ht1 (by omega)
      have Ht := Lib.hid ht1
      have Hwt := Lib.hid (show wrap64 (t - 1) = t - 1 by unfold wrap64; omega)
      have ht0 : decide (0 ≤ t) = true := decide_eq_true (by omega)
      have hs1 := (hstep j).1
      have hs2 := (hstep j).2
      have hb1 := (hbd (j + 1)).1
      have hb2 := (hbd (j + 1)).2
      have hpp := pow_pos2 j
      have hpc : (2 : Int) ^ j ≤ 2 ^ 130 := pow_mono2 (by omega)
      have e131 : (2 : Int) ^ 132 = 4 * 2 ^ 130 := by rw [show 132 = 2 + 130 by rfl, Int.pow_add]; rfl
      have e133 : (2 : Int) ^ 133 = 2 * 2 ^ 132 := by rw [show 133 = 1 + 132 by rfl, Int.pow_add]; rfl
      have c1 : qb Q (j + 1) < Cap := cap_of (k := 133) (by omega) (by omega)
      have c2 : (2 : Int) ^ j < Cap := cap_of (k := 133) (by omega) (by omega)
      have c3 : qb Q (j + 1) + 2 ^ j < Cap := cap_of (k := 133) (by omega) (by omega)
      have hle' := hle (qb Q (j + 1) + 2 ^ j)
      have hj : j ≤ 131 := by omega
      clear hle hstep hbd hb1 hb2 hpp hpc e131 e133 hQ0 hQ1 hQ3 ht1 hz ht hi
      generalize (2 : Int) ^ j = P at *
      generalize hqj : qb Q j = q' at *
      generalize qb Q (j + 1) = q at *
      have Hqj := Lib.hid hqj
      clear hqj
      by_cases hc : (q + P) * d ≤ n
      · have q1 := Lib.hid (show decide (cmp3 ((q + P) * d) n ≤ 0) = true by rw [cmp_le_iff]; exact decide_eq_true hc)
        have e := Lib.hid (hs1 (hle'.1 hc))
        clear hs1 hs2 hle' hc
        go_wp2_with (first | (go_at_call 87; refine hp.use hw (by simp) ?_; clear hw; intro w zp Lp hzp hfp hw) | (go_at_call 46; refine (vadd (hb.mono (R' := Lp ++ (L ++ R')) (by grind)) (hzp.mono (by grind)) c1 c2).use hw sub_all ?_; clear hw; intro w za La hza hfa hw) | (go_at_call 22; refine (vmul (hza.mono (R' := La ++ (Lp ++ (L ++ R'))) (by grind)) (hzd.mono (by grind)) c3 cd).use hw sub_all ?_; clear hw; intro w zm Lm hzm hfm hw) | (go_at_call 20; refine (vcmp (hzm.mono (R' := Lm ++ (La ++ (Lp ++ (L ++ R')))) (by grind)) (hzn.mono (by grind))).of hw sub_all ?_; clear hw; intro w hw; have q1' := q1.out; generalize cmp3 ((q + P) * d) n = c at *))
        exact ⟨⟨t - 1, j, La, hj, Lib.hid (by have := Ht.out; omega), by rw [Hwt.out], by rw [Hqj.out, e.out]; exact hza, hfa, hw.sub (List.Sublist.refl _) (by grind)⟩, by have := Ht.out; have := Hwt.out; simp [intOf]; omega⟩
      · have q1 := Lib.hid (show decide (cmp3 ((q + P) * d) n ≤ 0) = false by rw [cmp_le_iff]; exact decide_eq_false hc)
        have e := Lib.hid (hs2 (Int.not_le.1 fun h => hc (hle'.2 h)))
        clear hs1 hs2 hle' hc
        go_wp2_with (first | (go_at_call 87; refine hp.use hw (by simp) ?_; clear hw; intro w zp Lp hzp hfp hw) | (go_at_call 46; refine (vadd (hb.mono (R' := Lp ++ (L ++ R')) (by grind)) (hzp.mono (by grind)) c1 c2).use hw sub_all ?_; clear hw; intro w za La hza hfa hw) | (go_at_call 22; refine (vmul (hza.mono (R' := La ++ (Lp ++ (L ++ R'))) (by grind)) (hzd.mono (by grind)) c3 cd).use hw sub_all ?_; clear hw; intro w zm Lm hzm hfm hw) | (go_at_call 20; refine (vcmp (hzm.mono (R' := Lm ++ (La ++ (Lp ++ (L ++ R')))) (by grind)) (hzn.mono (by grind))).of hw sub_all ?_; clear hw; intro w hw; have q1' := q1.out; generalize cmp3 ((q + P) * d) n = c at *))
        exact ⟨⟨t - 1, j, L, hj, Lib.hid (by have := Ht.out; omega), by rw [Hwt.out], by rw [Hqj.out, e.out]; exact hb, hf, hw.sub (List.Sublist.refl _) (by grind)⟩, by have := Ht.out; have := Hwt.out; simp [intOf]; omega⟩
end Go.Proofs.YtcodmeljjphoeaaDoor
