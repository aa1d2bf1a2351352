/-
  Layer 14: the next digit of a root.
-/
import Derived.Test.YtcodmeljjphoeaaTableA
namespace Go.Proofs.Ytcodmeljjphoeaa
open Go.RowKit
set_option linter.unusedVariables false
set_option linter.unusedSimpArgs false

/-- What a digit's square counts at a step. -/
def sqv (j n : Int) : Int := if j = 0 then 4 * n else if j = 1 then n else if j = 2 then n / 4 else 0
theorem tsquare_gives (j n : Int) (h0 : 0 ≤ n) (h1 : n < 1000) : Gives Try.prog 136 #[.int .i64 j, .int .i64 n] [] (.int .i64 (sqv j n)) := by
  refine .mk fun w0 w hw => ?_
  by_cases h : j = 0
  · subst h
    rw [show sqv 0 n = 4 * n from rfl]
    go_enter Try.func136, Try.ntmps136
    go_wp2
    go_ret
    exact ⟨by go_num, hw.below⟩
  · by_cases h' : j = 1
    · subst h'
      rw [show sqv 1 n = n from rfl]
      go_enter Try.func136, Try.ntmps136
      go_wp2
      go_ret
      exact ⟨by go_num, hw.below⟩
    · by_cases h2 : j = 2
      · subst h2
        rw [show sqv 2 n = n / 4 from rfl]
        go_enter Try.func136, Try.ntmps136
        go_wp2
        go_ret
        exact ⟨by go_num, hw.below⟩
      · rw [show sqv j n = 0 by unfold sqv; rw [if_neg h, if_neg h', if_neg h2]]
        go_enter Try.func136, Try.ntmps136
        go_wp2
        go_ret
        exact ⟨by go_num, hw.below⟩

/-- The bounds of a root's step. -/
def rb (j s : Int) (i : Nat) : Int := (2 * (2 - (i : Int)) - 1) * s + sqv j ((2 * (2 - (i : Int)) - 1) * (2 * (2 - (i : Int)) - 1))
theorem ints4_set (b : Nat → Int) {i : Nat} (h : i < 4) (v : Int) : (ints4 b).setIfInBounds i (.int .i64 v) = ints4 (fun m => if m = i then v else b m) := by
  have : i = 0 ∨ i = 1 ∨ i = 2 ∨ i = 3 := by omega
  rcases this with rfl | rfl | rfl | rfl <;> rfl
theorem ints4_ext {b c : Nat → Int} (h : ∀ i, i < 4 → b i = c i) : ints4 b = ints4 c := by
  unfold ints4; rw [h 0 (by omega), h 1 (by omega), h 2 (by omega), h 3 (by omega)]
theorem sqv_bd (j n : Int) (h0 : 0 ≤ n) : 0 ≤ sqv j n ∧ sqv j n ≤ 4 * n := by
  unfold sqv; split
  · omega
  · split
    · omega
    · split <;> omega

set_option maxRecDepth 10000 in
theorem rootbounds_gives (j s : Int) (hj : 0 ≤ j) (hs0 : 28 ≤ s) (hs1 : s ≤ 64) : Gives Try.prog 116 #[.int .i64 j, .int .i64 s] [] (.tuple #[.agg (ints4 (rb j s)), .bool true]) := by
  refine .mk fun w0 w hw => ?_
  go_enter Try.func116, Try.ntmps116
  go_wp2_with (first | (refine ok_alloc (H := []) hw rfl 74 rfl _ zero_ints4 ?_; clear hw; intro k1 w hw) | (refine ok_alloc (H := [_]) hw rfl 74 rfl _ zero_ints4 ?_; clear hw; intro k2 w hw))
  go_loopw [20] (fun v wr => ∃ i : Nat, i ≤ 4 ∧ v = .int .i64 i ∧ Ok Non w0 wr [(k2, ints4 fun m => if m < i then rb j s m else 0), (k1, ints4 fun _ => 0)] []) (fun v _ => 4 - (intOf v).toNat)
  case atStart => exact ⟨0, by omega, rfl, by simpa using hw⟩
  case round =>
    clear hw
    obtain ⟨i, hi, rfl, hw⟩ := hrel
    by_cases hlt : i < 4
    · have hst := ints4_set (fun m => if m < i then rb j s m else 0) hlt (rb j s i)
      have hst2 : ints4 (fun m => if m = i then rb j s i else (fun m => if m < i then rb j s m else 0) m) = ints4 (fun m => if m < i + 1 then rb j s m else 0) := ints4_ext fun m _ => by
        by_cases h : m = i
        · subst h; simp
        · by_cases h2 : m < i
          · simp [h, h2, show m < i + 1 by omega]
          · simp [h, h2, show ¬ m < i + 1 by omega]
      rw [hst2] at hst
      have hst' := Lib.hid hst
      clear hst hst2
      have hs1' := sqv_bd j 1 (by omega)
      have hs9' := sqv_bd j 9 (by omega)
      have q1 := tsquare_gives j 1 (by omega) (by omega)
      have q9 := tsquare_gives j 9 (by omega) (by omega)
      have : i = 0 ∨ i = 1 ∨ i = 2 ∨ i = 3 := by omega
      rcases this with rfl | rfl | rfl | rfl
      · have hv : rb j s 0 = 3 * s + sqv j 9 := by simp [rb]
        rw [hv] at hst'
        clear hv
        go_wp2_with (first | (go_at_call 136; refine q9.call0 hw ?_; clear hw; intro w hw) | (refine int_store hw rfl 3 _ _ rfl _ _ rfl _ _ rfl one_int _ (.head _) (by simp [size_ints4]) ?_; clear hw; intro w hw; have hw : Ok Non w0 w [(k2, ints4 fun m => if m < 1 then rb j s m else 0), (k1, ints4 fun _ => 0)] [] := (by rw [← hst'.out]; exact hw)))
        exact ⟨⟨1, by omega, by go_num, hw⟩, by simp [intOf]⟩
      · have hv : rb j s 1 = s + sqv j 1 := by simp [rb]
        rw [hv] at hst'
        clear hv
        go_wp2_with (first | (go_at_call 136; refine q1.call0 hw ?_; clear hw; intro w hw) | (refine int_store hw rfl 3 _ _ rfl _ _ rfl _ _ rfl one_int _ (.head _) (by simp [size_ints4]) ?_; clear hw; intro w hw; have hw : Ok Non w0 w [(k2, ints4 fun m => if m < 2 then rb j s m else 0), (k1, ints4 fun _ => 0)] [] := (by rw [← hst'.out]; exact hw)))
        exact ⟨⟨2, by omega, by go_num, hw⟩, by simp [intOf]⟩
      · have hv : rb j s 2 = -s + sqv j 1 := by simp [rb]
        rw [hv] at hst'
        clear hv
        go_wp2_with (first | (go_at_call 136; refine q1.call0 hw ?_; clear hw; intro w hw) | (refine int_store hw rfl 3 _ _ rfl _ _ rfl _ _ rfl one_int _ (.head _) (by simp [size_ints4]) ?_; clear hw; intro w hw; have hw : Ok Non w0 w [(k2, ints4 fun m => if m < 3 then rb j s m else 0), (k1, ints4 fun _ => 0)] [] := (by rw [← hst'.out]; exact hw)))
        exact ⟨⟨3, by omega, by go_num, hw⟩, by simp [intOf]⟩
      · have hv : rb j s 3 = -3 * s + sqv j 9 := by simp [rb]
        rw [hv] at hst'
        clear hv
        go_wp2_with (first | (go_at_call 136; refine q9.call0 hw ?_; clear hw; intro w hw) | (refine int_store hw rfl 3 _ _ rfl _ _ rfl _ _ rfl one_int _ (.head _) (by simp [size_ints4]) ?_; clear hw; intro w hw; have hw : Ok Non w0 w [(k2, ints4 fun m => if m < 4 then rb j s m else 0), (k1, ints4 fun _ => 0)] [] := (by rw [← hst'.out]; exact hw)))
        exact ⟨⟨4, by omega, by go_num, hw⟩, by simp [intOf]⟩
    · have h4 : i = 4 := by omega
      subst h4
      have he : (ints4 fun m => if m < 4 then rb j s m else 0) = ints4 (rb j s) := ints4_ext fun m hm => by rw [if_pos hm]
      rw [he] at hw
      clear he
      go_wp2_with (first | (refine ok_load hw rfl 74 _ rfl _ rfl _ agg_ints4 _ (by first | (apply Has.own; (repeat (first | assumption | exact List.mem_cons_self | apply List.mem_cons_of_mem)); done) | (apply Has.read; (repeat (first | assumption | exact List.mem_cons_self | apply List.mem_cons_of_mem)); done)) (by simp) ?_) | (refine ok_store hw rfl 74 _ _ rfl _ rfl _ rfl _ agg_ints4 _ (by repeat (first | exact At.head _ | apply At.tail)) (by simp) (by simp) (ones_ints4 _) ?_; clear hw; intro w hw))
      refine ret_ct rfl rfl rfl agg_ints4 (hw.rows _ (.tail _ (.head _))) (by simp [size_ints4]) rfl ⟨rfl, hw.below⟩

set_option maxRecDepth 10000 in
theorem rootdigit_gives (j s y : Int) (hj : 0 ≤ j) (hs0 : 28 ≤ s) (hs1 : s ≤ 64) : Gives Try.prog 77 #[.int .i64 j, .int .i64 s, .int .i64 y] [] (.tuple #[.int .i64 (pickv (rb j s) y), .bool true]) := by
  refine .mk fun w0 w hw => ?_
  have hb := rootbounds_gives j s hj hs0 hs1
  have hp := pick_gives (rb j s) y
  go_enter Try.func77, Try.ntmps77
  go_wp2_with (first | (refine ok_alloc (H := []) hw rfl 74 rfl _ zero_ints4 ?_; clear hw; intro k1 w hw) | (refine ok_load hw rfl 74 _ rfl _ rfl _ agg_ints4 _ (by first | (apply Has.own; (repeat (first | assumption | exact List.mem_cons_self | apply List.mem_cons_of_mem)); done) | (apply Has.read; (repeat (first | assumption | exact List.mem_cons_self | apply List.mem_cons_of_mem)); done)) (by simp) ?_) | (refine ok_store hw rfl 74 _ _ rfl _ rfl _ rfl _ agg_ints4 _ (by repeat (first | exact At.head _ | apply At.tail)) (by simp) (by simp) (ones_ints4 _) ?_; clear hw; intro w hw) | (go_at_call 116; refine hb.call0 hw ?_; clear hw; intro w hw) | (go_at_call 117; refine hp.call0 hw ?_; clear hw; intro w hw))
  go_ret2
  exact ⟨rfl, hw.below⟩
end Go.Proofs.Ytcodmeljjphoeaa
