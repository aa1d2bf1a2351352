/-
  The references' table of a root's digits.
-/
import Derived.Test.YtcodmeljjphoeaaBigP
import Derived.Test.YtcodmeljjphoeaaTable
namespace Go.Proofs.Ytcodmeljjphoeaa
open Go.RowKit
set_option linter.unusedVariables false
set_option linter.unusedSimpArgs false

theorem sqv_div (j : Nat) {n : Int} (h0 : 0 ≤ n) (h : n < 16) : sqv j n = 4 * n / 4 ^ j := by
  unfold sqv
  match j with
  | 0 => simp
  | 1 => rw [if_neg (by omega), if_pos (by omega)]; simp
  | 2 => rw [if_neg (by omega), if_neg (by omega), if_pos (by omega)]; show n / 4 = 4 * n / 16; omega
  | j + 3 =>
    rw [if_neg (by omega), if_neg (by omega), if_neg (by omega)]
    have h1 : (4 : Int) ^ (j + 3) = 4 ^ j * 64 := by rw [Int.pow_add]; rfl
    have h2 : (0 : Int) < 4 ^ j := Int.pow_pos (by omega)
    rw [Int.ediv_eq_zero_of_lt (by omega) (by omega)]
theorem quart_step (Q : Int) (n : Nat) : Q / 4 ^ n / 4 = Q / 4 ^ (n + 1) := by
  rw [Int.pow_succ, Int.ediv_ediv_of_nonneg (Int.le_of_lt (Int.pow_pos (by omega)))]
theorem quart_zero {Q : Int} (h0 : 0 ≤ Q) {n j : Nat} (h : n ≤ j) (hz : Q / 4 ^ n = 0) : Q / 4 ^ j = 0 := by
  obtain ⟨d, rfl⟩ : ∃ d, j = n + d := ⟨j - n, by omega⟩
  rw [Int.pow_add, ← Int.ediv_ediv_of_nonneg (Int.le_of_lt (Int.pow_pos (by omega))), hz]
  simp

set_option maxRecDepth 100000 in
set_option maxHeartbeats 4000000 in
theorem rootbounds14_gives (j : Nat) (s : Int) (hj : j ≤ 1000) (hs0 : 0 ≤ s) (hs1 : s ≤ 1000) : Gives Try.prog 47 #[.int .i64 j, .int .i64 s] [] (.agg (ints4 (rb j s))) := by
  refine .mk fun w0 w hw => ?_
  go_enter Try.func47, Try.ntmps47
  go_wp2_with (first | (refine ok_alloc (H := []) hw rfl 74 rfl _ zero_ints4 ?_; clear hw; intro k1 w hw) | (refine ok_alloc (H := [_]) hw rfl 74 rfl _ zero_ints4 ?_; clear hw; intro k2 w hw))
  go_loopw [6] (fun v wr => ∃ i : Nat, i ≤ 4 ∧ v = .int .i64 i ∧ Ok Non w0 wr [(k2, ints4 fun m => if m < i then rb j s m else 0), (k1, ints4 fun _ => 0)] []) (fun v _ => 4 - (intOf v).toNat)
  case atStart => exact ⟨0, by omega, rfl, by simpa using hw⟩
  case round =>
    clear hw
    obtain ⟨i, hi, rfl, hw⟩ := hrel
    by_cases hlt : i < 4
    · have hst := ints4_set (fun m => if m < i then rb j s m else 0) hlt (rb j s i)
      have hst2 : ints4 (fun m => if m = i then rb j s i else (fun m => if m < i then rb j s m else 0) m) = ints4 (fun m => if m < i + 1 then rb j s m else 0) := ints4_ext fun m _ => by
        by_cases h : m = i
        · subst h; simp
        · by_cases h2 : m < i
          · simp [h, h2, show m < i + 1 by omega]
          · simp [h, h2, show ¬ m < i + 1 by omega]
      rw [hst2] at hst
      have hst' := Lib.hid hst
      clear hst hst2
      have : i = 0 ∨ i = 1 ∨ i = 2 ∨ i = 3 := by omega
      rcases this with rfl | rfl | rfl | rfl
      · have hv : rb j s 0 = 3 * s + 36 / 4 ^ j := by
          have := sqv_div j (n := 9) (by omega) (by omega)
          simp [rb, this]
        rw [hv] at hst'
        clear hv
        go_wp2_with fail
        go_loopw [9, 8] (fun a b wr => ∃ (n : Nat) (q : Int), n ≤ j ∧ a = .int .i64 n ∧ b = .int .i64 q ∧ 0 ≤ q ∧ q ≤ 36 ∧ Hid (q = 36 / 4 ^ n) ∧ Ok Non w0 wr [(k2, ints4 fun m => if m < 0 then rb j s m else 0), (k1, ints4 fun _ => 0)] []) (fun a _ _ => j - (intOf a).toNat)
        case atStart => exact ⟨0, 36, by omega, rfl, rfl, by omega, by omega, Lib.hid (by simp), hw⟩
        case round =>
          clear hw
          obtain ⟨n, q, hn, rfl, rfl, hq0, hq1, hqn, hw⟩ := hrel
          by_cases hc : n < j ∧ 0 < q
          · have hnx := Lib.hid (show q / 4 = 36 / 4 ^ (n + 1) by rw [hqn.out, quart_step])
            obtain ⟨hc1, hc2⟩ := hc
            clear hqn
            go_wp2_with fail
            exact ⟨⟨n + 1, q / 4, by omega, by go_num, by go_num, by omega, by omega, hnx, hw⟩, by simp [intOf]; omega⟩
          · have hqj : q = 36 / 4 ^ j := by
              by_cases h : n = j
              · rw [← h]; exact hqn.out
              · have hz : q = 0 := by omega
                rw [quart_zero (by omega) hn (by rw [← hqn.out]; exact hz)]; exact hz
            rw [← hqj] at hst'
            clear hqj hqn
            by_cases hnj : n < j
            · have hz : q = 0 := by omega
              subst hz
              rw [Int.add_zero] at hst'
              go_wp2_with (first | (refine int_store hw rfl 3 _ _ rfl _ _ rfl _ _ rfl one_int _ (.head _) (by simp [size_ints4]) ?_; clear hw; intro w hw))
              exact ⟨⟨1, by omega, by go_num, by rw [← hst'.out]; exact hw⟩, by simp [intOf]⟩
            · have hnj2 : n = j := by omega
              subst hnj2
              go_wp2_with (first | (refine int_store hw rfl 3 _ _ rfl _ _ rfl _ _ rfl one_int _ (.head _) (by simp [size_ints4]) ?_; clear hw; intro w hw))
              exact ⟨⟨1, by omega, by go_num, by rw [← hst'.out]; exact hw⟩, by simp [intOf]⟩
      · have hv : rb j s 1 = s + 4 / 4 ^ j := by
          have := sqv_div j (n := 1) (by omega) (by omega)
          simp [rb, this]
        rw [hv] at hst'
        clear hv
        go_wp2_with fail
        go_loopw [9, 8] (fun a b wr => ∃ (n : Nat) (q : Int), n ≤ j ∧ a = .int .i64 n ∧ b = .int .i64 q ∧ 0 ≤ q ∧ q ≤ 4 ∧ Hid (q = 4 / 4 ^ n) ∧ Ok Non w0 wr [(k2, ints4 fun m => if m < 1 then rb j s m else 0), (k1, ints4 fun _ => 0)] []) (fun a _ _ => j - (intOf a).toNat)
        case atStart => exact ⟨0, 4, by omega, rfl, rfl, by omega, by omega, Lib.hid (by simp), hw⟩
        case round =>
          clear hw
          obtain ⟨n, q, hn, rfl, rfl, hq0, hq1, hqn, hw⟩ := hrel
          by_cases hc : n < j ∧ 0 < q
          · have hnx := Lib.hid (show q / 4 = 4 / 4 ^ (n + 1) by rw [hqn.out, quart_step])
            obtain ⟨hc1, hc2⟩ := hc
            clear hqn
            go_wp2_with fail
            exact ⟨⟨n + 1, q / 4, by omega, by go_num, by go_num, by omega, by omega, hnx, hw⟩, by simp [intOf]; omega⟩
          · have hqj : q = 4 / 4 ^ j := by
              by_cases h : n = j
              · rw [← h]; exact hqn.out
              · have hz : q = 0 := by omega
                rw [quart_zero (by omega) hn (by rw [← hqn.out]; exact hz)]; exact hz
            rw [← hqj] at hst'
            clear hqj hqn
            by_cases hnj : n < j
            · have hz : q = 0 := by omega
              subst hz
              rw [Int.add_zero] at hst'
              go_wp2_with (first | (refine int_store hw rfl 3 _ _ rfl _ _ rfl _ _ rfl one_int _ (.head _) (by simp [size_ints4]) ?_; clear hw; intro w hw))
              exact ⟨⟨2, by omega, by go_num, by rw [← hst'.out]; exact hw⟩, by simp [intOf]⟩
            · have hnj2 : n = j := by omega
              subst hnj2
              go_wp2_with (first | (refine int_store hw rfl 3 _ _ rfl _ _ rfl _ _ rfl one_int _ (.head _) (by simp [size_ints4]) ?_; clear hw; intro w hw))
              exact ⟨⟨2, by omega, by go_num, by rw [← hst'.out]; exact hw⟩, by simp [intOf]⟩
      · have hv : rb j s 2 = -s + 4 / 4 ^ j := by
          have := sqv_div j (n := 1) (by omega) (by omega)
          simp [rb, this]
        rw [hv] at hst'
        clear hv
        go_wp2_with fail
        go_loopw [9, 8] (fun a b wr => ∃ (n : Nat) (q : Int), n ≤ j ∧ a = .int .i64 n ∧ b = .int .i64 q ∧ 0 ≤ q ∧ q ≤ 4 ∧ Hid (q = 4 / 4 ^ n) ∧ Ok Non w0 wr [(k2, ints4 fun m => if m < 2 then rb j s m else 0), (k1, ints4 fun _ => 0)] []) (fun a _ _ => j - (intOf a).toNat)
        case atStart => exact ⟨0, 4, by omega, rfl, rfl, by omega, by omega, Lib.hid (by simp), hw⟩
        case round =>
          clear hw
          obtain ⟨n, q, hn, rfl, rfl, hq0, hq1, hqn, hw⟩ := hrel
          by_cases hc : n < j ∧ 0 < q
          · have hnx := Lib.hid (show q / 4 = 4 / 4 ^ (n + 1) by rw [hqn.out, quart_step])
            obtain ⟨hc1, hc2⟩ := hc
            clear hqn
            go_wp2_with fail
            exact ⟨⟨n + 1, q / 4, by omega, by go_num, by go_num, by omega, by omega, hnx, hw⟩, by simp [intOf]; omega⟩
          · have hqj : q = 4 / 4 ^ j := by
              by_cases h : n = j
              · rw [← h]; exact hqn.out
              · have hz : q = 0 := by omega
                rw [quart_zero (by omega) hn (by rw [← hqn.out]; exact hz)]; exact hz
            rw [← hqj] at hst'
            clear hqj hqn
            by_cases hnj : n < j
            · have hz : q = 0 := by omega
              subst hz
              rw [Int.add_zero] at hst'
              go_wp2_with (first | (refine int_store hw rfl 3 _ _ rfl _ _ rfl _ _ rfl one_int _ (.head _) (by simp [size_ints4]) ?_; clear hw; intro w hw))
              exact ⟨⟨3, by omega, by go_num, by rw [← hst'.out]; exact hw⟩, by simp [intOf]⟩
            · have hnj2 : n = j := by omega
              subst hnj2
              go_wp2_with (first | (refine int_store hw rfl 3 _ _ rfl _ _ rfl _ _ rfl one_int _ (.head _) (by simp [size_ints4]) ?_; clear hw; intro w hw))
              exact ⟨⟨3, by omega, by go_num, by rw [← hst'.out]; exact hw⟩, by simp [intOf]⟩
      · have hv : rb j s 3 = -3 * s + 36 / 4 ^ j := by
          have := sqv_div j (n := 9) (by omega) (by omega)
          simp [rb, this]
        rw [hv] at hst'
        clear hv
        go_wp2_with fail
        go_loopw [9, 8] (fun a b wr => ∃ (n : Nat) (q : Int), n ≤ j ∧ a = .int .i64 n ∧ b = .int .i64 q ∧ 0 ≤ q ∧ q ≤ 36 ∧ Hid (q = 36 / 4 ^ n) ∧ Ok Non w0 wr [(k2, ints4 fun m => if m < 3 then rb j s m else 0), (k1, ints4 fun _ => 0)] []) (fun a _ _ => j - (intOf a).toNat)
        case atStart => exact ⟨0, 36, by omega, rfl, rfl, by omega, by omega, Lib.hid (by simp), hw⟩
        case round =>
          clear hw
          obtain ⟨n, q, hn, rfl, rfl, hq0, hq1, hqn, hw⟩ := hrel
          by_cases hc : n < j ∧ 0 < q
          · have hnx := Lib.hid (show q / 4 = 36 / 4 ^ (n + 1) by rw [hqn.out, quart_step])
            obtain ⟨hc1, hc2⟩ := hc
            clear hqn
            go_wp2_with fail
            exact ⟨⟨n + 1, q / 4, by omega, by go_num, by go_num, by omega, by omega, hnx, hw⟩, by simp [intOf]; omega⟩
          · have hqj : q = 36 / 4 ^ j := by
              by_cases h : n = j
              · rw [← h]; exact hqn.out
              · have hz : q = 0 := by omega
                rw [quart_zero (by omega) hn (by rw [← hqn.out]; exact hz)]; exact hz
            rw [← hqj] at hst'
            clear hqj hqn
            by_cases hnj : n < j
            · have hz : q = 0 := by omega
              subst hz
              rw [Int.add_zero] at hst'
              go_wp2_with (first | (refine int_store hw rfl 3 _ _ rfl _ _ rfl _ _ rfl one_int _ (.head _) (by simp [size_ints4]) ?_; clear hw; intro w hw))
              exact ⟨⟨4, by omega, by go_num, by rw [← hst'.out]; exact hw⟩, by simp [intOf]⟩
            · have hnj2 : n = j := by omega
              subst hnj2
              go_wp2_with (first | (refine int_store hw rfl 3 _ _ rfl _ _ rfl _ _ rfl one_int _ (.head _) (by simp [size_ints4]) ?_; clear hw; intro w hw))
              exact ⟨⟨4, by omega, by go_num, by rw [← hst'.out]; exact hw⟩, by simp [intOf]⟩
    · have h4 : i = 4 := by omega
      subst h4
      have he : (ints4 fun m => if m < 4 then rb j s m else 0) = ints4 (rb j s) := ints4_ext fun m hm => by rw [if_pos hm]
      rw [he] at hw
      clear he
      go_wp2_with (first | (refine ok_load hw rfl 74 _ rfl _ rfl _ agg_ints4 _ (by first | (apply Has.own; (repeat (first | assumption | exact List.mem_cons_self | apply List.mem_cons_of_mem)); done) | (apply Has.read; (repeat (first | assumption | exact List.mem_cons_self | apply List.mem_cons_of_mem)); done)) (by simp) ?_) | (refine ok_store hw rfl 74 _ _ rfl _ rfl _ rfl _ agg_ints4 _ (by repeat (first | exact At.head _ | apply At.tail)) (by simp) (by simp) (ones_ints4 _) ?_; clear hw; intro w hw))
      refine ret_c rfl rfl agg_ints4 (hw.rows _ (.tail _ (.head _))) (by simp [size_ints4]) rfl ⟨rfl, hw.below⟩
end Go.Proofs.Ytcodmeljjphoeaa
