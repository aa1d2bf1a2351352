/-
  Layer 16: the run of all steps.
-/
import Derived.Test.YtcodmeljjphoeaaWideS
import Derived.Test.YtcodmeljjphoeaaRootA
import Derived.Test.YtcodmeljjphoeaaRootLaw
import Derived.Test.YtcodmeljjphoeaaList
import Derived.WalkMore
namespace Go.Proofs.Ytcodmeljjphoeaa
open Go.RowKit
set_option linter.unusedVariables false
set_option linter.unusedSimpArgs false

/-- A step's function, called with a digit and what it leads to: what it keeps ('I') goes on, or it stops. -/
def StepC (f : FuncId) (caps : Array Value) (args : Array Value) (I I' : List (Nat × Array Value) → Prop) (go : Bool) : Prop :=
  ∀ (S : Nat → Prop) (w0 w : World) (T H R : List (Nat × Array Value)), I T → Ok S w0 w (T ++ H) R →
    Calls Try.prog f (args ++ caps) w fun e w' => e = .returned (.bool go) ∧ ∃ T', I' T' ∧ Ok S w0 w' (T' ++ H) R

theorem next_eq (N p d : Int) (t : Nat) : (N - p * p) - p * 2 ^ (t + 1) * d - 2 ^ (2 * t) * (d * d) = N - (p + 2 ^ t * d) * (p + 2 ^ t * d) := by
  rw [Int.pow_succ, show 2 * t = t + t by omega, Int.pow_add]
  grind

theorem left_in {N p : Int} {j : Nat} (h0 : 2 ^ 254 ≤ N) (h1 : N < 2 ^ 256) (h : Kept N p j) : -HM ≤ N - p * p ∧ N - p * p < HM := by
  have hp := pow_pos2 127
  have h254 := pow_pos2 254
  have a := h.lo
  have b := h.hi
  have m := Int.mul_le_mul b b (by omega) (by have := pow_pos2 128; omega)
  have n : 0 ≤ p * p := Int.mul_nonneg (by omega) (by omega)
  rw [← Int.pow_add, show 128 + 128 = 256 by rfl] at m
  have c : (2 : Int) ^ 256 ≤ HM := pow_mono2 (by omega)
  omega
theorem shl_in {N p : Int} {j : Nat} (h : Kept N p j) (t : Nat) (ht : t ≤ 126) : p * 2 ^ (t + 1) < M := by
  have b := h.hi
  have m := Int.mul_le_mul_of_nonneg_right b (show 0 ≤ (2 : Int) ^ (t + 1) by have := pow_pos2 (t + 1); omega)
  rw [← Int.pow_add] at m
  have := pow_in (show 128 + (t + 1) < 512 by omega)
  omega

set_option maxRecDepth 100000 in
set_option maxHeartbeats 1000000 in
theorem run_calls (N : Int) (h0 : 2 ^ 254 ≤ N) (h1 : N < 2 ^ 256) (f : FuncId) (hf : HasBody Try.prog f) (caps : Array Value) (I : Nat → List (Nat × Array Value) → Prop) (stop : Nat) (hst : stop ≤ 64)
    (hgo : ∀ j : Nat, j < stop → StepC f caps #[.int .i64 j, .int .i64 (rd N j), .agg (two (rp N (j + 1)) (N - rp N (j + 1) * rp N (j + 1)))] (I j) (I (j + 1)) true)
    (hno : stop < 64 → StepC f caps #[.int .i64 stop, .int .i64 (rd N stop), .agg (two (rp N (stop + 1)) (N - rp N (stop + 1) * rp N (stop + 1)))] (I stop) (I stop) false)
    (S : Nat → Prop) (w0 w : World) (T H R : List (Nat × Array Value)) (hI : I 0 T) (hw : Ok S w0 w (T ++ H) R) :
    Calls Try.prog 40 #[W N, .func (.func f) #[] caps] w fun e w' => e = .returned (.tuple #[]) ∧ ∃ T', I stop T' ∧ Ok S w0 w' (T' ++ H) R := by
  have Hgo := Lib.hid hgo
  have Hno := Lib.hid hno
  have HI := Lib.hid hI
  clear hgo hno hI
  have hbeg := begin_gives N
  have hk := kept_all h0 h1
  have Hk := Lib.hid hk
  clear hk
  have hrp0 : (2 : Int) ^ 128 = rp N 0 := rfl
  have hsq0 : N - 2 ^ 256 = N - rp N 0 * rp N 0 := by rw [← hrp0, ← Int.pow_add]
  rw [hsq0, hrp0] at hbeg
  clear hrp0 hsq0
  have hcall := fun args w => run_enter hf args w
  go_enter Try.func40, Try.ntmps40
  go_wp2_with (first | (refine w_box (H := ((T ++ H))) hw rfl 24 _ rfl _ rfl ?_; clear hw; intro k1 w hw) | (refine ok_alloc (H := ((T ++ H))) hw rfl 65 rfl _ zero_far ?_; clear hw; intro k1 w hw) | (refine ok_alloc (H := (_ :: (T ++ H))) hw rfl 65 rfl _ zero_far ?_; clear hw; intro k2 w hw) | (refine w_load hw rfl 24 _ rfl _ rfl agg_wide _ (by first | (apply Has.own; (repeat (first | assumption | exact List.mem_cons_self | apply List.mem_cons_of_mem)); done) | (apply Has.read; (repeat (first | assumption | exact List.mem_cons_self | apply List.mem_cons_of_mem)); done)) ?_) | (refine ok_store hw rfl 65 _ _ rfl _ rfl _ rfl _ agg_far _ (by repeat (first | exact At.head _ | apply At.tail)) (by simp) (by simp) (ones_two _ _) ?_; clear hw; intro w hw) | (go_at_call 49; refine hbeg.call0 hw ?_; clear hw; intro w hw))
  go_step3
  go_wp2_with (first | (refine w_box (H := ((T ++ H))) hw rfl 24 _ rfl _ rfl ?_; clear hw; intro k1 w hw) | (refine ok_alloc (H := ((T ++ H))) hw rfl 65 rfl _ zero_far ?_; clear hw; intro k1 w hw) | (refine ok_alloc (H := (_ :: (T ++ H))) hw rfl 65 rfl _ zero_far ?_; clear hw; intro k2 w hw) | (refine w_load hw rfl 24 _ rfl _ rfl agg_wide _ (by first | (apply Has.own; (repeat (first | assumption | exact List.mem_cons_self | apply List.mem_cons_of_mem)); done) | (apply Has.read; (repeat (first | assumption | exact List.mem_cons_self | apply List.mem_cons_of_mem)); done)) ?_) | (refine ok_store hw rfl 65 _ _ rfl _ rfl _ rfl _ agg_far _ (by repeat (first | exact At.head _ | apply At.tail)) (by simp) (by simp) (ones_two _ _) ?_; clear hw; intro w hw) | (go_at_call 49; refine hbeg.call0 hw ?_; clear hw; intro w hw))
  go_step3
  go_wp2_with (first | (refine w_box (H := ((T ++ H))) hw rfl 24 _ rfl _ rfl ?_; clear hw; intro k1 w hw) | (refine ok_alloc (H := ((T ++ H))) hw rfl 65 rfl _ zero_far ?_; clear hw; intro k1 w hw) | (refine ok_alloc (H := (_ :: (T ++ H))) hw rfl 65 rfl _ zero_far ?_; clear hw; intro k2 w hw) | (refine w_load hw rfl 24 _ rfl _ rfl agg_wide _ (by first | (apply Has.own; (repeat (first | assumption | exact List.mem_cons_self | apply List.mem_cons_of_mem)); done) | (apply Has.read; (repeat (first | assumption | exact List.mem_cons_self | apply List.mem_cons_of_mem)); done)) ?_) | (refine ok_store hw rfl 65 _ _ rfl _ rfl _ rfl _ agg_far _ (by repeat (first | exact At.head _ | apply At.tail)) (by simp) (by simp) (ones_two _ _) ?_; clear hw; intro w hw) | (go_at_call 49; refine hbeg.call0 hw ?_; clear hw; intro w hw))
  go_loopw [12] (fun v wr => ∃ (j : Nat) (T : List (Nat × Array Value)), j ≤ stop ∧ v = .int .i64 j ∧ Hid (I j T) ∧ Ok S w0 wr ((k2, two (rp N j) (N - rp N j * rp N j)) :: (k1, limbs 8 N) :: (T ++ H)) R) (fun v _ => 64 - (intOf v).toNat)
  case atStart => exact ⟨0, T, by omega, rfl, HI, hw⟩
  case round =>
    clear hw HI T
    obtain ⟨j, T, hj, rfl, HI, hw⟩ := hrel
    by_cases hlt : j < 64
    · have hkj := Hk.out j (by omega)
      have hkj1 := Hk.out (j + 1) (by omega)
      have hs := kept_s hkj
      have hy := kept_y hlt hkj
      have hlo := hkj.lo
      have hhi := hkj.hi
      have hp127 := pow_pos2 127
      have p128 := pow_in (show 128 < 512 by omega)
      have hshr := shr_gives (rp N j) 122 (by omega) (by omega) (by omega)
      rw [show (122 : Int).toNat = 122 from rfl] at hshr
      have hsm1 := srsmall_gives (rp N j / 2 ^ 122) (by omega) (by omega)
      have hleft := left_in h0 h1 hkj
      have hsar := sar_gives (N - rp N j * rp N j) (248 - 2 * (j : Int)) hleft.1 hleft.2 (by omega)
      rw [show (248 - 2 * (j : Int)).toNat = 248 - 2 * j by omega] at hsar
      have hsm2 := srsmall_gives ((N - rp N j * rp N j) / 2 ^ (248 - 2 * j)) (by omega) (by omega)
      have hdig := rootdigit_gives j (rp N j / 2 ^ 122) ((N - rp N j * rp N j) / 2 ^ (248 - 2 * j)) (by omega) (by omega) (by omega)
      have hd : pickv (rb j (rp N j / 2 ^ 122)) ((N - rp N j * rp N j) / 2 ^ (248 - 2 * j)) = rd N j := rfl
      rw [hd] at hdig
      have hdb : -2 ≤ rd N j ∧ rd N j ≤ 2 := by rw [← hd]; exact pickv_bd _ _
      have hnx := next_gives (rp N j) (N - rp N j * rp N j) (rd N j) (126 - 2 * j) (by omega) (shl_in hkj _ (by omega)) (by omega) hdb
      rw [next_eq] at hnx
      have hr : rp N j + 2 ^ (126 - 2 * j) * rd N j = rp N (j + 1) := rfl
      rw [hr] at hnx
      rw [show ((126 - 2 * j : Nat) : Int) = 2 * (63 - (j : Int)) by omega] at hnx
      clear hr hd hs hlo hhi hp127 p128 hkj hkj1 hleft
      generalize (!decide (rp N j / 2 ^ 122 * 2 ^ 122 % M = rp N j % M)) = lost at *
      generalize N - rp N j * rp N j = l at *
      generalize rp N j = p at *
      generalize l / 2 ^ (248 - 2 * j) = y at *
      generalize p / 2 ^ 122 = s at *
      have hDD : ∃ d, d = rd N j := ⟨_, rfl⟩
      obtain ⟨d, hD⟩ := hDD
      rw [← hD] at hdig hdb hnx
      have HD := Lib.hid hD
      clear hD
      go_wp2_with (first | (refine ok_alloc (H := ((T ++ H))) hw rfl 24 rfl _ zero_wide ?_; clear hw; intro k1 w hw) | (refine ok_alloc (H := (_ :: (T ++ H))) hw rfl 24 rfl _ zero_wide ?_; clear hw; intro k2 w hw) | (refine ok_alloc (H := (_ :: _ :: (T ++ H))) hw rfl 24 rfl _ zero_wide ?_; clear hw; intro k3 w hw) | (refine two_load_fst hw rfl 24 _ rfl _ rfl agg_wide _ _ (by first | (apply Has.own; (repeat (first | assumption | exact List.mem_cons_self | apply List.mem_cons_of_mem)); done) | (apply Has.read; (repeat (first | assumption | exact List.mem_cons_self | apply List.mem_cons_of_mem)); done)) ?_) | (refine two_load_snd hw rfl 24 _ rfl _ rfl agg_wide _ _ (by first | (apply Has.own; (repeat (first | assumption | exact List.mem_cons_self | apply List.mem_cons_of_mem)); done) | (apply Has.read; (repeat (first | assumption | exact List.mem_cons_self | apply List.mem_cons_of_mem)); done)) ?_) | (refine ok_load hw rfl 65 _ rfl _ rfl _ agg_far _ (by first | (apply Has.own; (repeat (first | assumption | exact List.mem_cons_self | apply List.mem_cons_of_mem)); done) | (apply Has.read; (repeat (first | assumption | exact List.mem_cons_self | apply List.mem_cons_of_mem)); done)) (by simp) ?_) | (refine w_store hw rfl 24 _ _ rfl _ rfl _ rfl agg_wide _ (by repeat (first | exact At.head _ | apply At.tail)) ?_; clear hw; intro w hw) | (refine ok_store hw rfl 65 _ _ rfl _ rfl _ rfl _ agg_far _ (by repeat (first | exact At.head _ | apply At.tail)) (by simp) (by simp) (ones_two _ _) ?_; clear hw; intro w hw) | (go_at_call 57; refine hshr.call0 hw ?_; clear hw; intro w hw))
      try simp only [Act.put, List.setIfInBounds_toArray, List.set_cons_succ, List.set_cons_zero]
      refine wp_region_draws [⟨[(5, none)], none, false, false⟩, ⟨[(6, none)], none, false, false⟩, ⟨[(23, some 1)], none, false, false⟩, ⟨[(4, none)], none, false, false⟩, ⟨[(25, some 3)], none, false, false⟩, ⟨[(5, none)], none, false, false⟩, ⟨[(27, some 5)], none, false, false⟩, ⟨[(28, some 6)], none, false, false⟩, ⟨[(26, some 4), (29, some 7)], none, false, false⟩, ⟨[(30, some 8)], none, false, false⟩, ⟨[(22, some 0), (24, some 2), (31, some 9)], none, false, false⟩, ⟨[(32, some 10)], none, false, false⟩, ⟨[(21, some 11)], none, false, false⟩, ⟨[(21, some 11)], none, false, false⟩, ⟨[(33, some 12)], none, false, false⟩, ⟨[(34, some 13)], none, false, false⟩] 48 (fun w => Ok S w0 w ((k3, limbs 8 s) :: (k2, two p l) :: (k1, limbs 8 N) :: (T ++ H)) R) (by kernel_rfl) rfl (by kernel_rfl) (hw.grow (below_drew' _)) (fun _ _ h hb => h.grow hb) (fun _ _ _ _ h => h) ?_
      clear hw
      refine ⟨_, stable_is _, ask_run rfl rfl rfl (fun a w hw hk => run_move rfl (eval_of (known_old hk 5 (.head _) (by simp only [List.getElem?_toArray, List.getElem?_cons_zero, List.getElem?_cons_succ, Option.getD_some]; rfl)))), ?_⟩
      refine ⟨_, stable_is _, ask_run rfl rfl rfl (fun a w hw hk => run_load_w rfl (eval_of (known_old hk 6 (.head _) rfl)) agg_wide (hw.has (by first | (apply Has.own; (repeat (first | assumption | exact List.mem_cons_self | apply List.mem_cons_of_mem)); done) | (apply Has.read; (repeat (first | assumption | exact List.mem_cons_self | apply List.mem_cons_of_mem)); done)))), ?_⟩
      refine ⟨_, stable_is _, ask_gives rfl rfl rfl (fun a w hw hk => run_call1 rfl ⟨_, Try.func78, by kernel_rfl, by kernel_rfl⟩ (eval_of (known_op hk 23 1 0 (.head _) rfl rfl)))
    hsm1 (fun w hw => by simp), ?_⟩
      refine ⟨_, stable_is _, ask_run rfl rfl rfl (fun a w hw hk => by
      have e4 := known_old hk 4 (.head _) (by simp only [List.getElem?_toArray, List.getElem?_cons_zero, List.getElem?_cons_succ, Option.getD_some]; rfl)
      go_simp
      (first | with_reducible rfl | exact ⟨rfl, rfl⟩)), ?_⟩
      refine ⟨_, stable_is _, ask_run rfl rfl rfl (fun a w hw hk => run_load_snd rfl (eval_of (known_op hk 25 3 0 (.head _) rfl rfl)) agg_wide (hw.has (by first | (apply Has.own; (repeat (first | assumption | exact List.mem_cons_self | apply List.mem_cons_of_mem)); done) | (apply Has.read; (repeat (first | assumption | exact List.mem_cons_self | apply List.mem_cons_of_mem)); done)))), ?_⟩
      refine ⟨_, stable_is _, ask_run rfl rfl rfl (fun a w hw hk => run_move rfl (eval_of (known_old hk 5 (.head _) (by simp only [List.getElem?_toArray, List.getElem?_cons_zero, List.getElem?_cons_succ, Option.getD_some]; rfl)))), ?_⟩
      refine ⟨_, stable_is _, ask_run rfl rfl rfl (fun a w hw hk => run_mul_i rfl rfl (eval_of (known_op hk 27 5 0 (.head _) rfl rfl)) (by omega)), ?_⟩
      refine ⟨_, stable_is _, ask_run rfl rfl rfl (fun a w hw hk => run_sub_i rfl rfl (eval_of (known_op hk 28 6 0 (.head _) rfl rfl)) (by omega)), ?_⟩
      refine ⟨_, stable_is _, ask_gives rfl rfl rfl (fun a w hw hk => run_call2 rfl ⟨_, Try.func79, by kernel_rfl, by kernel_rfl⟩ (eval_of (known_op hk 26 4 3 (.head _) rfl rfl)) (eval_of (known_op hk 29 7 0 (.tail _ (.head _)) rfl rfl)))
    hsar (fun w hw => by simp), ?_⟩
      refine ⟨_, stable_is _, ask_gives rfl rfl rfl (fun a w hw hk => run_call1 rfl ⟨_, Try.func78, by kernel_rfl, by kernel_rfl⟩ (eval_of (known_op hk 30 8 0 (.head _) rfl rfl)))
    hsm2 (fun w hw => by simp), ?_⟩
      refine ⟨_, stable_is _, ask_gives rfl rfl rfl (fun a w hw hk => run_call3 rfl ⟨_, Try.func77, by kernel_rfl, by kernel_rfl⟩ (eval_of (known_op hk 22 0 9 (.head _) rfl rfl)) (eval_of (known_op hk 24 2 7 (.tail _ (.head _)) rfl rfl)) (eval_of (known_op hk 31 9 0 (.tail _ (.tail _ (.head _))) rfl rfl)))
    hdig (fun w hw => by simp), ?_⟩
      refine ⟨_, stable_is _, ask_run rfl rfl rfl (fun a w hw hk => run_move rfl (eval_of (known_op hk 32 10 0 (.head _) rfl rfl))), ?_⟩
      refine ⟨_, stable_is _, ask_run rfl rfl rfl (fun a w hw hk => run_extract rfl (eval_of (known_op hk 21 11 0 (.head _) rfl rfl)) rfl), ?_⟩
      refine ⟨_, stable_is _, ask_run rfl rfl rfl (fun a w hw hk => run_extract rfl (eval_of (known_op hk 21 11 1 (.head _) rfl rfl)) rfl), ?_⟩
      refine ⟨_, stable_is _, ask_run rfl rfl rfl (fun a w hw hk => run_assign rfl (eval_of (known_op hk 33 12 1 (.head _) rfl rfl))), ?_⟩
      refine ⟨_, stable_is _, ask_run rfl rfl rfl (fun a w hw hk => run_assign rfl (eval_of (known_op hk 34 13 1 (.head _) rfl rfl))), ?_⟩
      intro w hw
      rintro _ rfl
      rintro _ rfl
      rintro _ rfl
      rintro _ rfl
      rintro _ rfl
      rintro _ rfl
      rintro _ rfl
      rintro _ rfl
      rintro _ rfl
      rintro _ rfl
      rintro _ rfl
      rintro _ rfl
      rintro _ rfl
      rintro _ rfl
      rintro _ rfl
      rintro _ rfl
      change wpList _ _ _ _ _ _
      simp only [List.length_cons, List.length_nil, Nat.reduceAdd, Nat.zero_add, List.drop_succ_cons, List.drop_zero, Act.put, List.setIfInBounds_toArray, List.set_cons_succ, List.set_cons_zero]
      by_cases hjs : j < stop
      · have hg := Hgo.out j hjs
        rw [← HD.out] at hg
        go_wp2_with (first | (refine ok_load hw rfl 65 _ rfl _ rfl _ agg_far _ (by first | (apply Has.own; (repeat (first | assumption | exact List.mem_cons_self | apply List.mem_cons_of_mem)); done) | (apply Has.read; (repeat (first | assumption | exact List.mem_cons_self | apply List.mem_cons_of_mem)); done)) (by simp) ?_) | (refine ok_store hw rfl 65 _ _ rfl _ rfl _ rfl _ agg_far _ (by repeat (first | exact At.head _ | apply At.tail)) (by simp) (by simp) (ones_two _ _) ?_; clear hw; intro w hw) | (go_at_call 80; refine hnx.call0 hw ?_; clear hw; intro w hw) | (refine (hg S w0 w T _ R HI.out (Ok.front [_, _, _] T H hw)).mono ?_; rintro e w' ⟨rfl, T', hT', hw'⟩; clear hw; have hw := Ok.front T' [_, _, _] H hw'; clear hw'; rename_i w; clear HI; have HI := Lib.hid hT'; clear hT'))
        exact ⟨⟨j + 1, T', by omega, by go_num, HI, hw.sub (List.Sublist.cons _ (List.Sublist.refl _)) (fun q h => h)⟩, by simp [intOf]; omega⟩
      · have hjs' : j = stop := by omega
        subst hjs'
        have hg := Hno.out hlt
        rw [← HD.out] at hg
        go_wp2_with (first | (refine ok_load hw rfl 65 _ rfl _ rfl _ agg_far _ (by first | (apply Has.own; (repeat (first | assumption | exact List.mem_cons_self | apply List.mem_cons_of_mem)); done) | (apply Has.read; (repeat (first | assumption | exact List.mem_cons_self | apply List.mem_cons_of_mem)); done)) (by simp) ?_) | (refine ok_store hw rfl 65 _ _ rfl _ rfl _ rfl _ agg_far _ (by repeat (first | exact At.head _ | apply At.tail)) (by simp) (by simp) (ones_two _ _) ?_; clear hw; intro w hw) | (go_at_call 80; refine hnx.call0 hw ?_; clear hw; intro w hw) | (refine (hg S w0 w T _ R HI.out (Ok.front [_, _, _] T H hw)).mono ?_; rintro e w' ⟨rfl, T', hT', hw'⟩; clear hw; have hw := Ok.front T' [_, _, _] H hw'; clear hw'; rename_i w; clear HI; have HI := Lib.hid hT'; clear hT'))
        rw [Exit.noGoto_normal]
        refine ⟨rfl, .tuple #[], by simp [results], rfl, T', HI.out, ?_⟩
        exact hw.sub (List.Sublist.cons _ (List.Sublist.cons _ (List.Sublist.cons _ (List.Sublist.refl _)))) (fun q h => h)
    · go_wp2_with fail
      have hj64 : j = stop := by omega
      subst hj64
      rw [Exit.noGoto_normal]
      refine ⟨rfl, .tuple #[], by simp [results], rfl, T, HI.out, ?_⟩
      exact hw.sub (List.Sublist.cons _ (List.Sublist.cons _ (List.Sublist.refl _))) (fun q h => h)
end Go.Proofs.Ytcodmeljjphoeaa
