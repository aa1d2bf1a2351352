/-
  Layer 15: both shifted up; the run.
-/
import Derived.Test.YtcodmeljjphoeaaDoorSrtB
import Derived.WalkMore
namespace Go.Proofs.YtcodmeljjphoeaaDoor
open Go.RowKit
set_option exponentiation.threshold 600
set_option linter.unusedVariables false
set_option linter.unusedSimpArgs false

set_option maxRecDepth 100000 in
theorem shifted_gives (n d : Int) (h0 : 0 < d) (h1 : d < 2 ^ 120) : Gives Tryd.prog 27 #[W n, W d] [] (.tuple #[W (n * 2 ^ sby d), W (d * 2 ^ sby d), .int .i64 (sby d)]) := by
  refine .mk fun w0 w hw => ?_
  have hno := snorm_gives d h0 h1
  have hb := (sby_bds h0 h1).2.2
  have hsh := shl_gives n (sby d)
  rw [show (clampv (sby d)).toNat = sby d by unfold clampv; omega] at hsh
  generalize d * 2 ^ sby d = D at *
  generalize n * 2 ^ sby d = X at *
  generalize sby d = b at *
  go_enter Tryd.func27, Tryd.ntmps27
  go_wp2_with (first | (refine w_box (H := []) hw rfl 24 _ rfl _ rfl ?_; clear hw; intro k1 w hw) | (refine w_box (H := [_]) hw rfl 24 _ rfl _ rfl ?_; clear hw; intro k2 w hw) | (refine ok_alloc (H := []) hw rfl 24 rfl _ zero_wide ?_; clear hw; intro k1 w hw) | (refine ok_alloc (H := [_]) hw rfl 24 rfl _ zero_wide ?_; clear hw; intro k2 w hw) | (refine ok_alloc (H := [_, _]) hw rfl 24 rfl _ zero_wide ?_; clear hw; intro k3 w hw) | (refine ok_alloc (H := [_, _, _]) hw rfl 24 rfl _ zero_wide ?_; clear hw; intro k4 w hw) | (refine w_load hw rfl 24 _ rfl _ rfl agg_wide _ (by first | (apply Has.own; (repeat (first | assumption | exact List.mem_cons_self | apply List.mem_cons_of_mem)); done) | (apply Has.read; (repeat (first | assumption | exact List.mem_cons_self | apply List.mem_cons_of_mem)); done)) ?_) | (refine w_store hw rfl 24 _ _ rfl _ rfl _ rfl agg_wide _ (by repeat (first | exact At.head _ | apply At.tail)) ?_; clear hw; intro w hw) | (go_at_call 15; refine hno.call0 hw ?_; clear hw; intro w hw))
  try simp only [Act.put, List.setIfInBounds_toArray, List.set_cons_succ, List.set_cons_zero]
  refine wp_region_draws_D [⟨[(2, none)], none, false, false⟩, ⟨[(7, none)], none, false, false⟩, ⟨[(15, some 0), (16, some 1)], none, false, false⟩, ⟨[(3, none)], none, true, false⟩, ⟨[(7, none)], none, true, false⟩] 20 (fun w => Ok Non w0 w [(k4, limbs 8 0), (k3, limbs 8 0), (k2, limbs 8 D), (k1, limbs 8 n)] []) (DRows [(k2, limbs 8 D)]) (by kernel_rfl) rfl (by kernel_rfl) (hw.grow (below_drew' _)) (fun _ _ h hb => h.grow hb) (fun w hw => dRows hw (by simp only [List.forall_mem_cons, List.not_mem_nil, false_implies, implies_true, and_true]; (repeat' (refine And.intro ?_ ?_)); all_goals (first | (apply Has.own; (repeat (first | assumption | exact List.mem_cons_self | apply List.mem_cons_of_mem)); done) | (apply Has.read; (repeat (first | assumption | exact List.mem_cons_self | apply List.mem_cons_of_mem)); done)))) (fun _ _ _ _ h => h) ?_
  clear hw
  refine ⟨_, stable_is _, ask_run rfl rfl rfl (fun a w hw hk => run_load_w rfl (eval_of (known_old hk 2 (.head _) rfl)) agg_wide (hw.has (by first | (apply Has.own; (repeat (first | assumption | exact List.mem_cons_self | apply List.mem_cons_of_mem)); done) | (apply Has.read; (repeat (first | assumption | exact List.mem_cons_self | apply List.mem_cons_of_mem)); done)))), ?_⟩
  refine ⟨_, stable_is _, ask_run rfl rfl rfl (fun a w hw hk => run_move rfl (eval_of (known_old hk 7 (.head _) (by simp only [List.getElem?_toArray, List.getElem?_cons_zero, List.getElem?_cons_succ, Option.getD_some]; rfl)))), ?_⟩
  refine ⟨_, stable_is _, ask_gives rfl rfl rfl (fun a w hw hk => run_call2 rfl ⟨_, Tryd.func45, by kernel_rfl, by kernel_rfl⟩ (eval_of (known_op hk 15 0 1 (.head _) rfl rfl)) (eval_of (known_op hk 16 1 0 (.tail _ (.head _)) rfl rfl)))
    hsh (fun w hw => by simp), ?_⟩
  refine ⟨_, stable_is _, ask_late rfl (fun a w w' hw hk hd => run_load_w rfl (eval_of (known_old hk 3 (.head _) rfl)) agg_wide (dHas hd (by (repeat (first | assumption | exact List.mem_cons_self | apply List.mem_cons_of_mem))))), ?_⟩
  refine ⟨_, stable_is _, ask_late rfl (fun a w w' hw hk hd => run_move rfl (eval_of (known_old hk 7 (.head _) (by simp only [List.getElem?_toArray, List.getElem?_cons_zero, List.getElem?_cons_succ, Option.getD_some]; rfl)))), ?_⟩
  intro w hw
  rintro _ rfl
  rintro _ rfl
  rintro _ rfl
  rintro _ rfl
  rintro _ rfl
  change wpListD _ _ _ _ _ _ _
  simp only [List.length_cons, List.length_nil, Nat.reduceAdd, Nat.zero_add, List.drop_succ_cons, List.drop_zero, Act.put, List.setIfInBounds_toArray, List.set_cons_succ, List.set_cons_zero]
  refine wD_store hw rfl _ _ _ rfl _ rfl _ rfl agg_wide _ (by repeat (first | exact At.head _ | apply At.tail)) (fun w hw => (dRows hw (by simp only [List.forall_mem_cons, List.not_mem_nil, false_implies, implies_true, and_true]; (repeat' (refine And.intro ?_ ?_)); all_goals (first | (apply Has.own; (repeat (first | assumption | exact List.mem_cons_self | apply List.mem_cons_of_mem)); done) | (apply Has.read; (repeat (first | assumption | exact List.mem_cons_self | apply List.mem_cons_of_mem)); done))))) ?_; clear hw; intro w hw
  refine wD_store hw rfl _ _ _ rfl _ rfl _ rfl agg_wide _ (by repeat (first | exact At.head _ | apply At.tail)) (fun w hw => (dRows hw (by simp only [List.forall_mem_cons, List.not_mem_nil, false_implies, implies_true, and_true]; (repeat' (refine And.intro ?_ ?_)); all_goals (first | (apply Has.own; (repeat (first | assumption | exact List.mem_cons_self | apply List.mem_cons_of_mem)); done) | (apply Has.read; (repeat (first | assumption | exact List.mem_cons_self | apply List.mem_cons_of_mem)); done))))) ?_; clear hw; intro w hw
  refine wD_assign hw rfl _ rfl (dRows hw (by simp only [List.forall_mem_cons, List.not_mem_nil, false_implies, implies_true, and_true]; (repeat' (refine And.intro ?_ ?_)); all_goals (first | (apply Has.own; (repeat (first | assumption | exact List.mem_cons_self | apply List.mem_cons_of_mem)); done) | (apply Has.read; (repeat (first | assumption | exact List.mem_cons_self | apply List.mem_cons_of_mem)); done)))) ?_
  refine wD_end ?_
  go_wp2_with fail
  refine ret_cct rfl rfl rfl rfl agg_wide agg_wide (hw.rows _ (.tail _ (.head _))) (hw.rows _ (.head _)) (by simp) (by simp) rfl ⟨rfl, hw.below⟩

/-- A step, as cells: its place, its digit, what is left behind it. -/
def stp (p d l : Int) : Array Value := #[.int .i64 p, .int .i64 d] ++ limbs 8 l
@[simp] theorem size_stp (p d l : Int) : (stp p d l).size = 10 := by simp [stp]
theorem ones_stp (p d l : Int) : Ones (stp p d l) := by
  have := ones_limbs 8 l
  unfold Ones at *
  unfold stp
  rw [Array.all_append, this]
  simp [Value.oneCell']
theorem built_step (p d l : Int) : Tryd.prog.built 66 [(0, .int .i64 p), (1, .int .i64 d), (2, W l)] = some (stp p d l) := by kernel_rfl
theorem ok_build_step {ops : Array Oper} {Q : Exit → Act → World → Prop} {rest : List Oper} {o : Oper} {a : Act} {w : World} (hgd : o.guard = none) (x y z : Operand) (ho : o.op = .build 66 #[(0, x), (1, y), (2, z)]) (p d l : Int) (hx : a.eval x = .int .i64 p) (hy : a.eval y = .int .i64 d) (hz : a.eval z = W l)
    (hk : wpList Tryd.prog ops Q rest (a.put o.dst (.agg (stp p d l))) w) : wpList Tryd.prog ops Q (o :: rest) a w := by
  have := run_build (P := Tryd.prog) w 66 #[(0, .int .i64 p), (1, .int .i64 d), (2, W l)] (stp p d l) (built_step p d l)
  exact wpL_value hgd (by simp only [execOp, ho, List.map_toArray, List.map_cons, List.map_nil, hx, hy, hz, Sem.run_bind, this, Result.andThen_ok, Sem.run_pure]) hk
theorem agg_step : Agg Tryd.prog 66 10 := .mk _ Tryd.underlying66 rfl (by kernel_rfl)

/-- A step's function, called: what it keeps ('I') goes on, or it stops. -/
def StepD (f : FuncId) (caps : Array Value) (args : Array Value) (I I' : List (Nat × Array Value) → Prop) (go : Bool) : Prop :=
  ∀ (S : Nat → Prop) (w0 w : World) (T H R : List (Nat × Array Value)), I T → Ok S w0 w (T ++ H) R →
    Calls Tryd.prog f (args ++ caps) w fun e w' => e = .returned (.bool go) ∧ ∃ T', I' T' ∧ Ok S w0 w' (T' ++ H) R

/-- What is left is small, in words of the divisor. -/
theorem sl_bds {X D : Int} (h0 : 2 ^ 127 ≤ D) (h1 : D < 2 ^ 128) {i : Nat} (hi : i < 65) (h : SKept X D i) :
    (-HM ≤ sl X D i ∧ sl X D i < HM) ∧ -43 ≤ sl X D i / 2 ^ (124 + 2 * (64 - i)) ∧ sl X D i / 2 ^ (124 + 2 * (64 - i)) ≤ 43 ∧ 0 ≤ D * 2 ^ (2 * (64 - i)) ∧ D * 2 ^ (2 * (64 - i)) < M := by
  have hw := pow_pos2 (2 * (64 - i))
  have hu := pow_pos2 124
  have e1 : (2 : Int) ^ (2 * (65 - i)) = 4 * 2 ^ (2 * (64 - i)) := by rw [show 2 * (65 - i) = 2 + 2 * (64 - i) by omega, Int.pow_add]; rfl
  have e2 : (2 : Int) ^ (124 + 2 * (64 - i)) = 2 ^ 124 * 2 ^ (2 * (64 - i)) := Int.pow_add _ _ _
  have e3 : (2 : Int) ^ 128 = 16 * 2 ^ 124 := by rw [show 128 = 4 + 124 by rfl, Int.pow_add]; rfl
  have hcap : 2 ^ 124 * 2 ^ (2 * (64 - i)) * 64 < HM := by
    rw [← Int.pow_add, show (64 : Int) = 2 ^ 6 by rfl, ← Int.pow_add]
    show (2 : Int) ^ _ < 2 ^ 511
    have h2 := pow_mono2 (show 124 + 2 * (64 - i) + 6 + 1 ≤ 511 by omega)
    rw [Int.pow_succ] at h2
    have := pow_pos2 (124 + 2 * (64 - i) + 6)
    omega
  have hM := M_eq
  have hHM := HM_pos
  obtain ⟨k0, k1⟩ := h
  rw [e1] at k0 k1
  rw [e2]
  rw [e3] at h1
  have d1 : D * 2 ^ (2 * (64 - i)) < 16 * (2 ^ 124 * 2 ^ (2 * (64 - i))) := by
    have := Int.mul_lt_mul_of_pos_right h1 hw; rwa [Int.mul_assoc] at this
  have d0 : 0 ≤ D * 2 ^ (2 * (64 - i)) := Int.mul_nonneg (by have := pow_pos2 127; omega) (by omega)
  rw [show D * (4 * 2 ^ (2 * (64 - i))) = 4 * (D * 2 ^ (2 * (64 - i))) by grind] at k0 k1
  have huw : 0 < 2 ^ 124 * (2 : Int) ^ (2 * (64 - i)) := Int.mul_pos hu hw
  generalize D * 2 ^ (2 * (64 - i)) = E at *
  generalize (2 : Int) ^ 124 * 2 ^ (2 * (64 - i)) = v at *
  generalize sl X D i = L at *
  have e := Int.emod_add_mul_ediv L v
  have m0 := Int.emod_nonneg L (show v ≠ 0 by omega)
  have m1 := Int.emod_lt_of_pos L huw
  refine ⟨⟨by omega, by omega⟩, ?_, ?_, d0, by omega⟩
  · rcases Int.lt_or_le (L / v) (-43) with h | h
    · have := Int.mul_le_mul_of_nonneg_left (show L / v + 1 ≤ -43 by omega) (show 0 ≤ v by omega)
      rw [Int.mul_add] at this
      omega
    · exact h
  · rcases Int.lt_or_le 43 (L / v) with h | h
    · have := Int.mul_le_mul_of_nonneg_left (show 44 ≤ L / v by omega) (show 0 ≤ v by omega)
      omega
    · exact h

set_option maxRecDepth 100000 in
set_option maxHeartbeats 1000000 in
theorem srun_calls (X D : Int) (h0 : 2 ^ 127 ≤ D) (h1 : D < 2 ^ 128) (hX0 : 0 ≤ X) (hX1 : X < D * 2 ^ 128) (f : FuncId) (hf : HasBody Tryd.prog f) (caps : Array Value) (I : Nat → List (Nat × Array Value) → Prop) (stop : Nat) (hst : stop ≤ 65)
    (hgo : ∀ j : Nat, j < stop → StepD f caps #[.agg (stp (64 - (j : Int)) (sd X D j) (sl X D (j + 1)))] (I j) (I (j + 1)) true)
    (hno : stop < 65 → StepD f caps #[.agg (stp (64 - (stop : Int)) (sd X D stop) (sl X D (stop + 1)))] (I stop) (I stop) false)
    (S : Nat → Prop) (w0 w : World) (T H R : List (Nat × Array Value)) (hI : I 0 T) (hR : ∀ p ∈ TR, p ∈ R) (hw : Ok S w0 w (T ++ H) R) :
    Calls Tryd.prog 29 #[W X, W D, .func (.func f) #[] caps] w fun e w' => e = .returned (.tuple #[]) ∧ ∃ T', I stop T' ∧ Ok S w0 w' (T' ++ H) R := by
  have Hgo := Lib.hid hgo
  have Hno := Lib.hid hno
  have HI := Lib.hid hI
  have HR := Lib.hid hR
  clear hgo hno hI hR
  have hrow := row_gives D h0 h1
  have hk := skept_all h0 h1 hX0 hX1
  have Hk := Lib.hid hk
  have hr := (row_bd h0 h1).1
  clear hk
  have hcall := fun args w => run_enter hf args w
  have hdt := fun y => digit_table (D / 2 ^ 124) y hr
  have hpv : ∀ j, sd X D j = pickv (tb (D / 2 ^ 124)) (sl X D j / 2 ^ (124 + 2 * (64 - j))) := fun j => rfl
  have Hpv := Lib.hid hpv
  clear hpv
  generalize D / 2 ^ 124 = r at *
  go_enter Tryd.func29, Tryd.ntmps29
  go_wp2_with (first | (refine w_box (H := ((T ++ H))) hw rfl 24 _ rfl _ rfl ?_; clear hw; intro k1 w hw) | (refine w_box (H := (_ :: (T ++ H))) hw rfl 24 _ rfl _ rfl ?_; clear hw; intro k2 w hw) | (refine ok_alloc (H := ((T ++ H))) hw rfl 24 rfl _ zero_wide ?_; clear hw; intro k1 w hw) | (refine ok_alloc (H := (_ :: (T ++ H))) hw rfl 24 rfl _ zero_wide ?_; clear hw; intro k2 w hw) | (refine ok_alloc (H := (_ :: _ :: (T ++ H))) hw rfl 24 rfl _ zero_wide ?_; clear hw; intro k3 w hw) | (refine w_load hw rfl 24 _ rfl _ rfl agg_wide _ (by first | (apply Has.own; (repeat (first | assumption | exact List.mem_cons_self | apply List.mem_cons_of_mem)); done) | (apply Has.read; (repeat (first | assumption | exact List.mem_cons_self | apply List.mem_cons_of_mem)); done)) ?_) | (refine w_store hw rfl 24 _ _ rfl _ rfl _ rfl agg_wide _ (by repeat (first | exact At.head _ | apply At.tail)) ?_; clear hw; intro w hw) | (go_at_call 60; refine hrow.call0 hw ?_; clear hw; intro w hw))
  go_step3
  go_wp2_with (first | (refine w_box (H := ((T ++ H))) hw rfl 24 _ rfl _ rfl ?_; clear hw; intro k1 w hw) | (refine w_box (H := (_ :: (T ++ H))) hw rfl 24 _ rfl _ rfl ?_; clear hw; intro k2 w hw) | (refine ok_alloc (H := ((T ++ H))) hw rfl 24 rfl _ zero_wide ?_; clear hw; intro k1 w hw) | (refine ok_alloc (H := (_ :: (T ++ H))) hw rfl 24 rfl _ zero_wide ?_; clear hw; intro k2 w hw) | (refine ok_alloc (H := (_ :: _ :: (T ++ H))) hw rfl 24 rfl _ zero_wide ?_; clear hw; intro k3 w hw) | (refine w_load hw rfl 24 _ rfl _ rfl agg_wide _ (by first | (apply Has.own; (repeat (first | assumption | exact List.mem_cons_self | apply List.mem_cons_of_mem)); done) | (apply Has.read; (repeat (first | assumption | exact List.mem_cons_self | apply List.mem_cons_of_mem)); done)) ?_) | (refine w_store hw rfl 24 _ _ rfl _ rfl _ rfl agg_wide _ (by repeat (first | exact At.head _ | apply At.tail)) ?_; clear hw; intro w hw) | (go_at_call 60; refine hrow.call0 hw ?_; clear hw; intro w hw))
  go_step3
  go_wp2_with (first | (refine w_box (H := ((T ++ H))) hw rfl 24 _ rfl _ rfl ?_; clear hw; intro k1 w hw) | (refine w_box (H := (_ :: (T ++ H))) hw rfl 24 _ rfl _ rfl ?_; clear hw; intro k2 w hw) | (refine ok_alloc (H := ((T ++ H))) hw rfl 24 rfl _ zero_wide ?_; clear hw; intro k1 w hw) | (refine ok_alloc (H := (_ :: (T ++ H))) hw rfl 24 rfl _ zero_wide ?_; clear hw; intro k2 w hw) | (refine ok_alloc (H := (_ :: _ :: (T ++ H))) hw rfl 24 rfl _ zero_wide ?_; clear hw; intro k3 w hw) | (refine w_load hw rfl 24 _ rfl _ rfl agg_wide _ (by first | (apply Has.own; (repeat (first | assumption | exact List.mem_cons_self | apply List.mem_cons_of_mem)); done) | (apply Has.read; (repeat (first | assumption | exact List.mem_cons_self | apply List.mem_cons_of_mem)); done)) ?_) | (refine w_store hw rfl 24 _ _ rfl _ rfl _ rfl agg_wide _ (by repeat (first | exact At.head _ | apply At.tail)) ?_; clear hw; intro w hw) | (go_at_call 60; refine hrow.call0 hw ?_; clear hw; intro w hw))
  go_loopw [9] (fun v wr => ∃ (j : Nat) (T : List (Nat × Array Value)), j ≤ stop ∧ v = .int .i64 (64 - (j : Int)) ∧ Hid (I j T) ∧ Ok S w0 wr ((k3, limbs 8 (sl X D j)) :: (k2, limbs 8 D) :: (k1, limbs 8 X) :: (T ++ H)) R) (fun v _ => (intOf v + 1).toNat)
  case atStart => exact ⟨0, T, by omega, rfl, HI, hw⟩
  case round =>
    clear hw HI T
    obtain ⟨j, T, hj, rfl, HI, hw⟩ := hrel
    by_cases hlt : j < 65
    · obtain ⟨hin, hy0, hy1, hs0, hs1⟩ := sl_bds h0 h1 hlt (Hk.out j (by omega))
      have hsar := sar_gives (sl X D j) (124 + 2 * (64 - (j : Int))) hin.1 hin.2 (by omega)
      rw [show (124 + 2 * (64 - (j : Int))).toNat = 124 + 2 * (64 - j) by omega] at hsar
      have hsm := srtsmall_gives (sl X D j / 2 ^ (124 + 2 * (64 - j))) (by omega) (by omega)
      have hdig := hdt (sl X D j / 2 ^ (124 + 2 * (64 - j)))
      rw [← Hpv.out] at hdig
      have hsh := shl_gives D (2 * (64 - (j : Int)))
      rw [show (clampv (2 * (64 - (j : Int)))).toNat = 2 * (64 - j) by unfold clampv; omega] at hsh
      have hdb : -2 ≤ sd X D j ∧ sd X D j ≤ 2 := pickv_bd' _ _
      have htm := srttimes_gives (D * 2 ^ (2 * (64 - j))) (sd X D j) hs0 hs1 (by omega)
      have hsb := sub_gives (sl X D j) (D * 2 ^ (2 * (64 - j)) * sd X D j)
      have hnx : sl X D j - D * 2 ^ (2 * (64 - j)) * sd X D j = sl X D (j + 1) := rfl
      rw [hnx] at hsb
      clear hnx hin hs0 hs1 hdt hr
      generalize (decide (sl X D j % M < D * 2 ^ (2 * (64 - j)) * sd X D j % M)) = below at *
      generalize D * 2 ^ (2 * (64 - j)) * sd X D j = tm at *
      generalize D * 2 ^ (2 * (64 - j)) = sh at *
      generalize sl X D j / 2 ^ (124 + 2 * (64 - j)) = y at *
      have hDD : ∃ d, d = sd X D j := ⟨_, rfl⟩
      obtain ⟨d, hD⟩ := hDD
      rw [← hD] at hdig hdb htm
      have HD := Lib.hid hD
      have hLL : ∃ l, l = sl X D (j + 1) := ⟨_, rfl⟩
      obtain ⟨l', hL⟩ := hLL
      rw [← hL] at hsb
      have HL := Lib.hid hL
      clear hD hL
      generalize sl X D j = l at *
      go_wp2_with (first | (refine w_load hw rfl 24 _ rfl _ rfl agg_wide _ (by first | (apply Has.own; (repeat (first | assumption | exact List.mem_cons_self | apply List.mem_cons_of_mem)); done) | (apply Has.read; (repeat (first | assumption | exact List.mem_cons_self | apply List.mem_cons_of_mem)); done)) ?_) | (go_at_call 62; refine hsar.call0 hw ?_; clear hw; intro w hw) | (go_at_call 61; refine hsm.call0 hw ?_; clear hw; intro w hw) | (go_at_call 63; refine hdig.of hw HR.out ?_; clear hw; intro w hw))
      try simp only [Act.put, List.setIfInBounds_toArray, List.set_cons_succ, List.set_cons_zero]
      refine wp_region_draws [⟨[(6, none)], none, false, false⟩, ⟨[(4, none)], none, false, false⟩, ⟨[(9, none)], none, false, false⟩, ⟨[(38, some 2)], none, false, false⟩, ⟨[(37, some 1), (39, some 3)], none, false, false⟩, ⟨[(11, none)], none, false, false⟩, ⟨[(40, some 4), (41, some 5)], none, false, false⟩, ⟨[(36, some 0), (42, some 6)], none, false, false⟩, ⟨[(43, some 7)], none, false, false⟩, ⟨[(35, some 8)], none, false, false⟩, ⟨[(35, some 8)], none, true, false⟩] 53 (fun w => Ok S w0 w ((k3, limbs 8 l) :: (k2, limbs 8 D) :: (k1, limbs 8 X) :: (T ++ H)) R) (by kernel_rfl) rfl (by kernel_rfl) (hw.grow (below_drew' _)) (fun _ _ h hb => h.grow hb) (fun _ _ _ _ h => h) ?_
      clear hw
      refine ⟨_, stable_is _, ask_run rfl rfl rfl (fun a w hw hk => run_load_w rfl (eval_of (known_old hk 6 (.head _) rfl)) agg_wide (hw.has (by first | (apply Has.own; (repeat (first | assumption | exact List.mem_cons_self | apply List.mem_cons_of_mem)); done) | (apply Has.read; (repeat (first | assumption | exact List.mem_cons_self | apply List.mem_cons_of_mem)); done)))), ?_⟩
      refine ⟨_, stable_is _, ask_run rfl rfl rfl (fun a w hw hk => run_load_w rfl (eval_of (known_old hk 4 (.head _) rfl)) agg_wide (hw.has (by first | (apply Has.own; (repeat (first | assumption | exact List.mem_cons_self | apply List.mem_cons_of_mem)); done) | (apply Has.read; (repeat (first | assumption | exact List.mem_cons_self | apply List.mem_cons_of_mem)); done)))), ?_⟩
      refine ⟨_, stable_is _, ask_run rfl rfl rfl (fun a w hw hk => run_move rfl (eval_of (known_old hk 9 (.head _) (by simp only [List.getElem?_toArray, List.getElem?_cons_zero, List.getElem?_cons_succ, Option.getD_some]; rfl)))), ?_⟩
      refine ⟨_, stable_is _, ask_run rfl rfl rfl (fun a w hw hk => run_mul_i rfl rfl (eval_of (known_op hk 38 2 0 (.head _) rfl rfl)) (by omega)), ?_⟩
      refine ⟨_, stable_is _, ask_gives rfl rfl rfl (fun a w hw hk => run_call2 rfl ⟨_, Tryd.func45, by kernel_rfl, by kernel_rfl⟩ (eval_of (known_op hk 37 1 2 (.head _) rfl rfl)) (eval_of (known_op hk 39 3 0 (.tail _ (.head _)) rfl rfl)))
    hsh (fun w hw => by simp), ?_⟩
      refine ⟨_, stable_is _, ask_run rfl rfl rfl (fun a w hw hk => run_move rfl (eval_of (known_old hk 11 (.head _) (by simp only [List.getElem?_toArray, List.getElem?_cons_zero, List.getElem?_cons_succ, Option.getD_some]; rfl)))), ?_⟩
      refine ⟨_, stable_is _, ask_gives rfl rfl rfl (fun a w hw hk => run_call2 rfl ⟨_, Tryd.func64, by kernel_rfl, by kernel_rfl⟩ (eval_of (known_op hk 40 4 1 (.head _) rfl rfl)) (eval_of (known_op hk 41 5 0 (.tail _ (.head _)) rfl rfl)))
    htm (fun w hw => by simp), ?_⟩
      refine ⟨_, stable_is _, ask_gives rfl rfl rfl (fun a w hw hk => run_call2 rfl ⟨_, Tryd.func26, by kernel_rfl, by kernel_rfl⟩ (eval_of (known_op hk 36 0 6 (.head _) rfl rfl)) (eval_of (known_op hk 42 6 0 (.tail _ (.head _)) rfl rfl)))
    hsb (fun w hw => by simp), ?_⟩
      refine ⟨_, stable_is _, ask_run rfl rfl rfl (fun a w hw hk => run_move rfl (eval_of (known_op hk 43 7 0 (.head _) rfl rfl))), ?_⟩
      refine ⟨_, stable_is _, ask_run rfl rfl rfl (fun a w hw hk => run_extract rfl (eval_of (known_op hk 35 8 0 (.head _) rfl rfl)) rfl), ?_⟩
      refine ⟨_, stable_is _, ask_late rfl (fun a w w' hw hk hd => run_extract rfl (eval_of (known_op hk 35 8 1 (.head _) rfl rfl)) rfl), ?_⟩
      intro w hw
      rintro _ rfl
      rintro _ rfl
      rintro _ rfl
      rintro _ rfl
      rintro _ rfl
      rintro _ rfl
      rintro _ rfl
      rintro _ rfl
      rintro _ rfl
      rintro _ rfl
      rintro _ rfl
      change wpList _ _ _ _ _ _
      simp only [List.length_cons, List.length_nil, Nat.reduceAdd, Nat.zero_add, List.drop_succ_cons, List.drop_zero, Act.put, List.setIfInBounds_toArray, List.set_cons_succ, List.set_cons_zero]
      by_cases hjs : j < stop
      · have hg := Hgo.out j hjs
        rw [← HD.out, ← HL.out] at hg
        go_wp2_with (first | (refine w_load hw rfl 24 _ rfl _ rfl agg_wide _ (by first | (apply Has.own; (repeat (first | assumption | exact List.mem_cons_self | apply List.mem_cons_of_mem)); done) | (apply Has.read; (repeat (first | assumption | exact List.mem_cons_self | apply List.mem_cons_of_mem)); done)) ?_) | (refine w_store hw rfl 24 _ _ rfl _ rfl _ rfl agg_wide _ (by repeat (first | exact At.head _ | apply At.tail)) ?_; clear hw; intro w hw) | (refine ok_build_step rfl _ _ _ rfl _ _ _ rfl rfl rfl ?_) | (refine (hg S w0 w T _ R HI.out (Ok.front [_, _, _] T H hw)).mono ?_; rintro e w' ⟨rfl, T', hT', hw'⟩; clear hw; have hw := Ok.front T' [_, _, _] H hw'; clear hw'; rename_i w; clear HI; have HI := Lib.hid hT'; clear hT'))
        rw [HL.out] at hw
        exact ⟨⟨j + 1, T', by omega, by congr 1; omega, HI, hw⟩, by simp [intOf]; omega⟩
      · have hjs' : j = stop := by omega
        subst hjs'
        have hg := Hno.out hlt
        rw [← HD.out, ← HL.out] at hg
        go_wp2_with (first | (refine w_load hw rfl 24 _ rfl _ rfl agg_wide _ (by first | (apply Has.own; (repeat (first | assumption | exact List.mem_cons_self | apply List.mem_cons_of_mem)); done) | (apply Has.read; (repeat (first | assumption | exact List.mem_cons_self | apply List.mem_cons_of_mem)); done)) ?_) | (refine w_store hw rfl 24 _ _ rfl _ rfl _ rfl agg_wide _ (by repeat (first | exact At.head _ | apply At.tail)) ?_; clear hw; intro w hw) | (refine ok_build_step rfl _ _ _ rfl _ _ _ rfl rfl rfl ?_) | (refine (hg S w0 w T _ R HI.out (Ok.front [_, _, _] T H hw)).mono ?_; rintro e w' ⟨rfl, T', hT', hw'⟩; clear hw; have hw := Ok.front T' [_, _, _] H hw'; clear hw'; rename_i w; clear HI; have HI := Lib.hid hT'; clear hT'))
        rw [Exit.noGoto_normal]
        refine ⟨rfl, .tuple #[], by simp [results], rfl, T', HI.out, ?_⟩
        exact hw.sub (List.Sublist.cons _ (List.Sublist.cons _ (List.Sublist.cons _ (List.Sublist.refl _)))) (fun q h => h)
    · go_wp2_with fail
      have hj65 : j = stop := by omega
      subst hj65
      rw [Exit.noGoto_normal]
      refine ⟨rfl, .tuple #[], by simp [results], rfl, T, HI.out, ?_⟩
      exact hw.sub (List.Sublist.cons _ (List.Sublist.cons _ (List.Sublist.cons _ (List.Sublist.refl _)))) (fun q h => h)
end Go.Proofs.YtcodmeljjphoeaaDoor
