/-
  Layer 3: whole products.
-/
import Derived.Test.YtcodmeljjphoeaaDoorProd
namespace Go.Proofs.YtcodmeljjphoeaaDoor
open Go.RowKit
set_option linter.unusedVariables false
set_option linter.unusedSimpArgs false

theorem put_call (y x n T : Int) (i k : Nat) (hn : n = i) (hT : T = y + x * 2 ^ (64 * i)) (hi : i ≤ 16) (hx0 : 0 ≤ x) (hx : x < 18446744073709551616) (hy : 0 ≤ y) (ht : y + x * 2 ^ (64 * i) < 2 ^ (64 * 17)) {S : Nat → Prop} {w0 w : World} {H R : List (Nat × Array Value)}
    (hw : Ok S w0 w ((k, limbs 17 y) :: H) R) {K : Ending → World → Prop} (hK : ∀ w', Ok S w0 w' ((k, limbs 17 T) :: H) R → K (.returned (.tuple #[])) w') :
    Calls Tryd.prog 95 #[.pointer (some ⟨k, 0, none⟩), .int .i64 n, .int .u64 x] w K := by
  subst hn hT
  exact   (put_turns y x i k hi hx0 hx hy ht w w (.mine (hw.rows _ (.head _)))).mono fun e w' ⟨he, h⟩ => by rw [he]; exact hK w' (hw.call h)

section
variable {P : Program} {ops : Array Oper} {Q : Exit → Act → World → Prop} {rest : List Oper} {o : Oper} {a : Act} {w : World}
theorem run_indexW {ρ : Operand → Value} {t e : TypeId} {x y : Operand} {z : Int} {i n : Nat} (ho : o.op = .index t x y) (hu : P.underlying t = some (.array n e)) (he : One P e)
    (hx : ρ x = .agg (limbs n z)) (hy : ρ y = .int .i64 i) (hi : i < n) : (execOp ρ o).run P w = .ok (.value (.int .u64 (lim z i))) w := by
  obtain ⟨⟨d, hd1, hd2⟩, h3⟩ := he
  have hagg : (isAgg e).run P w = .ok false w := by
    unfold isAgg
    rw [Sem.run_bind, run_underlying hd1 w]
    cases d <;> simp_all
  have hl : (i : Int) < (n : Int) := by omega
  cases hq : P.info? e with
  | none => simp [hq] at h3
  | some ie =>
    have hs : ie.size = 1 := by simpa [hq] using h3
    simp [execOp, ho, hx, hy, Instr.index, asIntOf, run_underlying hu, part, hagg, sizeOf, typeInfo, hq, hs, hi]
    simp [limbs]
theorem w_index (hgd : o.guard = none) (t e : TypeId) (x y : Operand) (ho : o.op = .index t x y) (n : Nat) (hu : P.underlying t = some (.array n e)) (he : One P e) (z : Int) (hx : a.eval x = .agg (limbs n z)) (i : Nat) (hy : a.eval y = .int .i64 i) (hi : i < n)
    (hk : wpList P ops Q rest (a.put o.dst (.int .u64 (lim z i))) w) : wpList P ops Q (o :: rest) a w :=
  wpL_value hgd (run_indexW ho hu he hx hy hi) hk
end

theorem body_all : HasBody Tryd.prog 93 := ⟨_, Tryd.func93, by kernel_rfl, by kernel_rfl⟩
theorem all_gives (i : Int) : Gives Tryd.prog 93 #[.int .i64 i] [] (.bool true) := by
  refine .mk fun w0 w hw => ?_
  go_enter Tryd.func93, Tryd.ntmps93
  go_wp2
  go_ret
  exact ⟨rfl, hw.below⟩

def Stop (p : Prop) : Prop := p
/-- What stands behind i rows, and j limbs of the next one. -/
def sofar (x y : Int) (i j : Nat) : Int := x % 2 ^ (64 * i) * y + lim x i * (y % 2 ^ (64 * j)) * 2 ^ (64 * i)
theorem sofar_next (x y : Int) (i j : Nat) : sofar x y i (j + 1) = sofar x y i j + lim x i * lim y j * 2 ^ (64 * (i + j)) := by
  unfold sofar
  rw [emod_succ, show 64 * (i + j) = 64 * i + 64 * j by omega, Int.pow_add]
  grind
theorem sofar_row (x y : Int) (i : Nat) (h0 : 0 ≤ y) (h1 : y < M) : sofar x y i 8 = x % 2 ^ (64 * (i + 1)) * y := by
  unfold sofar
  rw [Int.emod_eq_of_lt (b := 2 ^ (64 * 8)) h0 h1, emod_succ]
  grind
theorem sofar_zero (x y : Int) (i : Nat) : sofar x y i 0 = x % 2 ^ (64 * i) * y := by
  unfold sofar; simp [Int.emod_one]
theorem sofar_nonneg (x y : Int) (i j : Nat) (h0 : 0 ≤ y) : 0 ≤ sofar x y i j := by
  have hp := pow_pos2 (64 * i)
  have hq := pow_pos2 (64 * j)
  unfold sofar
  have a := Int.mul_nonneg (Int.emod_nonneg x (show (2 : Int) ^ (64 * i) ≠ 0 by omega)) h0
  have b := Int.mul_nonneg (Int.mul_nonneg (lim_bd x i).1 (Int.emod_nonneg y (show (2 : Int) ^ (64 * j) ≠ 0 by omega))) (show 0 ≤ (2 : Int) ^ (64 * i) by omega)
  omega
/-- Two limbs of a product, laid one after the other. -/
theorem put_two (t p : Int) (n : Nat) : t + p % 18446744073709551616 * 2 ^ (64 * n) + p / 18446744073709551616 * 2 ^ (64 * (n + 1)) = t + p * 2 ^ (64 * n) := by
  have e : (2 : Int) ^ (64 * (n + 1)) = 18446744073709551616 * 2 ^ (64 * n) := by
    rw [show 64 * (n + 1) = 64 + 64 * n by omega, Int.pow_add]; rfl
  have e2 := Int.emod_add_mul_ediv p 18446744073709551616
  rw [e]
  generalize p % 18446744073709551616 = r at *
  generalize p / 18446744073709551616 = q at *
  rw [← e2]; grind
theorem mul_lt_pow {x y : Int} {m n : Nat} (hx0 : 0 ≤ x) (hx : x < 2 ^ m) (hy0 : 0 ≤ y) (hy : y < 2 ^ n) : x * y < 2 ^ (m + n) := by
  rw [Int.pow_add]
  have hp := pow_pos2 m
  have hq := pow_pos2 n
  have h1 : x * y ≤ x * 2 ^ n := Int.mul_le_mul_of_nonneg_left (by omega) hx0
  have h2 : x * 2 ^ n < 2 ^ m * 2 ^ n := Int.mul_lt_mul_of_pos_right hx hq
  omega
theorem sofar_le (x y : Int) (i j : Nat) (hi : i < 8) (hj : j ≤ 8) (hx0 : 0 ≤ x) (hx1 : x < M) (h0 : 0 ≤ y) (h1 : y < M) : sofar x y i j < 2 ^ (64 * 17) := by
  have hp := pow_pos2 (64 * i)
  have hq := pow_pos2 (64 * j)
  have e : sofar x y i j ≤ sofar x y i 8 := by
    unfold sofar
    have a : y % 2 ^ (64 * j) ≤ y := by
      have := Int.emod_add_mul_ediv y (2 ^ (64 * j))
      have := Int.mul_nonneg (show 0 ≤ (2 : Int) ^ (64 * j) by omega) (Int.ediv_nonneg h0 (show 0 ≤ (2 : Int) ^ (64 * j) by omega))
      omega
    rw [Int.emod_eq_of_lt (b := 2 ^ (64 * 8)) h0 h1]
    have b := Int.mul_le_mul_of_nonneg_right (Int.mul_le_mul_of_nonneg_left a (lim_bd x i).1) (show 0 ≤ (2 : Int) ^ (64 * i) by omega)
    omega
  rw [sofar_row x y i h0 h1] at e
  have l0 := Int.emod_nonneg x (show (2 : Int) ^ (64 * (i + 1)) ≠ 0 by have := pow_pos2 (64 * (i + 1)); omega)
  have l1 := Int.emod_lt_of_pos x (pow_pos2 (64 * (i + 1)))
  have := mul_lt_pow l0 l1 h0 h1
  have := pow_mono2 (show 64 * (i + 1) + 64 * 8 ≤ 64 * 17 by omega)
  omega

set_option maxRecDepth 100000 in
set_option maxHeartbeats 1000000 in
theorem whole_gives (x y : Int) (hx0 : 0 ≤ x) (hx1 : x < M) (hy0 : 0 ≤ y) (hy1 : y < M) :
    Gives Tryd.prog 92 #[W x, W y, .func (.func 93) #[] #[]] [] (.agg (limbs 17 (x * y))) := by
  refine .mk fun w0 w hw => ?_
  go_enter Tryd.func92, Tryd.ntmps92
  go_wp2_with (first | (refine w_box (H := []) hw rfl 24 _ rfl _ rfl ?_; clear hw; intro k1 w hw) | (refine w_box (H := [_]) hw rfl 24 _ rfl _ rfl ?_; clear hw; intro k2 w hw) | (refine ok_alloc (H := []) hw rfl 122 rfl _ zero_prod ?_; clear hw; intro k1 w hw) | (refine ok_alloc (H := [_]) hw rfl 122 rfl _ zero_prod ?_; clear hw; intro k2 w hw) | (refine ok_alloc (H := [_, _]) hw rfl 122 rfl _ zero_prod ?_; clear hw; intro k3 w hw) | (refine ok_alloc (H := [_, _, _]) hw rfl 122 rfl _ zero_prod ?_; clear hw; intro k4 w hw) | (refine w_load hw rfl 24 _ rfl _ rfl agg_wide _ (by first | (apply Has.own; (repeat (first | assumption | exact List.mem_cons_self | apply List.mem_cons_of_mem)); done) | (apply Has.read; (repeat (first | assumption | exact List.mem_cons_self | apply List.mem_cons_of_mem)); done)) ?_))
  go_loopw [15] (fun v wr => ∃ i : Nat, i ≤ 8 ∧ v = .int .i64 i ∧ Ok Non w0 wr [(k4, limbs 17 (x % 2 ^ (64 * i) * y)), (k3, limbs 17 0), (k2, limbs 8 y), (k1, limbs 8 x)] []) (fun v _ => 8 - (intOf v).toNat)
  case atStart => exact ⟨0, by omega, rfl, by rw [show x % 2 ^ (64 * 0) * y = 0 by simp [Int.emod_one]]; exact hw⟩
  case round =>
    clear hw
    obtain ⟨i, hi, rfl, hw⟩ := hrel
    by_cases hlt : i < 8
    · rw [← sofar_zero] at hw
      go_wp2_with (first | (refine w_load hw rfl 24 _ rfl _ rfl agg_wide _ (by first | (apply Has.own; (repeat (first | assumption | exact List.mem_cons_self | apply List.mem_cons_of_mem)); done) | (apply Has.read; (repeat (first | assumption | exact List.mem_cons_self | apply List.mem_cons_of_mem)); done)) ?_) | (refine w_index rfl _ _ _ _ rfl 8 Tryd.underlying24 one_u64 _ rfl i rfl hlt ?_))
      go_loopw [20] (fun v wr => ∃ j : Nat, j ≤ 8 ∧ v = .int .i64 j ∧ Ok Non w0 wr [(k4, limbs 17 (sofar x y i j)), (k3, limbs 17 0), (k2, limbs 8 y), (k1, limbs 8 x)] []) (fun v _ => 8 - (intOf v).toNat)
      case atStart => exact ⟨0, by omega, rfl, hw⟩
      case round =>
        clear hw
        obtain ⟨j, hj, rfl, hw⟩ := hrel
        by_cases hjlt : j < 8
        · have hnx := sofar_next x y i j
          have h0 := sofar_nonneg x y i j hy0
          have h1 := sofar_le x y i (j + 1) hlt (by omega) hx0 hx1 hy0 hy1
          have hbx := lim_bd x i
          have hby := lim_bd y j
          have hmul := limbmul_gives (lim x i) (lim y j) hbx.1 hbx.2 hby.1 hby.2
          have htw := put_two (sofar x y i j) (lim x i * lim y j) (i + j)
          have hpos := Int.mul_nonneg hbx.1 hby.1
          have hlo := Int.emod_nonneg (lim x i * lim y j) (show (18446744073709551616 : Int) ≠ 0 by omega)
          have hlo2 := Int.emod_lt_of_pos (lim x i * lim y j) (show (0 : Int) < 18446744073709551616 by omega)
          have hhi := Int.ediv_nonneg hpos (show (0 : Int) ≤ 18446744073709551616 by omega)
          have hhi2 : lim x i * lim y j / 18446744073709551616 < 18446744073709551616 := by
            refine Int.ediv_lt_of_lt_mul (by omega) ?_
            have := Int.mul_le_mul (show lim x i ≤ 18446744073709551615 by omega) (show lim y j ≤ 18446744073709551615 by omega) hby.1 (by omega)
            omega
          rw [← hnx] at htw
          generalize lim x i * lim y j / 18446744073709551616 = hg at *
          generalize lim x i * lim y j % 18446744073709551616 = lw at *
          have hp1 := Int.mul_nonneg hlo (show 0 ≤ (2 : Int) ^ (64 * (i + j)) by have := pow_pos2 (64 * (i + j)); omega)
          have hp2 := Int.mul_nonneg hhi (show 0 ≤ (2 : Int) ^ (64 * (i + j + 1)) by have := pow_pos2 (64 * (i + j + 1)); omega)
          clear hnx
          obtain ⟨T2, hT2⟩ : ∃ T2, T2 = sofar x y i (j + 1) := ⟨_, rfl⟩
          rw [← hT2] at htw h1
          obtain ⟨T0, hT0⟩ : ∃ T0, T0 = sofar x y i j := ⟨_, rfl⟩
          rw [← hT0] at htw h0 hw
          clear hT0
          obtain ⟨T1, hT1⟩ : ∃ T1, T1 = T0 + lw * 2 ^ (64 * (i + j)) := ⟨_, rfl⟩
          rw [← hT1] at htw
          have tok : True := trivial
          have f1 := Lib.hid (show (i : Int) + j = ((i + j : Nat) : Int) by omega)
          have f2 := Lib.hid (show (i : Int) + j + 1 = ((i + j + 1 : Nat) : Int) by omega)
          have f3 : i + j ≤ 16 := by omega
          have f4 : i + j + 1 ≤ 16 := by omega
          have f5 : T0 + lw * 2 ^ (64 * (i + j)) < 2 ^ (64 * 17) := by omega
          have f6 : 0 ≤ T1 := by omega
          have f7 : T1 + hg * 2 ^ (64 * (i + j + 1)) < 2 ^ (64 * 17) := by omega
          have e1 := Lib.hid hT1
          have e2 := Lib.hid htw
          have e3 := Lib.hid hT2
          clear hT1 htw hT2 hp1 hp2
          go_wp2_with (first | (refine w_load hw rfl 24 _ rfl _ rfl agg_wide _ (by first | (apply Has.own; (repeat (first | assumption | exact List.mem_cons_self | apply List.mem_cons_of_mem)); done) | (apply Has.read; (repeat (first | assumption | exact List.mem_cons_self | apply List.mem_cons_of_mem)); done)) ?_) | (go_at_call 93; refine (all_gives _).call0 hw ?_; clear hw; intro w hw) | (refine w_index rfl _ _ _ _ rfl 8 Tryd.underlying24 one_u64 _ rfl j rfl hjlt ?_) | (go_at_call 94; refine hmul.call0 hw ?_; clear hw; intro w hw) | (clear tok; go_at_call 95; refine put_call T0 lw _ T1 (i + j) k4 f1.out e1.out f3 hlo hlo2 h0 f5 hw ?_; clear hw; intro w hw) | (go_at_call 95; refine put_call T1 hg _ T2 (i + j + 1) k4 f2.out e2.out.symm f4 hhi hhi2 f6 f7 hw ?_; clear hw; intro w hw))
          rw [e3.out] at hw
          exact ⟨⟨j + 1, by omega, by go_num, hw⟩, by simp [intOf]; omega⟩
        · have hj8 : j = 8 := by omega
          subst hj8
          rw [sofar_row x y i hy0 hy1] at hw
          go_wp2_with fail
          exact ⟨⟨i + 1, by omega, by go_num, hw⟩, by simp [intOf]; omega⟩
    · have hi8 : i = 8 := by omega
      subst hi8
      rw [Int.emod_eq_of_lt (b := 2 ^ (64 * 8)) hx0 hx1] at hw
      go_wp2_with (first | (refine ok_load hw rfl 122 _ rfl _ rfl _ agg_prod _ (by first | (apply Has.own; (repeat (first | assumption | exact List.mem_cons_self | apply List.mem_cons_of_mem)); done) | (apply Has.read; (repeat (first | assumption | exact List.mem_cons_self | apply List.mem_cons_of_mem)); done)) (by simp) ?_) | (refine ok_store hw rfl 122 _ _ rfl _ rfl _ rfl _ agg_prod _ (by repeat (first | exact At.head _ | apply At.tail)) (by simp) (by simp) (ones_limbs _ _) ?_; clear hw; intro w hw))
      refine ret_c rfl rfl agg_prod (hw.rows _ (.tail _ (.head _))) (by simp) rfl ⟨rfl, hw.below⟩
end Go.Proofs.YtcodmeljjphoeaaDoor
