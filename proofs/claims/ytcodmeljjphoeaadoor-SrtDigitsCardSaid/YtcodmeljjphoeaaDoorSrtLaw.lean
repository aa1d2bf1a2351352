/-
  Layer 15's plain law: the digits of a quotient, and what is left.
-/
import Derived.Test.YtcodmeljjphoeaaDoorTableA
namespace Go.Proofs.YtcodmeljjphoeaaDoor
set_option linter.unusedVariables false

theorem pickv_cases' (b : Nat → Int) (y : Int) : (pickv b y = 2 ∧ b 0 ≤ y) ∨ (pickv b y = 1 ∧ y < b 0 ∧ b 1 ≤ y) ∨ (pickv b y = 0 ∧ y < b 1 ∧ b 2 ≤ y) ∨ (pickv b y = -1 ∧ y < b 2 ∧ b 3 ≤ y) ∨ (pickv b y = -2 ∧ y < b 3) := by
  unfold pickv
  simp only [pickf]
  simp only [Nat.sub_self, Nat.sub_zero, show 3 - 2 = 1 from rfl, show 3 - 1 = 2 from rfl]
  by_cases h0 : b 0 ≤ y
  · left; rw [if_pos h0]; exact ⟨by omega, h0⟩
  · by_cases h1 : b 1 ≤ y
    · right; left; rw [if_neg h0, if_pos h1]; exact ⟨by omega, by omega, h1⟩
    · by_cases h2 : b 2 ≤ y
      · right; right; left; rw [if_neg h0, if_neg h1, if_pos h2]; exact ⟨by omega, by omega, h2⟩
      · by_cases h3 : b 3 ≤ y
        · right; right; right; left; rw [if_neg h0, if_neg h1, if_neg h2, if_pos h3]; exact ⟨by omega, by omega, h3⟩
        · right; right; right; right; rw [if_neg h0, if_neg h1, if_neg h2, if_neg h3]; exact ⟨by omega, by omega⟩
theorem pickv_bd' (b : Nat → Int) (y : Int) : -2 ≤ pickv b y ∧ pickv b y ≤ 2 := by
  rcases pickv_cases' b y with h | h | h | h | h <;> omega

/-- The bounds of a row. -/
def tb (r : Int) : Nat → Int
  | 0 => (4 * (r + 1) + 2) / 3
  | 1 => (r + 1 + 2) / 3
  | 2 => (-2 * r + 2) / 3
  | _ => (-5 * r + 2) / 3

/-- The digit of a place, of a divisor that is shifted up, and what is left. -/
def sdig (D L : Int) (pl : Nat) : Int := pickv (tb (D / 2 ^ 124)) (L / 2 ^ (124 + 2 * pl))
/-- What is left behind i steps; the digits; the number of the first i digits. -/
def sl (X D : Int) : Nat → Int
  | 0 => X
  | i + 1 => sl X D i - D * 2 ^ (2 * (64 - i)) * sdig D (sl X D i) (64 - i)
def sd (X D : Int) (i : Nat) : Int := sdig D (sl X D i) (64 - i)
def sq (X D : Int) : Nat → Int
  | 0 => 0
  | i + 1 => 4 * sq X D i + sd X D i

/-- One digit is near: u a sixteenth times the place's worth w, y what is left in these. -/
theorem srt_pick (D L u w r y : Int) (hu : 0 < u) (hw : 0 < w) (hr : 8 ≤ r ∧ r ≤ 15) (hD0 : r * u ≤ D) (hD1 : D < (r + 1) * u) (hy0 : y * (u * w) ≤ L) (hy1 : L < (y + 1) * (u * w))
    (hlo : -(8 * (D * w)) ≤ 3 * L) (hhi : 3 * L ≤ 8 * (D * w)) : -(2 * (D * w)) ≤ 3 * (L - D * w * pickv (tb r) y) ∧ 3 * (L - D * w * pickv (tb r) y) ≤ 2 * (D * w) := by
  have huw : 0 < u * w := Int.mul_pos hu hw
  have d0 : r * (u * w) ≤ D * w := by
    have := Int.mul_le_mul_of_nonneg_right hD0 (show 0 ≤ w by omega); rwa [Int.mul_assoc] at this
  have d1 : D * w < (r + 1) * (u * w) := by
    have := Int.mul_lt_mul_of_pos_right hD1 hw; rwa [Int.mul_assoc] at this
  generalize D * w = E at *
  generalize u * w = v at *
  have key : ∀ a b : Int, a ≤ b → a * v ≤ b * v := fun a b h => Int.mul_le_mul_of_nonneg_right h (by omega)
  have e1 : (y + 1) * v = y * v + v := by grind
  have e2 : (r + 1) * v = r * v + v := by grind
  rcases pickv_cases' (tb r) y with ⟨h, b0⟩ | ⟨h, b0, b1⟩ | ⟨h, b0, b1⟩ | ⟨h, b0, b1⟩ | ⟨h, b0⟩ <;> rw [h] <;> simp only [tb] at *
  · have k := key (4 * (r + 1)) (3 * y) (by omega)
    have f1 : 4 * (r + 1) * v = 4 * (r * v) + 4 * v := by grind
    have f2 : 3 * y * v = 3 * (y * v) := by grind
    omega
  · have k := key (r + 1) (3 * y) (by omega)
    have k2 := key (3 * (y + 1)) (5 * r) (by omega)
    have f2 : 3 * y * v = 3 * (y * v) := by grind
    have f3 : 3 * (y + 1) * v = 3 * (y * v) + 3 * v := by grind
    have f4 : 5 * r * v = 5 * (r * v) := by grind
    omega
  · have k := key (-2 * r) (3 * y) (by omega)
    have k2 := key (3 * (y + 1)) (2 * r) (by omega)
    have f1 : -2 * r * v = -(2 * (r * v)) := by grind
    have f2 : 3 * y * v = 3 * (y * v) := by grind
    have f3 : 3 * (y + 1) * v = 3 * (y * v) + 3 * v := by grind
    have f4 : 2 * r * v = 2 * (r * v) := by grind
    omega
  · have k := key (-5 * r) (3 * y) (by omega)
    have k2 := key (3 * (y + 1)) (-(r + 1)) (by omega)
    have f1 : -5 * r * v = -(5 * (r * v)) := by grind
    have f2 : 3 * y * v = 3 * (y * v) := by grind
    have f3 : 3 * (y + 1) * v = 3 * (y * v) + 3 * v := by grind
    have f4 : -(r + 1) * v = -(r * v) - v := by grind
    omega
  · have k2 := key (3 * (y + 1)) (-(4 * (r + 1))) (by omega)
    have f3 : 3 * (y + 1) * v = 3 * (y * v) + 3 * v := by grind
    have f4 : -(4 * (r + 1)) * v = -(4 * (r * v)) - 4 * v := by grind
    omega

/-- What is left behind i steps isn't beyond two thirds of the divisor, times the worth of the last digit. -/
def SKept (X D : Int) (i : Nat) : Prop := -(2 * (D * 2 ^ (2 * (65 - i)))) ≤ 3 * sl X D i ∧ 3 * sl X D i ≤ 2 * (D * 2 ^ (2 * (65 - i)))

theorem row_bd {D : Int} (h0 : 2 ^ 127 ≤ D) (h1 : D < 2 ^ 128) : (8 ≤ D / 2 ^ 124 ∧ D / 2 ^ 124 ≤ 15) ∧ D / 2 ^ 124 * 2 ^ 124 ≤ D ∧ D < (D / 2 ^ 124 + 1) * 2 ^ 124 := by
  have hp := pow_pos2 124
  have e127 : (2 : Int) ^ 127 = 8 * 2 ^ 124 := by rw [show 127 = 3 + 124 by rfl, Int.pow_add]; rfl
  have e128 : (2 : Int) ^ 128 = 16 * 2 ^ 124 := by rw [show 128 = 4 + 124 by rfl, Int.pow_add]; rfl
  rw [e127] at h0
  rw [e128] at h1
  have e := Int.emod_add_mul_ediv D (2 ^ 124)
  have m0 := Int.emod_nonneg D (show (2 : Int) ^ 124 ≠ 0 by omega)
  have m1 := Int.emod_lt_of_pos D hp
  generalize (2 : Int) ^ 124 = u at *
  have a : D / u < 16 := Int.ediv_lt_of_lt_mul hp (by omega)
  have b : 8 ≤ D / u := by
    have := Int.ediv_le_ediv hp h0
    rwa [Int.mul_ediv_cancel _ (by omega)] at this
  have c : (D / u + 1) * u = u * (D / u) + u := by grind
  have d : D / u * u = u * (D / u) := Int.mul_comm _ _
  exact ⟨⟨b, by omega⟩, by omega, by omega⟩

theorem skept_step {X D : Int} (h0 : 2 ^ 127 ≤ D) (h1 : D < 2 ^ 128) {i : Nat} (hi : i < 65) (h : SKept X D i) : SKept X D (i + 1) := by
  obtain ⟨hr, hD0, hD1⟩ := row_bd h0 h1
  have hw := pow_pos2 (2 * (64 - i))
  have hu := pow_pos2 124
  have e1 : (2 : Int) ^ (2 * (65 - i)) = 4 * 2 ^ (2 * (64 - i)) := by rw [show 2 * (65 - i) = 2 + 2 * (64 - i) by omega, Int.pow_add]; rfl
  have e2 : (2 : Int) ^ (124 + 2 * (64 - i)) = 2 ^ 124 * 2 ^ (2 * (64 - i)) := Int.pow_add _ _ _
  obtain ⟨k0, k1⟩ := h
  unfold SKept
  show -(2 * (D * 2 ^ (2 * (65 - (i + 1))))) ≤ 3 * (sl X D i - D * 2 ^ (2 * (64 - i)) * sdig D (sl X D i) (64 - i)) ∧ _
  rw [show 65 - (i + 1) = 64 - i by omega]
  show _ ∧ 3 * (sl X D i - D * 2 ^ (2 * (64 - i)) * sdig D (sl X D i) (64 - i)) ≤ _
  unfold sdig
  rw [e1] at k0 k1
  rw [e2]
  generalize sl X D i = L at *
  generalize (2 : Int) ^ (2 * (64 - i)) = w at *
  generalize (2 : Int) ^ 124 = u at *
  have huw : 0 < u * w := Int.mul_pos hu hw
  have e := Int.emod_add_mul_ediv L (u * w)
  have m0 := Int.emod_nonneg L (show u * w ≠ 0 by omega)
  have m1 := Int.emod_lt_of_pos L huw
  have f1 : D * (4 * w) = 4 * (D * w) := by grind
  have f2 : (L / (u * w) + 1) * (u * w) = u * w * (L / (u * w)) + u * w := by grind
  have f3 : L / (u * w) * (u * w) = u * w * (L / (u * w)) := Int.mul_comm _ _
  rw [f1] at k0 k1
  exact srt_pick D L u w (D / u) (L / (u * w)) hu hw hr hD0 hD1 (by omega) (by omega) (by omega) (by omega)
theorem skept_all {X D : Int} (h0 : 2 ^ 127 ≤ D) (h1 : D < 2 ^ 128) (hX0 : 0 ≤ X) (hX1 : X < D * 2 ^ 128) : ∀ i : Nat, i ≤ 65 → SKept X D i
  | 0, _ => by
    have e : (2 : Int) ^ (2 * (65 - 0)) = 4 * 2 ^ 128 := by rw [show 2 * (65 - 0) = 2 + 128 by rfl, Int.pow_add]; rfl
    have hp := pow_pos2 128
    have hp2 := pow_pos2 127
    unfold SKept
    rw [e, show D * (4 * 2 ^ 128) = 4 * (D * 2 ^ 128) by grind]
    show _ ≤ 3 * X ∧ 3 * X ≤ _
    have : 0 ≤ D * 2 ^ 128 := Int.mul_nonneg (by omega) (by omega)
    omega
  | i + 1, hi => skept_step h0 h1 (by omega) (skept_all h0 h1 hX0 hX1 i (by omega))

theorem sl_eq (X D : Int) : ∀ i : Nat, i ≤ 65 → X = D * sq X D i * 2 ^ (2 * (65 - i)) + sl X D i
  | 0, _ => by simp [sq, sl]
  | i + 1, hi => by
    have h := sl_eq X D i (by omega)
    have e1 : (2 : Int) ^ (2 * (65 - i)) = 4 * 2 ^ (2 * (64 - i)) := by rw [show 2 * (65 - i) = 2 + 2 * (64 - i) by omega, Int.pow_add]; rfl
    rw [show 65 - (i + 1) = 64 - i by omega]
    show X = D * (4 * sq X D i + sd X D i) * 2 ^ (2 * (64 - i)) + (sl X D i - D * 2 ^ (2 * (64 - i)) * sd X D i)
    rw [e1] at h
    generalize sq X D i = q at *
    generalize sd X D i = d at *
    generalize sl X D i = L at *
    generalize (2 : Int) ^ (2 * (64 - i)) = w at *
    rw [h]; grind

/-- The quotient and the remainder, out of the last digits' number and what is left. -/
theorem srt_end {n d : Int} {by' : Nat} (hd : 0 < d) (hn : 0 ≤ n) {X D : Int} (hX : X = n * 2 ^ by') (hD : D = d * 2 ^ by') (h0 : 2 ^ 127 ≤ D) (h1 : D < 2 ^ 128) (hX1 : X < D * 2 ^ 128) :
    (sl X D 65 < 0 → n / d = sq X D 65 - 1 ∧ (sl X D 65 + D) / 2 ^ by' = n % d ∧ 0 ≤ sl X D 65 + D) ∧ (¬ sl X D 65 < 0 → n / d = sq X D 65 ∧ sl X D 65 / 2 ^ by' = n % d) ∧ -(2 * D) ≤ 3 * sl X D 65 ∧ 3 * sl X D 65 ≤ 2 * D := by
  have hp := pow_pos2 by'
  have hX0 : 0 ≤ X := by rw [hX]; exact Int.mul_nonneg hn (by omega)
  have hk := skept_all h0 h1 hX0 hX1 65 (Nat.le_refl _)
  have he := sl_eq X D 65 (Nat.le_refl _)
  unfold SKept at hk
  simp only [Nat.sub_self, Nat.mul_zero, Int.pow_zero, Int.mul_one] at hk he
  generalize sl X D 65 = L at *
  generalize sq X D 65 = q at *
  have h127 := pow_pos2 127
  have fin : ∀ Q R : Int, n * 2 ^ by' = d * 2 ^ by' * Q + R → 0 ≤ R → R < d * 2 ^ by' → n / d = Q ∧ R / 2 ^ by' = n % d := by
    intro Q R hQ hR0 hR1
    have e : R = (n - d * Q) * 2 ^ by' := by rw [Int.sub_mul]; have : d * 2 ^ by' * Q = d * Q * 2 ^ by' := by grind
                                             omega
    have r0 : 0 ≤ n - d * Q := by
      rcases Int.lt_or_le (n - d * Q) 0 with h | h
      · have := Int.mul_lt_mul_of_pos_right h hp; omega
      · exact h
    have r1 : n - d * Q < d := by
      rcases Int.lt_or_le (n - d * Q) d with h | h
      · exact h
      · have := Int.mul_le_mul_of_nonneg_right h (show 0 ≤ (2 : Int) ^ by' by omega); omega
    have q1 : n / d = Q := by
      have : n = (n - d * Q) + d * Q := by omega
      rw [this, Int.add_mul_ediv_left _ _ (by omega), Int.ediv_eq_zero_of_lt r0 r1]; omega
    refine ⟨q1, ?_⟩
    rw [e, Int.mul_ediv_cancel _ (by omega)]
    have := Int.emod_add_mul_ediv n d
    rw [q1] at this
    omega
  subst hX hD
  refine ⟨fun h => ?_, fun h => ?_, hk.1, hk.2⟩
  · obtain ⟨a, b⟩ := fin (q - 1) (L + d * 2 ^ by') (by rw [Int.mul_sub]; omega) (by omega) (by omega)
    exact ⟨a, b, by omega⟩
  · exact fin q L he (by omega) (by omega)
end Go.Proofs.YtcodmeljjphoeaaDoor
