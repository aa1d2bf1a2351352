/-
  Limbs of shifted numbers.
-/
import Derived.Test.YtcodmeljjphoeaaDoorRuns
namespace Go.Proofs.YtcodmeljjphoeaaDoor

theorem shift_split (Z P Q N : Int) (hP : 0 < P) (hQ : 0 < Q) (hN : P * Q = N) : Z / P % N = (Z / N % N) * Q % N + Z % N / P := by
  have hN0 : 0 < N := by rw [← hN]; exact Int.mul_pos hP hQ
  have e1 : Z = N * (Z / N) + Z % N := by have := Int.emod_add_mul_ediv Z N; omega
  have b0 := Int.emod_nonneg Z (show N ≠ 0 by omega)
  have b1 := Int.emod_lt_of_pos Z hN0
  generalize Z / N = a at *
  generalize Z % N = b at *
  have e2 : Z / P = Q * a + b / P := by
    rw [e1, ← hN, show P * Q * a + b = b + P * (Q * a) by grind, Int.add_mul_ediv_left _ _ (by omega)]
    omega
  have c0 : 0 ≤ b / P := Int.ediv_nonneg b0 (by omega)
  have c1 : b / P < Q := Int.ediv_lt_of_lt_mul hP (by rw [Int.mul_comm, hN]; exact b1)
  have e3 : ∀ x : Int, x * Q % N = Q * (x % P) := fun x => by
    rw [← hN, Int.mul_comm x Q, Int.mul_comm P Q, Int.mul_emod_mul_of_pos _ _ hQ]
  have e4 : (a % N) % P = a % P := Int.emod_emod_of_dvd a (by rw [← hN]; exact Int.dvd_mul_right P Q)
  rw [e2, e3, e4]
  have d0 := Int.emod_nonneg a (show P ≠ 0 by omega)
  have d1 := Int.emod_lt_of_pos a hP
  have e5 := Int.emod_add_mul_ediv a P
  have e6 : Q * a + b / P = Q * (a % P) + b / P + N * (a / P) := by rw [← hN]; grind
  have f1 : Q * (a % P) ≤ Q * (P - 1) := Int.mul_le_mul_of_nonneg_left (by omega) (by omega)
  have f2 : Q * (P - 1) = N - Q := by rw [← hN]; grind
  have f3 : 0 ≤ Q * (a % P) := Int.mul_nonneg (by omega) d0
  rw [e6, Int.add_mul_emod_self_left, Int.emod_eq_of_lt (by omega) (by omega)]

theorem or64_add (x y : Int) (r : Nat) (hy0 : 0 ≤ y) (hy : y < 2 ^ r) (hx0 : 0 ≤ x) : or64 (x * 2 ^ r) y = x * 2 ^ r + y := by
  unfold or64
  obtain ⟨a, rfl⟩ := Int.eq_ofNat_of_zero_le hx0
  obtain ⟨b, rfl⟩ := Int.eq_ofNat_of_zero_le hy0
  have e : ((a : Int) * 2 ^ r).toNat = 2 ^ r * a := by
    have : (a : Int) * 2 ^ r = ((2 ^ r * a : Nat) : Int) := by rw [Int.natCast_mul, Int.mul_comm]; rfl
    rw [this, Int.toNat_natCast]
  have hb : b < 2 ^ r := by
    have : ((b : Nat) : Int) < ((2 ^ r : Nat) : Int) := by simpa using hy
    exact Int.ofNat_lt.1 this
  rw [e, Int.toNat_natCast, ← Nat.two_pow_add_eq_or_of_lt hb, Int.natCast_add, Int.natCast_mul, Int.mul_comm]
  rfl

/-- Two limbs, side by side, shifted together. -/
theorem or_shift (Z : Int) (s : Nat) (hs : s ≤ 64) : or64 (shl64 (Z / 2 ^ 64 % 2 ^ 64) (64 - s)) (shr64 (Z % 2 ^ 64) s) = Z / 2 ^ s % 2 ^ 64 := by
  have hp := pow_pos2 s
  have hq := pow_pos2 (64 - s)
  have hpq : (2 : Int) ^ s * 2 ^ (64 - s) = 2 ^ 64 := by rw [← Int.pow_add]; congr 1; omega
  have h := shift_split Z _ _ _ hp hq hpq
  have e1 : shl64 (Z / 2 ^ 64 % 2 ^ 64) (64 - s) = 2 ^ (64 - s) * ((Z / 2 ^ 64 % 2 ^ 64) % 2 ^ s) := by
    unfold shl64
    rw [show min ((64 : Int) - s).toNat 64 = 64 - s by omega, show (18446744073709551616 : Int) = 2 ^ 64 by rfl, ← hpq, Int.mul_comm ((Z / (2 ^ s * 2 ^ (64 - s))) % _) _, Int.mul_comm (2 ^ s) (2 ^ (64 - s)), Int.mul_emod_mul_of_pos _ _ hq]
  have e2 : shr64 (Z % 2 ^ 64) s = Z % 2 ^ 64 / 2 ^ s := by
    unfold shr64
    rw [show min ((s : Int)).toNat 64 = s by omega]
  have c0 : 0 ≤ Z % 2 ^ 64 / 2 ^ s := Int.ediv_nonneg (Int.emod_nonneg _ (by omega)) (by omega)
  have c1 : Z % 2 ^ 64 / 2 ^ s < 2 ^ (64 - s) := Int.ediv_lt_of_lt_mul hp (by rw [Int.mul_comm, hpq]; exact Int.emod_lt_of_pos _ (by omega))
  have h3 : (Z / 2 ^ 64 % 2 ^ 64) * 2 ^ (64 - s) % 2 ^ 64 = 2 ^ (64 - s) * ((Z / 2 ^ 64 % 2 ^ 64) % 2 ^ s) := by
    rw [← e1]; unfold shl64
    rw [show min ((64 : Int) - s).toNat 64 = 64 - s by omega]; rfl
  rw [e1, e2, Int.mul_comm, or64_add _ _ _ c0 c1 (Int.emod_nonneg _ (by omega)), h, h3]
  rw [Int.mul_comm]

theorem lim_pow (z : Int) (i : Nat) : lim z i = z / 2 ^ (64 * i) % 2 ^ 64 := rfl
theorem ediv_pow (z : Int) (a b : Nat) : z / 2 ^ a / 2 ^ b = z / 2 ^ (a + b) := by
  rw [Int.pow_add, Int.ediv_ediv_of_nonneg (by have := pow_pos2 a; omega)]
theorem lim_succ (z : Int) (i : Nat) : lim z (i + 1) = z / 2 ^ (64 * i) / 2 ^ 64 % 2 ^ 64 := by
  rw [lim_pow, ediv_pow]; congr 2

/-- down: the limb of a number divided by 2^(64 k + r). -/
theorem lim_down (z : Int) (i k r : Nat) (hr : r < 64) : or64 (shr64 (lim z (i + k)) r) (shl64 (lim z (i + k + 1)) (64 - r)) = lim (z / 2 ^ (64 * k + r)) i := by
  have h := or_shift (z / 2 ^ (64 * (i + k))) r (by omega)
  rw [lim_succ, lim_pow z (i + k)]
  have hc : ∀ x y : Int, or64 x y = or64 y x := fun x y => by unfold or64; rw [Nat.or_comm]
  rw [hc, h, lim_pow, ediv_pow, ediv_pow]
  congr 2; congr 1; omega

theorem mul_pow_ediv (z : Int) (a b : Nat) (h : b ≤ a) : z * 2 ^ a / 2 ^ b = z * 2 ^ (a - b) := by
  have : (2 : Int) ^ a = 2 ^ (a - b) * 2 ^ b := by rw [← Int.pow_add]; congr 1; omega
  rw [this, ← Int.mul_assoc, Int.mul_ediv_cancel _ (by have := pow_pos2 b; omega)]
theorem mul_pow_ediv' (z : Int) (a b : Nat) (h : a ≤ b) : z * 2 ^ a / 2 ^ b = z / 2 ^ (b - a) := by
  have : (2 : Int) ^ b = 2 ^ a * 2 ^ (b - a) := by rw [← Int.pow_add]; congr 1; omega
  rw [this, Int.mul_comm z, Int.mul_ediv_mul_of_pos _ _ (pow_pos2 a)]

/-- up: the limb of a number times 2^(64 q + r). -/
theorem lim_up0 (z : Int) (i q r : Nat) (h : i < q) : lim (z * 2 ^ (64 * q + r)) i = 0 := by
  rw [lim_pow, mul_pow_ediv _ _ _ (by omega)]
  rw [show 64 * q + r - 64 * i = (64 * (q - i - 1) + r) + 64 by omega, Int.pow_add, ← Int.mul_assoc]
  exact Int.mul_emod_left _ _
theorem lim_up1 (z : Int) (q r : Nat) (hr : r < 64) : lim (z * 2 ^ (64 * q + r)) q = shl64 (lim z 0) r := by
  rw [lim_pow, mul_pow_ediv _ _ _ (by omega), show 64 * q + r - 64 * q = r by omega]
  unfold shl64 lim
  rw [show min ((r : Int)).toNat 64 = r by omega]
  simp only [Nat.mul_zero, Int.pow_zero, Int.ediv_one]
  show z * 2 ^ r % 18446744073709551616 = _
  rw [Int.mul_emod (z % 18446744073709551616), Int.emod_emod_of_dvd _ (Int.dvd_refl _), ← Int.mul_emod]
theorem lim_up2 (z : Int) (j q r : Nat) (hr : r < 64) : lim (z * 2 ^ (64 * q + r)) (q + j + 1) = or64 (shl64 (lim z (j + 1)) r) (shr64 (lim z j) (64 - r)) := by
  have h := or_shift (z / 2 ^ (64 * j)) (64 - r) (by omega)
  rw [lim_succ z j, lim_pow z j, lim_pow (z * _), mul_pow_ediv' _ _ _ (by omega)]
  rw [show ((64 - r : Nat) : Int) = 64 - (r : Int) by omega, show (64 : Int) - (64 - (r : Int)) = r by omega] at h
  rw [h, ediv_pow]
  congr 3; omega
end Go.Proofs.YtcodmeljjphoeaaDoor
