/-
  The references' products: plain.
-/
import Derived.Test.YtcodmeljjphoeaaDoorBigF
namespace Go.Proofs.YtcodmeljjphoeaaDoor
open Go.RowKit
set_option linter.unusedVariables false
set_option linter.unusedSimpArgs false

theorem p32_succ (p : Nat) : (2 : Int) ^ (32 * (p + 1)) = 4294967296 * 2 ^ (32 * p) := by
  rw [show (4294967296 : Int) = 2 ^ 32 by rfl, ← Int.pow_add]; congr 1; omega
theorem p32_add (i k : Nat) : (2 : Int) ^ (32 * (i + k)) = 2 ^ (32 * i) * 2 ^ (32 * k) := by
  rw [← Int.pow_add]; congr 1; omega
theorem bmul_digit {c d x y : Int} (hc : 0 ≤ c ∧ c < 4294967296) (hd : 0 ≤ d ∧ d < 4294967296) (hx : 0 ≤ x ∧ x < 4294967296) (hy : 0 ≤ y ∧ y < 4294967296) :
    0 ≤ x * y ∧ x * y < 18446744073709551616 ∧ 0 ≤ c + d + x * y ∧ c + d + x * y < 18446744073709551616 ∧ 0 ≤ (c + d + x * y) / 4294967296 ∧ (c + d + x * y) / 4294967296 < 4294967296 := by
  have h0 : 0 ≤ x * y := Int.mul_nonneg hx.1 hy.1
  have h1 : x * y ≤ 4294967295 * 4294967295 := Int.mul_le_mul (by omega) (by omega) hy.1 (by omega)
  generalize x * y = z at *
  omega
theorem bmul_step {V c x y : Int} {i k : Nat} (h : V + c * 2 ^ (32 * (i + k)) = x % 2 ^ (32 * i) * y + dg x i * 2 ^ (32 * i) * (y % 2 ^ (32 * k))) :
    stuck V (i + k) ((c + dg V (i + k) + dg x i * dg y k) % 4294967296) + (c + dg V (i + k) + dg x i * dg y k) / 4294967296 * 2 ^ (32 * (i + (k + 1)))
      = x % 2 ^ (32 * i) * y + dg x i * 2 ^ (32 * i) * (y % 2 ^ (32 * (k + 1))) := by
  rw [dg_mod y k, show i + (k + 1) = (i + k) + 1 by omega, p32_succ]
  unfold stuck
  have e := Int.emod_add_mul_ediv (c + dg V (i + k) + dg x i * dg y k) 4294967296
  generalize hd : (c + dg V (i + k) + dg x i * dg y k) % 4294967296 = d at *
  generalize hq : (c + dg V (i + k) + dg x i * dg y k) / 4294967296 = q at *
  rw [p32_add] at *
  generalize dg V (i + k) = v at *
  generalize dg x i = a at *
  generalize dg y k = b at *
  generalize (2 : Int) ^ (32 * i) = p at *
  generalize (2 : Int) ^ (32 * k) = r at *
  have e2 : d = c + v + a * b - 4294967296 * q := by omega
  subst e2
  have e3 : V = x % p * y + a * p * (y % r) - c * (p * r) := by omega
  rw [e3]
  grind
theorem bmul_end {V c x y : Int} {i m : Nat} (hy0 : 0 ≤ y) (hy : y < 2 ^ (32 * m)) (hV0 : 0 ≤ V) (hV : V < 2 ^ (32 * (i + m))) (h : V + c * 2 ^ (32 * (i + m)) = x % 2 ^ (32 * i) * y + dg x i * 2 ^ (32 * i) * (y % 2 ^ (32 * m))) :
    stuck V (i + m) c = x % 2 ^ (32 * (i + 1)) * y := by
  rw [Int.emod_eq_of_lt hy0 hy] at h
  unfold stuck
  rw [dg_high hV0 hV (Nat.le_refl _), dg_mod]
  rw [Int.sub_zero, h]
  grind
end Go.Proofs.YtcodmeljjphoeaaDoor
