/-
  Numbers in limbs of 64 bits: 'limbs n z': the n lowest limbs of a whole number z of either sign (two's complement).
-/
import Derived.Test.YtcodmeljjphoeaaDoorMem
namespace Go.Proofs.YtcodmeljjphoeaaDoor
open Go.RowKit

/-- 2^64. -/
def B : Int := 18446744073709551616
/-- 2^512. -/
def M : Int := 2 ^ (64 * 8)

/-- Limb number i. -/
def lim (z : Int) (i : Nat) : Int := z / 2 ^ (64 * i) % 18446744073709551616
def limbs (n : Nat) (z : Int) : Array Value := ((List.range n).map fun i => Value.int .u64 (lim z i)).toArray
/-- A number of 512 bits, as a value. -/
def W (z : Int) : Value := .agg (limbs 8 z)

@[simp] theorem size_limbs (n : Nat) (z : Int) : (limbs n z).size = n := by simp [limbs]
theorem ones_limbs (n : Nat) (z : Int) : Ones (limbs n z) := by
  simp [Ones, limbs, Value.oneCell']
theorem limbs_get {n i : Nat} (z : Int) (h : i < n) : (limbs n z)[i]? = some (.int .u64 (lim z i)) := by
  simp [limbs, h]
theorem lim_nonneg (z : Int) (i : Nat) : 0 ≤ lim z i := Int.emod_nonneg _ (by omega)
theorem lim_lt (z : Int) (i : Nat) : lim z i < 18446744073709551616 := Int.emod_lt_of_pos _ (by omega)

theorem limbs_ext {n : Nat} {x y : Int} (h : ∀ i, i < n → lim x i = lim y i) : limbs n x = limbs n y := by
  unfold limbs
  congr 1
  apply List.map_congr_left
  intro i hi
  rw [h i (List.mem_range.1 hi)]

theorem pow_pos2 (n : Nat) : (0 : Int) < 2 ^ n := Int.pow_pos (by omega)
theorem pow_mono2 {a b : Nat} (h : a ≤ b) : (2 : Int) ^ a ≤ 2 ^ b := by
  obtain ⟨c, rfl⟩ := Nat.exists_eq_add_of_le h
  rw [Int.pow_add]
  have h1 := pow_pos2 a
  have h2 := pow_pos2 c
  have := Int.mul_le_mul_of_nonneg_left (show (1 : Int) ≤ 2 ^ c by omega) (show (0 : Int) ≤ 2 ^ a by omega)
  omega
theorem emod_mul' (z a b : Int) (ha : 0 < a) (hb : 0 < b) : z % (a * b) = z % a + z / a % b * a := by
  have h1 := Int.emod_add_mul_ediv z a
  have h2 := Int.emod_add_mul_ediv (z / a) b
  have b1 := Int.emod_nonneg z (show a ≠ 0 by omega)
  have b2 := Int.emod_lt_of_pos z ha
  have b3 := Int.emod_nonneg (z / a) (show b ≠ 0 by omega)
  have b4 := Int.emod_lt_of_pos (z / a) hb
  have e : z = (z % a + z / a % b * a) + a * b * (z / a / b) := by grind
  have h5 : z / a % b * a ≤ (b - 1) * a := Int.mul_le_mul_of_nonneg_right (by omega) (by omega)
  have h6 : 0 ≤ z / a % b * a := Int.mul_nonneg b3 (by omega)
  have h7 : (b - 1) * a = a * b - a := by grind
  have lo : 0 ≤ z % a + z / a % b * a := by omega
  have hi : z % a + z / a % b * a < a * b := by omega
  generalize z % a + z / a % b * a = r at *
  rw [e, Int.add_mul_emod_self_left]
  exact Int.emod_eq_of_lt lo hi

theorem lim_add_mul (z q : Int) (n i : Nat) (h : i < n) : lim (z + q * 2 ^ (64 * n)) i = lim z i := by
  unfold lim
  have e : (2 : Int) ^ (64 * n) = 2 ^ (64 * i) * (18446744073709551616 * 2 ^ (64 * (n - i - 1))) := by
    rw [show (18446744073709551616 : Int) = 2 ^ 64 by rfl, ← Int.pow_add, ← Int.pow_add]
    congr 1; omega
  rw [e]
  have hp := pow_pos2 (64 * i)
  rw [show z + q * (2 ^ (64 * i) * (18446744073709551616 * 2 ^ (64 * (n - i - 1)))) = z + 2 ^ (64 * i) * (q * (18446744073709551616 * 2 ^ (64 * (n - i - 1)))) by grind]
  rw [Int.add_mul_ediv_left _ _ (by omega)]
  rw [show q * (18446744073709551616 * 2 ^ (64 * (n - i - 1))) = 18446744073709551616 * (q * 2 ^ (64 * (n - i - 1))) by grind]
  rw [Int.add_mul_emod_self_left]

theorem lim_emod (z : Int) (n i : Nat) (h : i < n) : lim (z % 2 ^ (64 * n)) i = lim z i := by
  have := Int.emod_add_mul_ediv z (2 ^ (64 * n))
  rw [← lim_add_mul (z % 2 ^ (64 * n)) (z / 2 ^ (64 * n)) n i h]
  congr 1
  rw [Int.mul_comm]; exact this

theorem limbs_emod (n : Nat) (z : Int) : limbs n (z % 2 ^ (64 * n)) = limbs n z := limbs_ext fun i hi => lim_emod z n i hi

/-- From the limbs back: what the first i say. -/
theorem emod_succ (z : Int) (i : Nat) : z % 2 ^ (64 * (i + 1)) = z % 2 ^ (64 * i) + lim z i * 2 ^ (64 * i) := by
  unfold lim
  have hp := pow_pos2 (64 * i)
  have e : (2 : Int) ^ (64 * (i + 1)) = 2 ^ (64 * i) * 18446744073709551616 := by
    rw [show (18446744073709551616 : Int) = 2 ^ 64 by rfl, ← Int.pow_add]; rfl
  rw [e, emod_mul' z _ _ hp (by omega)]

theorem limbs_inj {n : Nat} {x y : Int} (h : limbs n x = limbs n y) : x % 2 ^ (64 * n) = y % 2 ^ (64 * n) := by
  have hl : ∀ i, i < n → lim x i = lim y i := fun i hi => by
    have h1 := limbs_get x hi
    rw [h, limbs_get y hi] at h1
    simpa using h1.symm
  have : ∀ i, i ≤ n → x % 2 ^ (64 * i) = y % 2 ^ (64 * i) := by
    intro i
    induction i with
    | zero => intro _; simp [Int.emod_one]
    | succ i ih => intro hi; rw [emod_succ, emod_succ, ih (by omega), hl i (by omega)]
  exact this n (Nat.le_refl n)

theorem limbs_iff {n : Nat} {x y : Int} : limbs n x = limbs n y ↔ x % 2 ^ (64 * n) = y % 2 ^ (64 * n) :=
  ⟨limbs_inj, fun h => by rw [← limbs_emod n x, h, limbs_emod]⟩

theorem W_iff {x y : Int} : W x = W y ↔ x % M = y % M := by
  unfold W M
  constructor
  · intro h; injection h with h; exact limbs_inj h
  · intro h; rw [limbs_iff.2 h]

theorem W_emod (x : Int) : W (x % M) = W x := by
  rw [W_iff]; exact Int.emod_emod_of_dvd x (Int.dvd_refl M)

/-- A limb is laid. -/
theorem limbs_set {n i : Nat} (z : Int) (v : Int) (h : i < n) (hz0 : 0 ≤ z) (hz : z < 2 ^ (64 * i)) (hv0 : 0 ≤ v) (hv : v < 18446744073709551616) :
    (limbs n z).setIfInBounds i (.int .u64 v) = limbs n (z + v * 2 ^ (64 * i)) := by
  have hp := pow_pos2 (64 * i)
  apply Array.ext_getElem?
  intro j
  rw [Array.getElem?_setIfInBounds]
  split
  · rename_i hij
    subst hij
    simp only [size_limbs]
    split
    · rename_i hi
      rw [limbs_get _ hi]
      unfold lim
      rw [Int.add_mul_ediv_right _ _ (by omega), Int.ediv_eq_zero_of_lt hz0 hz, Int.zero_add, Int.emod_eq_of_lt hv0 hv]
    · rename_i hi
      exact absurd h hi
  · rename_i hij
    by_cases hj : j < n
    · rw [limbs_get _ hj, limbs_get _ hj]
      congr 2
      rcases Nat.lt_or_gt_of_ne hij with h1 | h1
      · -- j above i: both are nought
        unfold lim
        have hz' : z < 2 ^ (64 * j) := Int.lt_of_lt_of_le hz (pow_mono2 (by omega))
        have h2 : z + v * 2 ^ (64 * i) < 2 ^ (64 * j) := by
          have : (2 : Int) ^ (64 * (i + 1)) ≤ 2 ^ (64 * j) := pow_mono2 (by omega)
          have e : (2 : Int) ^ (64 * (i + 1)) = 18446744073709551616 * 2 ^ (64 * i) := by
            rw [show (18446744073709551616 : Int) = 2 ^ 64 by rfl, ← Int.pow_add]; congr 1; omega
          have h3 : v * 2 ^ (64 * i) ≤ 18446744073709551615 * 2 ^ (64 * i) := Int.mul_le_mul_of_nonneg_right (by omega) (by omega)
          omega
        have h4 : 0 ≤ v * 2 ^ (64 * i) := Int.mul_nonneg hv0 (by omega)
        rw [Int.ediv_eq_zero_of_lt hz0 hz', Int.ediv_eq_zero_of_lt (by omega) h2]
      · rw [lim_add_mul z v i j h1]
    · rw [Array.getElem?_eq_none (by simp; omega), Array.getElem?_eq_none (by simp; omega)]

/-! The operations on memory at numbers of 512 bits. -/
section
variable {P : Program} {ops : Array Oper} {Q : Exit → Act → World → Prop} {rest : List Oper} {o : Oper} {a : Act} {S : Nat → Prop} {w0 w : World} {H R : List (Nat × Array Value)}
theorem w_box (h : Ok S w0 w H R) (hgd : o.guard = none) (t : TypeId) (x : Operand) (ho : o.op = .box t x) (z : Int) (hx : a.eval x = W z)
    (hk : ∀ k w', Ok S w0 w' ((k, limbs 8 z) :: H) R → wpList P ops Q rest (a.put o.dst (.pointer (some ⟨k, 0, none⟩))) w') : wpList P ops Q (o :: rest) a w :=
  ok_box h hgd t x ho _ hx hk
theorem w_load (h : Ok S w0 w H R) (hgd : o.guard = none) (t : TypeId) (x : Operand) (ho : o.op = .load t x) (k : Nat) (hx : a.eval x = .pointer (some ⟨k, 0, none⟩)) (hg : Agg P t 8) (z : Int) (hm : Has H R k (limbs 8 z))
    (hk : wpList P ops Q rest (a.put o.dst (W z)) w) : wpList P ops Q (o :: rest) a w :=
  ok_load h hgd t x ho k hx 8 hg _ hm (by simp) hk
theorem w_load_fst (h : Ok S w0 w H R) (hgd : o.guard = none) (t : TypeId) (x : Operand) (ho : o.op = .load t x) (k : Nat) (hx : a.eval x = .pointer (some ⟨k, 0, none⟩)) (hg : Agg P t 8) (z : Int) (B : Array Value) (hm : Has H R k (limbs 8 z ++ B))
    (hk : wpList P ops Q rest (a.put o.dst (W z)) w) : wpList P ops Q (o :: rest) a w :=
  ok_load_fst h hgd t x ho k hx 8 hg _ B hm (by simp) hk
theorem w_load_snd (h : Ok S w0 w H R) (hgd : o.guard = none) (t : TypeId) (x : Operand) (ho : o.op = .load t x) (k : Nat) (hx : a.eval x = .pointer (some ⟨k, 8, none⟩)) (hg : Agg P t 8) (y z : Int) (hm : Has H R k (limbs 8 y ++ limbs 8 z))
    (hk : wpList P ops Q rest (a.put o.dst (W z)) w) : wpList P ops Q (o :: rest) a w :=
  ok_load_snd h hgd t x ho k 8 hx 8 hg _ _ hm (by simp) (by simp) hk
theorem w_store (h : Ok S w0 w H R) (hgd : o.guard = none) (t : TypeId) (x y : Operand) (ho : o.op = .store t x y) (k : Nat) (hx : a.eval x = .pointer (some ⟨k, 0, none⟩)) (z : Int) (hy : a.eval y = W z) (hg : Agg P t 8) (v : Int) {H' : List (Nat × Array Value)} (hm : At k (limbs 8 v) (limbs 8 z) H H')
    (hk : ∀ w', Ok S w0 w' H' R → wpList P ops Q rest (a.put o.dst undef) w') : wpList P ops Q (o :: rest) a w :=
  ok_store h hgd t x y ho k hx _ hy 8 hg _ hm (by simp) (by simp) (ones_limbs _ _) hk
theorem w_store_fst (h : Ok S w0 w H R) (hgd : o.guard = none) (t : TypeId) (x y : Operand) (ho : o.op = .store t x y) (k : Nat) (hx : a.eval x = .pointer (some ⟨k, 0, none⟩)) (z : Int) (hy : a.eval y = W z) (hg : Agg P t 8) (v : Int) (B : Array Value) {H' : List (Nat × Array Value)} (hm : At k (limbs 8 v ++ B) (limbs 8 z ++ B) H H')
    (hk : ∀ w', Ok S w0 w' H' R → wpList P ops Q rest (a.put o.dst undef) w') : wpList P ops Q (o :: rest) a w :=
  ok_store_fst h hgd t x y ho k hx _ hy 8 hg _ B hm (by simp) (by simp) (ones_limbs _ _) hk
theorem run_load_w {ρ : Operand → Value} {t : TypeId} {x : Operand} (ho : o.op = .load t x) {k : Nat} {z : Int} (hx : ρ x = .pointer (some ⟨k, 0, none⟩)) (hg : Agg P t 8) (h : Blk w k (limbs 8 z)) : (execOp ρ o).run P w = .ok (.value (W z)) w := by
  rw [run_load_part ho h hx hg (by simp), extract_all _ 8 (by simp)]; rfl
theorem run_load_c {ρ : Operand → Value} {t : TypeId} {x : Operand} (ho : o.op = .load t x) {k off : Nat} {cs : Array Value} {v : Value} (hx : ρ x = .pointer (some ⟨k, off, none⟩)) (hg : One P t) (h : Blk w k cs) (hv : cs[off]? = some v) : (execOp ρ o).run P w = .ok (.value v) w :=
  run_load_cell ho h hx hg hv
theorem run_load_one {ρ : Operand → Value} {t : TypeId} {x : Operand} (ho : o.op = .load t x) {k : Nat} {v : Value} (hx : ρ x = .pointer (some ⟨k, 0, none⟩)) (hg : One P t) (h : Blk w k #[v]) : (execOp ρ o).run P w = .ok (.value v) w :=
  run_load_cell ho h hx hg rfl
/-- A pair of them, whole. -/
theorem w2_load (h : Ok S w0 w H R) (hgd : o.guard = none) (t : TypeId) (x : Operand) (ho : o.op = .load t x) (k : Nat) (hx : a.eval x = .pointer (some ⟨k, 0, none⟩)) (hg : Agg P t 16) (y z : Int) (hm : Has H R k (limbs 8 y ++ limbs 8 z))
    (hk : wpList P ops Q rest (a.put o.dst (.agg (limbs 8 y ++ limbs 8 z))) w) : wpList P ops Q (o :: rest) a w :=
  ok_load h hgd t x ho k hx 16 hg _ hm (by simp) hk
end

end Go.Proofs.YtcodmeljjphoeaaDoor
