/-
  Layer 16's plain law: the digits of a root, and how far the root so far is away.
-/
import Derived.Test.YtcodmeljjphoeaaTable
namespace Go.Proofs.Ytcodmeljjphoeaa
set_option linter.unusedVariables false

/-- The root so far behind j steps, and what comes next. -/
def rdig (j : Nat) (N p : Int) : Int := pickv (rb j (p / 2 ^ 122)) ((N - p * p) / 2 ^ (248 - 2 * j))
def rp (N : Int) : Nat → Int
  | 0 => 2 ^ 128
  | j + 1 => rp N j + 2 ^ (126 - 2 * j) * rdig j N (rp N j)
def rd (N : Int) (j : Nat) : Int := rdig j N (rp N j)

theorem pickv_cases (b : Nat → Int) (y : Int) : (pickv b y = 2 ∧ b 0 ≤ y) ∨ (pickv b y = 1 ∧ y < b 0 ∧ b 1 ≤ y) ∨ (pickv b y = 0 ∧ y < b 1 ∧ b 2 ≤ y) ∨ (pickv b y = -1 ∧ y < b 2 ∧ b 3 ≤ y) ∨ (pickv b y = -2 ∧ y < b 3) := by
  unfold pickv
  simp only [pickf]
  simp only [Nat.sub_self, Nat.sub_zero, show 3 - 2 = 1 from rfl, show 3 - 1 = 2 from rfl]
  by_cases h0 : b 0 ≤ y
  · left; rw [if_pos h0]; exact ⟨by omega, h0⟩
  · by_cases h1 : b 1 ≤ y
    · right; left; rw [if_neg h0, if_pos h1]; exact ⟨by omega, by omega, h1⟩
    · by_cases h2 : b 2 ≤ y
      · right; right; left; rw [if_neg h0, if_neg h1, if_pos h2]; exact ⟨by omega, by omega, h2⟩
      · by_cases h3 : b 3 ≤ y
        · right; right; right; left; rw [if_neg h0, if_neg h1, if_neg h2, if_pos h3]; exact ⟨by omega, by omega, h3⟩
        · right; right; right; right; rw [if_neg h0, if_neg h1, if_neg h2, if_neg h3]; exact ⟨by omega, by omega⟩
theorem pickv_bd (b : Nat → Int) (y : Int) : -2 ≤ pickv b y ∧ pickv b y ≤ 2 := by
  rcases pickv_cases b y with h | h | h | h | h <;> omega

/-- The root so far isn't farther than two thirds of a worth away. -/
structure Near (N p W : Int) : Prop where
  pos : 2 * W ≤ 3 * p
  lo : (3 * p - 2 * W) * (3 * p - 2 * W) ≤ 9 * N
  hi : 9 * N ≤ (3 * p + 2 * W) * (3 * p + 2 * W)

/-- One digit, the bounds' slack being told: u a 64th, w the digit's worth, s and f the root so far, y and g what is left. -/
theorem near_step (N p w u s y d : Int) (hw : 0 < w) (hu : 0 < u) (hpos : 2 * w ≤ 3 * (p + w * d))
    (hy0 : w * u * y ≤ N - p * p) (hy1 : N - p * p < w * u * (y + 1))
    (hlo : (d = -2 ∧ (3 * p - 8 * w) * (3 * p - 8 * w) ≤ 9 * N) ∨ (3 * d - 2) * (6 * p) + (3 * d - 2) * (3 * d - 2) * w ≤ 9 * (u * y))
    (hhi : (d = 2 ∧ 9 * N ≤ (3 * p + 8 * w) * (3 * p + 8 * w)) ∨ 9 * (u * (y + 1)) ≤ (3 * d + 2) * (6 * p) + (3 * d + 2) * (3 * d + 2) * w) : Near N (p + w * d) w := by
  refine ⟨hpos, ?_, ?_⟩
  · rcases hlo with ⟨rfl, h⟩ | h
    · rw [show 3 * (p + w * -2) - 2 * w = 3 * p - 8 * w by omega]; exact h
    · have h1 := Int.mul_le_mul_of_nonneg_left h (show 0 ≤ w by omega)
      have e : (3 * (p + w * d) - 2 * w) * (3 * (p + w * d) - 2 * w) = 9 * (p * p) + w * ((3 * d - 2) * (6 * p) + (3 * d - 2) * (3 * d - 2) * w) := by grind
      have e2 : w * (9 * (u * y)) = 9 * (w * u * y) := by grind
      rw [e]; rw [e2] at h1
      omega
  · rcases hhi with ⟨rfl, h⟩ | h
    · rw [show 3 * (p + w * 2) + 2 * w = 3 * p + 8 * w by omega]; exact h
    · have h1 := Int.mul_le_mul_of_nonneg_left h (show 0 ≤ w by omega)
      have e : (3 * (p + w * d) + 2 * w) * (3 * (p + w * d) + 2 * w) = 9 * (p * p) + w * ((3 * d + 2) * (6 * p) + (3 * d + 2) * (3 * d + 2) * w) := by grind
      have e2 : w * (9 * (u * (y + 1))) = 9 * (w * u * (y + 1)) := by grind
      rw [e]; rw [e2] at h1
      omega

/-- The table's choice is near: j tells how the digit's worth stands to a 64th. -/
theorem near_pick (j : Nat) (N p w u s y : Int) (hw : 0 < w) (hu : 0 < u) (hj : (j = 0 ∧ w = 16 * u) ∨ (j = 1 ∧ w = 4 * u) ∨ (j = 2 ∧ w = u) ∨ (3 ≤ j ∧ 4 * w ≤ u))
    (hs0 : 32 ≤ s) (hs1 : j = 0 → 64 ≤ s) (hp0 : u * s ≤ p) (hp1 : p < u * (s + 1)) (hy0 : w * u * y ≤ N - p * p) (hy1 : N - p * p < w * u * (y + 1)) (hn : Near N p (4 * w)) :
    Near N (p + w * pickv (rb j s) y) w := by
  have hus : 32 * u ≤ u * s := by have := Int.mul_le_mul_of_nonneg_left hs0 (show 0 ≤ u by omega); omega
  have hus0 : j = 0 → 64 * u ≤ u * s := fun h => by have := Int.mul_le_mul_of_nonneg_left (hs1 h) (show 0 ≤ u by omega); omega
  rw [Int.mul_add, Int.mul_one] at hp1
  have hlo8 : (3 * p - 8 * w) * (3 * p - 8 * w) ≤ 9 * N := by have := hn.lo; rwa [show 2 * (4 * w) = 8 * w by omega] at this
  have hhi8 : 9 * N ≤ (3 * p + 8 * w) * (3 * p + 8 * w) := by have := hn.hi; rwa [show 2 * (4 * w) = 8 * w by omega] at this
  -- the bounds, in u
  have rb0 : rb j s 0 = 3 * s + sqv j 9 := by simp [rb]
  have rb1 : rb j s 1 = s + sqv j 1 := by simp [rb]
  have rb2 : rb j s 2 = -s + sqv j 1 := by simp [rb]
  have rb3 : rb j s 3 = -3 * s + sqv j 9 := by simp [rb]
  have sq : (j = 0 ∧ sqv j 9 = 36 ∧ sqv j 1 = 4) ∨ (j = 1 ∧ sqv j 9 = 9 ∧ sqv j 1 = 1) ∨ (j = 2 ∧ sqv j 9 = 2 ∧ sqv j 1 = 0) ∨ (3 ≤ j ∧ sqv j 9 = 0 ∧ sqv j 1 = 0) := by
    rcases hj with ⟨h, _⟩ | ⟨h, _⟩ | ⟨h, _⟩ | ⟨h, _⟩
    · subst h; left; exact ⟨rfl, rfl, rfl⟩
    · subst h; right; left; exact ⟨rfl, rfl, rfl⟩
    · subst h; right; right; left; exact ⟨rfl, rfl, rfl⟩
    · right; right; right
      refine ⟨h, ?_, ?_⟩ <;> (unfold sqv; rw [if_neg (by omega), if_neg (by omega), if_neg (by omega)])
  have mono : ∀ a b : Int, a ≤ b → u * a ≤ u * b := fun a b h => Int.mul_le_mul_of_nonneg_left h (show 0 ≤ u by omega)
  rcases pickv_cases (rb j s) y with ⟨e, h1⟩ | ⟨e, h1, h2⟩ | ⟨e, h1, h2⟩ | ⟨e, h1, h2⟩ | ⟨e, h1⟩ <;> rw [e]
  · rw [rb0] at h1
    have m1 := mono _ _ h1
    rw [Int.mul_add, show u * (3 * s) = 3 * (u * s) by grind] at m1
    refine near_step N p w u s y 2 hw hu (by omega) hy0 hy1 (.inr ?_) (.inl ⟨rfl, hhi8⟩)
    rcases sq with ⟨g, q9, q1⟩ | ⟨g, q9, q1⟩ | ⟨g, q9, q1⟩ | ⟨g, q9, q1⟩ <;> rw [q9] at m1 <;> omega
  · rw [rb0] at h1
    rw [rb1] at h2
    have m1 := mono _ _ (show y + 1 ≤ 3 * s + sqv j 9 by omega)
    have m2 := mono _ _ h2
    rw [Int.mul_add u (3 * s), show u * (3 * s) = 3 * (u * s) by grind] at m1
    rw [Int.mul_add] at m2
    refine near_step N p w u s y 1 hw hu (by omega) hy0 hy1 (.inr ?_) (.inr ?_)
    · rcases sq with ⟨g, q9, q1⟩ | ⟨g, q9, q1⟩ | ⟨g, q9, q1⟩ | ⟨g, q9, q1⟩ <;> rw [q1] at m2 <;> omega
    · rcases sq with ⟨g, q9, q1⟩ | ⟨g, q9, q1⟩ | ⟨g, q9, q1⟩ | ⟨g, q9, q1⟩ <;> rw [q9] at m1 <;> omega
  · rw [rb1] at h1
    rw [rb2] at h2
    have m1 := mono _ _ (show y + 1 ≤ s + sqv j 1 by omega)
    have m2 := mono _ _ h2
    rw [Int.mul_add u s] at m1
    rw [Int.mul_add, Int.mul_neg] at m2
    refine near_step N p w u s y 0 hw hu (by omega) hy0 hy1 (.inr ?_) (.inr ?_)
    · rcases sq with ⟨g, q9, q1⟩ | ⟨g, q9, q1⟩ | ⟨g, q9, q1⟩ | ⟨g, q9, q1⟩ <;> rw [q1] at m2 <;> omega
    · rcases sq with ⟨g, q9, q1⟩ | ⟨g, q9, q1⟩ | ⟨g, q9, q1⟩ | ⟨g, q9, q1⟩ <;> rw [q1] at m1 <;> omega
  · rw [rb2] at h1
    rw [rb3] at h2
    have m1 := mono _ _ (show y + 1 ≤ -s + sqv j 1 by omega)
    have m2 := mono _ _ h2
    rw [Int.mul_add u (-s), Int.mul_neg] at m1
    rw [Int.mul_add, show u * (-3 * s) = -3 * (u * s) by grind] at m2
    refine near_step N p w u s y (-1) hw hu (by omega) hy0 hy1 (.inr ?_) (.inr ?_)
    · rcases sq with ⟨g, q9, q1⟩ | ⟨g, q9, q1⟩ | ⟨g, q9, q1⟩ | ⟨g, q9, q1⟩ <;> rw [q9] at m2 <;> omega
    · rcases sq with ⟨g, q9, q1⟩ | ⟨g, q9, q1⟩ | ⟨g, q9, q1⟩ | ⟨g, q9, q1⟩ <;> rw [q1] at m1 <;> omega
  · rw [rb3] at h1
    have m1 := mono _ _ (show y + 1 ≤ -3 * s + sqv j 9 by omega)
    rw [Int.mul_add u (-3 * s), show u * (-3 * s) = -3 * (u * s) by grind] at m1
    refine near_step N p w u s y (-2) hw hu (by omega) hy0 hy1 (.inl ⟨rfl, hlo8⟩) (.inr ?_)
    rcases sq with ⟨g, q9, q1⟩ | ⟨g, q9, q1⟩ | ⟨g, q9, q1⟩ | ⟨g, q9, q1⟩ <;> rw [q9] at m1 <;> omega

theorem sq_le {a b : Int} (hb : 0 ≤ b) (h : a * a ≤ b * b) : a ≤ b := by
  apply Classical.byContradiction
  intro hc
  have h1 : b * b ≤ b * a := Int.mul_le_mul_of_nonneg_left (by omega) hb
  have h2 : b * a < a * a := Int.mul_lt_mul_of_pos_right (by omega) (by omega)
  omega
theorem sq_lt {a b : Int} (hb : 0 ≤ b) (h : a * a < b * b) : a < b := by
  apply Classical.byContradiction
  intro hc
  have h1 : b * b ≤ b * a := Int.mul_le_mul_of_nonneg_left (by omega) hb
  have h2 : b * a ≤ a * a := Int.mul_le_mul_of_nonneg_right (by omega) (by omega)
  omega

/-- What is kept behind each step. -/
structure Kept (N p : Int) (j : Nat) : Prop where
  near : Near N p (2 ^ (128 - 2 * j))
  lo : 2 ^ 127 ≤ p
  hi : p ≤ 2 ^ 128
  mult : ∃ m, p = m * 2 ^ (128 - 2 * j)

theorem kept_zero (N : Int) (h0 : 2 ^ 254 ≤ N) (h1 : N < 2 ^ 256) : Kept N (rp N 0) 0 := by
  have e1 : (2 : Int) ^ 128 = 2 * 2 ^ 127 := by rw [show 128 = 1 + 127 by rfl, Int.pow_add]; rfl
  have e2 : (2 : Int) ^ 254 = 2 ^ 127 * 2 ^ 127 := by rw [← Int.pow_add]
  have e3 : (2 : Int) ^ 256 = 2 ^ 128 * 2 ^ 128 := by rw [← Int.pow_add]
  have hp := pow_pos2 127
  refine ⟨⟨?_, ?_, ?_⟩, ?_, ?_, ⟨1, by rw [Int.one_mul]; rfl⟩⟩ <;> show _ ≤ _
  all_goals simp only [rp, Nat.mul_zero, Nat.sub_zero]
  all_goals rw [e3, e1] at h1
  all_goals rw [e2] at h0
  all_goals rw [e1]
  all_goals generalize (2 : Int) ^ 127 = P at *
  · omega
  · rw [show (3 * (2 * P) - 2 * (2 * P)) * (3 * (2 * P) - 2 * (2 * P)) = 4 * (P * P) by grind]; omega
  · rw [show (3 * (2 * P) + 2 * (2 * P)) * (3 * (2 * P) + 2 * (2 * P)) = 100 * (P * P) by grind]
    rw [show 2 * P * (2 * P) = 4 * (P * P) by grind] at h1; omega
  · omega
  · omega

theorem left_bds {N p w u : Int} (hw : 0 < w) (hwu : w ≤ 16 * u) (hp : p ≤ 64 * u) (hp0 : 0 ≤ p) (hn : Near N p (4 * w)) : -(1000 * (w * u)) ≤ N - p * p ∧ N - p * p ≤ 1000 * (w * u) := by
  have h1 := hn.lo
  have h2 := hn.hi
  have m1 := Int.mul_le_mul_of_nonneg_left hp (show 0 ≤ w by omega)
  have m2 := Int.mul_le_mul_of_nonneg_left hwu (show 0 ≤ w by omega)
  have m3 := Int.mul_nonneg (show 0 ≤ w by omega) (show 0 ≤ w by omega)
  have m4 := Int.mul_nonneg (show 0 ≤ w by omega) hp0
  rw [show w * (64 * u) = 64 * (w * u) by grind] at m1
  rw [show w * (16 * u) = 16 * (w * u) by grind] at m2
  rw [show (3 * p - 2 * (4 * w)) * (3 * p - 2 * (4 * w)) = 9 * (p * p) - 48 * (w * p) + 64 * (w * w) by grind] at h1
  rw [show (3 * p + 2 * (4 * w)) * (3 * p + 2 * (4 * w)) = 9 * (p * p) + 48 * (w * p) + 64 * (w * w) by grind] at h2
  omega

theorem kept_y {N p : Int} {j : Nat} (hj : j < 64) (h : Kept N p j) : -1001 ≤ (N - p * p) / 2 ^ (248 - 2 * j) ∧ (N - p * p) / 2 ^ (248 - 2 * j) ≤ 1000 := by
  have ew : (2 : Int) ^ (128 - 2 * j) = 4 * 2 ^ (126 - 2 * j) := by rw [show 128 - 2 * j = 2 + (126 - 2 * j) by omega, Int.pow_add]; rfl
  have eu : (2 : Int) ^ (248 - 2 * j) = 2 ^ (126 - 2 * j) * 2 ^ 122 := by rw [← Int.pow_add]; congr 1; omega
  have e128 : (2 : Int) ^ 128 = 64 * 2 ^ 122 := by rw [show 128 = 6 + 122 by rfl, Int.pow_add]; rfl
  have hw := pow_pos2 (126 - 2 * j)
  have hu := pow_pos2 122
  have hwu : (2 : Int) ^ (126 - 2 * j) ≤ 16 * 2 ^ 122 := by
    rw [show (16 : Int) * 2 ^ 122 = 2 ^ 126 by rw [show 126 = 4 + 122 by rfl, Int.pow_add]; rfl]; exact pow_mono2 (by omega)
  have hn := h.near
  have hhi := h.hi
  have hlo := h.lo
  have hp := pow_pos2 127
  rw [ew] at hn
  rw [e128] at hhi
  rw [eu]
  have hb := left_bds hw hwu hhi (by omega) hn
  generalize (2 : Int) ^ (126 - 2 * j) = w at *
  generalize (2 : Int) ^ 122 = u at *
  have hpos : 0 < w * u := Int.mul_pos hw hu
  generalize w * u = v at *
  generalize N - p * p = l at *
  constructor
  · apply Classical.byContradiction
    intro hc
    have : l / v < -1001 := by omega
    have := Int.mul_le_mul_of_nonneg_left (show l / v + 1 ≤ -1001 by omega) (show 0 ≤ v by omega)
    have e1 := Int.emod_add_mul_ediv l v
    have e2 := Int.emod_lt_of_pos l hpos
    rw [Int.mul_add] at this
    omega
  · apply Classical.byContradiction
    intro hc
    have := Int.mul_le_mul_of_nonneg_left (show 1001 ≤ l / v by omega) (show 0 ≤ v by omega)
    have e1 := Int.emod_add_mul_ediv l v
    have e2 := Int.emod_nonneg l (show v ≠ 0 by omega)
    omega

theorem kept_s {N p : Int} {j : Nat} (h : Kept N p j) : 32 ≤ p / 2 ^ 122 ∧ p / 2 ^ 122 ≤ 64 := by
  have e128 : (2 : Int) ^ 128 = 2 ^ 122 * 64 := by rw [show 128 = 122 + 6 by rfl, Int.pow_add]; rfl
  have e127 : (2 : Int) ^ 127 = 2 ^ 122 * 32 := by rw [show 127 = 122 + 5 by rfl, Int.pow_add]; rfl
  have hu := pow_pos2 122
  have h1 := h.lo
  have h2 := h.hi
  rw [e127] at h1
  rw [e128] at h2
  have a := Int.ediv_le_ediv hu h1
  have b := Int.ediv_le_ediv hu h2
  rw [Int.mul_ediv_cancel_left _ (by omega)] at a b
  exact ⟨a, b⟩

theorem kept_step {N p : Int} {j : Nat} (hj : j < 64) (h0 : 2 ^ 254 ≤ N) (h1 : N < 2 ^ 256) (h64 : j = 0 → p = 2 ^ 128) (h : Kept N p j) : Kept N (p + 2 ^ (126 - 2 * j) * rdig j N p) (j + 1) := by
  have ew : (2 : Int) ^ (128 - 2 * j) = 4 * 2 ^ (126 - 2 * j) := by rw [show 128 - 2 * j = 2 + (126 - 2 * j) by omega, Int.pow_add]; rfl
  have ew2 : 128 - 2 * (j + 1) = 126 - 2 * j := by omega
  have eu : (2 : Int) ^ (248 - 2 * j) = 2 ^ (126 - 2 * j) * 2 ^ 122 := by rw [← Int.pow_add]; congr 1; omega
  have e128 : (2 : Int) ^ 128 = 2 ^ 122 * 64 := by rw [show 128 = 122 + 6 by rfl, Int.pow_add]; rfl
  have hw := pow_pos2 (126 - 2 * j)
  have hu := pow_pos2 122
  obtain ⟨m, hm⟩ := h.mult
  have hn := h.near
  have hs := kept_s h
  have hs1 : j = 0 → 64 ≤ p / 2 ^ 122 := fun hj0 => by rw [h64 hj0, e128, Int.mul_ediv_cancel_left _ (by omega)]; omega
  have hjw : (j = 0 ∧ (2 : Int) ^ (126 - 2 * j) = 16 * 2 ^ 122) ∨ (j = 1 ∧ (2 : Int) ^ (126 - 2 * j) = 4 * 2 ^ 122) ∨ (j = 2 ∧ (2 : Int) ^ (126 - 2 * j) = 2 ^ 122) ∨ (3 ≤ j ∧ 4 * (2 : Int) ^ (126 - 2 * j) ≤ 2 ^ 122) := by
    have : j = 0 ∨ j = 1 ∨ j = 2 ∨ 3 ≤ j := by omega
    rcases this with rfl | rfl | rfl | hj3
    · left; exact ⟨rfl, by rw [show 126 - 2 * 0 = 4 + 122 by rfl, Int.pow_add]; rfl⟩
    · right; left; exact ⟨rfl, by rw [show 126 - 2 * 1 = 2 + 122 by rfl, Int.pow_add]; rfl⟩
    · right; right; left; exact ⟨rfl, rfl⟩
    · right; right; right; exact ⟨hj3, by rw [← ew]; exact pow_mono2 (by omega)⟩
  have hp0 := Int.emod_add_mul_ediv p (2 ^ 122)
  have hp1 := Int.emod_nonneg p (show (2 : Int) ^ 122 ≠ 0 by omega)
  have hp2 := Int.emod_lt_of_pos p hu
  have hd := pickv_bd (rb j (p / 2 ^ 122)) ((N - p * p) / 2 ^ (248 - 2 * j))
  rw [ew] at hn hm
  have hy := Int.emod_add_mul_ediv (N - p * p) (2 ^ (248 - 2 * j))
  have hwu : 0 < (2 : Int) ^ (126 - 2 * j) * 2 ^ 122 := Int.mul_pos hw hu
  have hy1 := Int.emod_nonneg (N - p * p) (show (2 : Int) ^ (248 - 2 * j) ≠ 0 by rw [eu]; omega)
  have hy2 := Int.emod_lt_of_pos (N - p * p) (show 0 < (2 : Int) ^ (248 - 2 * j) by rw [eu]; omega)
  have hk := near_pick j N p (2 ^ (126 - 2 * j)) (2 ^ 122) (p / 2 ^ 122) ((N - p * p) / 2 ^ (248 - 2 * j)) hw hu hjw hs.1 hs1 (by omega) (by rw [Int.mul_add]; omega) (by rw [← eu]; omega) (by rw [← eu, Int.mul_add]; omega) hn
  change Near N (p + 2 ^ (126 - 2 * j) * rdig j N p) (2 ^ (126 - 2 * j)) at hk
  change -2 ≤ rdig j N p ∧ rdig j N p ≤ 2 at hd
  have e254 : (2 : Int) ^ 254 = 2 ^ 127 * 2 ^ 127 := by rw [← Int.pow_add]
  have e256 : (2 : Int) ^ 256 = 2 ^ 128 * 2 ^ 128 := by rw [← Int.pow_add]
  have m127 : (2 : Int) ^ 127 = 2 ^ (1 + 2 * j) * 2 ^ (126 - 2 * j) := by rw [← Int.pow_add]; congr 1; omega
  have m128 : (2 : Int) ^ 128 = 2 * 2 ^ (1 + 2 * j) * 2 ^ (126 - 2 * j) := by rw [show (2 : Int) ^ 128 = 2 * 2 ^ 127 by rw [show 128 = 1 + 127 by rfl, Int.pow_add]; rfl, m127, Int.mul_assoc]
  have hpm := pow_pos2 (1 + 2 * j)
  generalize rdig j N p = d at *
  rw [e254, m127] at h0
  rw [e256, m128] at h1
  refine ⟨by rw [ew2]; exact hk, ?_, ?_, ⟨4 * m + d, ?_⟩⟩
  · rw [m127]
    have hhi := hk.hi
    have hpos := hk.pos
    clear hk hn hy hy1 hy2 hp0 hp1 hp2 hjw hs hs1 eu ew e128 m127 m128 e254 e256
    have hz : p + 2 ^ (126 - 2 * j) * d = (4 * m + d) * 2 ^ (126 - 2 * j) := by rw [hm]; grind
    rw [hz] at hhi hpos ⊢
    generalize (2 : Int) ^ (126 - 2 * j) = w at *
    generalize (2 : Int) ^ (1 + 2 * j) = m0 at *
    generalize 4 * m + d = m' at *
    have hsq : (3 * (m0 * w)) * (3 * (m0 * w)) ≤ (3 * (m' * w) + 2 * w) * (3 * (m' * w) + 2 * w) := by
      rw [show (3 * (m0 * w)) * (3 * (m0 * w)) = 9 * (m0 * w * (m0 * w)) by grind]; omega
    have := sq_le (by omega) hsq
    have h3 : 3 * m0 ≤ 3 * m' + 2 := by
      apply Classical.byContradiction
      intro hc
      have := Int.mul_lt_mul_of_pos_right (show 3 * m' + 2 < 3 * m0 by omega) hw
      rw [show (3 * m' + 2) * w = 3 * (m' * w) + 2 * w by grind, show 3 * m0 * w = 3 * (m0 * w) by grind] at this
      omega
    exact Int.mul_le_mul_of_nonneg_right (by omega) (by omega)
  · rw [m128]
    have hlo := hk.lo
    clear hk hn hy hy1 hy2 hp0 hp1 hp2 hjw hs hs1 eu ew e128 m127 m128 e254 e256
    have hz : p + 2 ^ (126 - 2 * j) * d = (4 * m + d) * 2 ^ (126 - 2 * j) := by rw [hm]; grind
    rw [hz] at hlo ⊢
    generalize (2 : Int) ^ (126 - 2 * j) = w at *
    generalize (2 : Int) ^ (1 + 2 * j) = m0 at *
    generalize 4 * m + d = m' at *
    have hpos2 : 0 ≤ 2 * m0 * w := Int.mul_nonneg (by omega) (by omega)
    have hsq : (3 * (m' * w) - 2 * w) * (3 * (m' * w) - 2 * w) < (3 * (2 * m0 * w)) * (3 * (2 * m0 * w)) := by
      rw [show (3 * (2 * m0 * w)) * (3 * (2 * m0 * w)) = 9 * (2 * m0 * w * (2 * m0 * w)) by grind]; omega
    have := sq_lt (by omega) hsq
    have h3 : 3 * m' - 2 < 6 * m0 := by
      apply Classical.byContradiction
      intro hc
      have := Int.mul_le_mul_of_nonneg_right (show 6 * m0 ≤ 3 * m' - 2 by omega) (show 0 ≤ w by omega)
      rw [show (3 * m' - 2) * w = 3 * (m' * w) - 2 * w by grind, show 6 * m0 * w = 3 * (2 * m0 * w) by grind] at this
      omega
    exact Int.mul_le_mul_of_nonneg_right (by omega) (by omega)
  · rw [ew2, hm]; grind

theorem kept_all {N : Int} (h0 : 2 ^ 254 ≤ N) (h1 : N < 2 ^ 256) : ∀ j : Nat, j ≤ 64 → Kept N (rp N j) j
  | 0, _ => kept_zero N h0 h1
  | j + 1, hj => kept_step (by omega) h0 h1 (fun h => by subst h; rfl) (kept_all h0 h1 j (by omega))
end Go.Proofs.Ytcodmeljjphoeaa
