/-
  The references' numbers: how calls are used; digits as rows that are stored into; plain lemmas.
-/
import Derived.Test.YtcodmeljjphoeaaDoorBigE
namespace Go.Proofs.YtcodmeljjphoeaaDoor
open Go.RowKit
set_option linter.unusedVariables false
set_option linter.unusedSimpArgs false

theorem BigN.mono {R R' : List (Nat × Array Value)} {v : Value} {n : Nat} {b : Int} (h : BigN R v n b) (hs : ∀ p ∈ R, p ∈ R') : BigN R' v n b := by
  refine ⟨h.pos, h.lt, h.small, ?_⟩
  obtain ⟨p, c, e, hc, hr⟩ := h.shape
  refine ⟨p, c, e, hc, ?_⟩
  rcases hr with h0 | ⟨k, cs, hp, hk, hd⟩
  · exact .inl h0
  · exact .inr ⟨k, cs, hp, hs _ hk, hd⟩
theorem BigV.mono {R R' : List (Nat × Array Value)} {v : Value} {b : Int} (h : BigV R v b) (hs : ∀ p ∈ R, p ∈ R') : BigV R' v b := by
  obtain ⟨n, h, ht⟩ := h
  exact ⟨n, h.mono hs, ht⟩
theorem BigV.pos {R : List (Nat × Array Value)} {v : Value} {b : Int} (h : BigV R v b) : 0 ≤ b := by
  obtain ⟨n, h, _⟩ := h
  exact h.pos
/-- How many digits there are. -/
theorem BigV.sized {R : List (Nat × Array Value)} {v : Value} {b : Int} (h : BigV R v b) {k : Nat} (hk : b < 2 ^ (32 * k)) : ∃ n, n ≤ k ∧ BigN R v n b := by
  obtain ⟨n, h, ht⟩ := h
  refine ⟨n, ?_, h⟩
  rcases ht with rfl | ht
  · omega
  · rcases Nat.lt_or_ge k n with hlt | hge
    · exact absurd (dg_high h.pos hk (show k ≤ n - 1 by omega)) ht
    · exact hge
theorem BigV.nil_zero {R : List (Nat × Array Value)} {p : Option Addr} {c : Nat} {b : Int} (h : BigV R (.slice p 0 c) b) : b = 0 := by
  obtain ⟨n, h, _⟩ := h
  obtain ⟨q, c', e, _⟩ := h.shape
  injection e with _ e2
  subst e2
  have h0 := h.pos
  have h1 := h.lt
  simp at h1
  omega
/-- The value's own shape. -/
theorem BigV.shape {R : List (Nat × Array Value)} {v : Value} {b : Int} (h : BigV R v b) : ∃ n, BigN R v n b ∧ (n = 0 ∧ b = 0 ∨ 0 < n ∧ dg b (n - 1) ≠ 0) := by
  obtain ⟨n, h, ht⟩ := h
  refine ⟨n, h, ?_⟩
  by_cases hn : n = 0
  · subst hn
    have h0 := h.pos
    have h1 := h.lt
    simp at h1
    left; omega
  · right
    rcases ht with ht | ht
    · exact absurd ht hn
    · exact ⟨by omega, ht⟩
/-- The empty list is nought. -/
theorem bigv_nil (R : List (Nat × Array Value)) (c : Nat) (p : Option Addr) : BigV R (.slice p 0 c) 0 :=
  ⟨0, ⟨Int.le_refl _, by simp, by omega, p, c, rfl, by omega, .inl rfl⟩, .inl rfl⟩

theorem sub_all {R : List (Nat × Array Value)} : ∀ p ∈ R, p ∈ R := fun p hp => hp
/-- Rows that are new to a call, read from now on. -/
theorem Ok.reads_new {S : Nat → Prop} {w0 w w' : World} {H R L : List (Nat × Array Value)} (h : Ok S w0 w H R) (hb : Below w.heap.size w w') (hL : ∀ q ∈ L, Blk w' q.1 q.2 ∧ w.heap.size ≤ q.1) : Ok S w0 w' H (L ++ R) := by
  have g := h.grow hb
  refine ⟨g.os, g.tape, g.output, g.size, g.old, g.rows, ?_, g.own, g.nd, ?_⟩
  · intro p hp
    rcases List.mem_append.1 hp with hp | hp
    · exact (hL p hp).1
    · exact g.reads p hp
  · intro p hp q hq
    rcases List.mem_append.1 hq with hq | hq
    · have h1 := (h.rows p hp).lt
      have h2 := (hL q hq).2
      omega
    · exact g.ap p hp q hq
/-- A call that returns a number, used. -/
theorem GivesB.plain {f : FuncId} {args : Array Value} {R : List (Nat × Array Value)} {b : Int} (g : GivesB f args R b) {w : World} (hR : ∀ p ∈ R, Blk w p.1 p.2) :
    Calls Tryd.prog f args w fun e w' => ∃ z L, e = .returned z ∧ BigV L z b ∧ Below w.heap.size w w' ∧ ∀ q ∈ L, Blk w' q.1 q.2 ∧ w.heap.size ≤ q.1 :=
  (g w w R sub_all (Ok.read hR)).mono fun e w' ⟨z, L, he, hz, hf, hw'⟩ => ⟨z, L, he, hz, hw'.below, fun q hq => ⟨hw'.reads q (List.mem_append_left _ hq), hf q hq⟩⟩
theorem GivesB.use {f : FuncId} {args : Array Value} {R R' : List (Nat × Array Value)} {b : Int} (g : GivesB f args R b)
    {S : Nat → Prop} {w0 w : World} {H : List (Nat × Array Value)} (hw : Ok S w0 w H R') (hR : ∀ p ∈ R, p ∈ R') {K : Ending → World → Prop}
    (h : ∀ w' z L, BigV L z b → Fresh w0 L → Ok S w0 w' H (L ++ R') → K (.returned z) w') : Calls Tryd.prog f args w K :=
  (g.plain fun p hp => hw.reads p (hR p hp)).mono fun e w' ⟨z, L, he, hz, hb, hL⟩ => by
    subst he
    exact h w' z L hz (fun q hq => Nat.le_trans hw.size (hL q hq).2) (hw.reads_new hb hL)
theorem GivesB.sub {f : FuncId} {args : Array Value} {R R' : List (Nat × Array Value)} {b : Int} (g : GivesB f args R b) (hs : ∀ p ∈ R, p ∈ R') : GivesB f args R' b :=
  fun w0 w R2 h2 hw => g w0 w R2 (fun p hp => h2 p (hs p hp)) hw
theorem sub_app {L R : List (Nat × Array Value)} : ∀ p ∈ R, p ∈ L ++ R := fun p hp => List.mem_append_right _ hp

/-! n digits of a number, as a row. -/
def ds (n : Nat) (b : Int) : Array Value := ((List.range n).map fun i => Value.int .u32 (dg b i)).toArray
@[simp] theorem size_ds (n : Nat) (b : Int) : (ds n b).size = n := by simp [ds]
theorem ones_ds (n : Nat) (b : Int) : Ones (ds n b) := by simp [Ones, ds, Value.oneCell']
theorem ds_get {n i : Nat} (b : Int) (h : i < n) : (ds n b)[i]? = some (.int .u32 (dg b i)) := by simp [ds, h]
theorem dig_ds (n : Nat) (b : Int) : Dig (ds n b) n b := fun i hi => ds_get b hi
theorem dg_add_mul (b q : Int) (n i : Nat) (h : i < n) : dg (b + q * 2 ^ (32 * n)) i = dg b i := by
  unfold dg
  have e : (2 : Int) ^ (32 * n) = 2 ^ (32 * i) * (4294967296 * 2 ^ (32 * (n - i - 1))) := by
    rw [show (4294967296 : Int) = 2 ^ 32 by rfl, ← Int.pow_add, ← Int.pow_add]
    congr 1; omega
  rw [e]
  have hp := pow_pos2 (32 * i)
  rw [show b + q * (2 ^ (32 * i) * (4294967296 * 2 ^ (32 * (n - i - 1)))) = b + 2 ^ (32 * i) * (q * (4294967296 * 2 ^ (32 * (n - i - 1)))) by grind]
  rw [Int.add_mul_ediv_left _ _ (by omega)]
  rw [show q * (4294967296 * 2 ^ (32 * (n - i - 1))) = 4294967296 * (q * 2 ^ (32 * (n - i - 1))) by grind]
  rw [Int.add_mul_emod_self_left]
/-- A number, one digit put in another's place. -/
def stuck (b : Int) (i : Nat) (d : Int) : Int := b + (d - dg b i) * 2 ^ (32 * i)
theorem dg_stuck_same (b : Int) (i : Nat) (d : Int) (h0 : 0 ≤ d) (h1 : d < 4294967296) : dg (stuck b i d) i = d := by
  have hp := pow_pos2 (32 * i)
  have hb := dg_bd b i
  have e := dg_ediv b i
  unfold stuck
  rw [show dg (b + (d - dg b i) * 2 ^ (32 * i)) i = (b + (d - dg b i) * 2 ^ (32 * i)) / 2 ^ (32 * i) % 4294967296 from rfl]
  rw [Int.add_mul_ediv_right _ _ (by omega)]
  omega
theorem stuck_mod (b : Int) (i : Nat) (d : Int) : stuck b i d = b % 2 ^ (32 * i) + (d + b / 2 ^ (32 * (i + 1)) * 4294967296) * 2 ^ (32 * i) := by
  have e := dg_ediv b i
  have e2 := Int.emod_add_mul_ediv b (2 ^ (32 * i))
  unfold stuck
  rw [e] at e2
  generalize dg b i = y at *
  generalize b / 2 ^ (32 * (i + 1)) = z at *
  generalize (2 : Int) ^ (32 * i) = p at *
  generalize b % p = r at *
  subst e2
  grind
theorem dg_above {b c : Int} {i j : Nat} (h : i < j) (e : b / 2 ^ (32 * (i + 1)) = c / 2 ^ (32 * (i + 1))) : dg b j = dg c j := by
  unfold dg
  have ex : (2 : Int) ^ (32 * j) = 2 ^ (32 * (i + 1)) * 2 ^ (32 * (j - i - 1)) := by rw [← Int.pow_add]; congr 1; omega
  have hp := pow_pos2 (32 * (i + 1))
  rw [ex, ← Int.ediv_ediv_of_nonneg (by omega), ← Int.ediv_ediv_of_nonneg (by omega), e]
theorem stuck_above (b : Int) (i : Nat) (d : Int) (h0 : 0 ≤ d) (h1 : d < 4294967296) : stuck b i d / 2 ^ (32 * (i + 1)) = b / 2 ^ (32 * (i + 1)) := by
  have hp := pow_pos2 (32 * i)
  rw [stuck_mod]
  have ex : (2 : Int) ^ (32 * (i + 1)) = 2 ^ (32 * i) * 4294967296 := by
    rw [show (4294967296 : Int) = 2 ^ 32 by rfl, ← Int.pow_add]; rfl
  rw [ex, ← Int.ediv_ediv_of_nonneg (by omega), ← Int.ediv_ediv_of_nonneg (by omega)]
  rw [Int.add_mul_ediv_right _ _ (by omega), Int.ediv_eq_zero_of_lt (Int.emod_nonneg _ (by omega)) (Int.emod_lt_of_pos _ hp)]
  omega
theorem dg_stuck_ne (b : Int) {i j : Nat} (d : Int) (h0 : 0 ≤ d) (h1 : d < 4294967296) (h : j ≠ i) : dg (stuck b i d) j = dg b j := by
  rcases Nat.lt_or_gt_of_ne h with h2 | h2
  · unfold stuck; exact dg_add_mul b _ i j h2
  · exact dg_above h2 (stuck_above b i d h0 h1)
theorem ds_set {n i : Nat} (b d : Int) (h : i < n) (h0 : 0 ≤ d) (h1 : d < 4294967296) : (ds n b).setIfInBounds i (.int .u32 d) = ds n (stuck b i d) := by
  apply Array.ext_getElem?
  intro j
  rw [Array.getElem?_setIfInBounds]
  split
  · rename_i hij
    subst hij
    simp only [size_ds, h, if_true]
    rw [ds_get _ h, dg_stuck_same b i d h0 h1]
  · rename_i hij
    by_cases hj : j < n
    · rw [ds_get _ hj, ds_get _ hj, dg_stuck_ne b d h0 h1 (fun e => hij e.symm)]
    · rw [Array.getElem?_eq_none (by simp; omega), Array.getElem?_eq_none (by simp; omega)]
theorem stuck_bd {b d : Int} {i q : Nat} (h0 : 0 ≤ d) (h1 : d < 4294967296) (hb0 : 0 ≤ b) (hb1 : b < 2 ^ (32 * q)) (h : i < q) : 0 ≤ stuck b i d ∧ stuck b i d < 2 ^ (32 * q) := by
  have hp := pow_pos2 (32 * i)
  have e1 := stuck_mod b i d
  have m0 := Int.emod_nonneg b (show (2 : Int) ^ (32 * i) ≠ 0 by omega)
  have m1 := Int.emod_lt_of_pos b hp
  have q0 : 0 ≤ b / 2 ^ (32 * (i + 1)) := Int.ediv_nonneg hb0 (by have := pow_pos2 (32 * (i + 1)); omega)
  have ex : (2 : Int) ^ (32 * q) = 2 ^ (32 * (q - i - 1)) * 2 ^ (32 * (i + 1)) := by rw [← Int.pow_add]; congr 1; omega
  have ey : (2 : Int) ^ (32 * (i + 1)) = 4294967296 * 2 ^ (32 * i) := by
    rw [show (4294967296 : Int) = 2 ^ 32 by rfl, ← Int.pow_add]; congr 1; omega
  have q1 : b / 2 ^ (32 * (i + 1)) < 2 ^ (32 * (q - i - 1)) := Int.ediv_lt_of_lt_mul (pow_pos2 _) (by rw [← ex]; exact hb1)
  rw [e1, ex]
  generalize b / 2 ^ (32 * (i + 1)) = Y at *
  rw [ey]
  generalize (2 : Int) ^ (32 * (q - i - 1)) = X at *
  generalize (2 : Int) ^ (32 * i) = p at *
  generalize b % p = r at *
  constructor
  · have := Int.mul_nonneg (show 0 ≤ d + Y * 4294967296 by omega) (show 0 ≤ p by omega)
    omega
  · have h3 : (d + Y * 4294967296 + 1) * p ≤ X * 4294967296 * p := Int.mul_le_mul_of_nonneg_right (by omega) (by omega)
    have h4 : (d + Y * 4294967296 + 1) * p = (d + Y * 4294967296) * p + p := by grind
    have h5 : X * 4294967296 * p = X * (4294967296 * p) := by grind
    omega
end Go.Proofs.YtcodmeljjphoeaaDoor
