/-
  The references' numbers: lists of digits of 32 bits.
-/
import Derived.Test.YtcodmeljjphoeaaDoorList
import Derived.Test.YtcodmeljjphoeaaDoorWideF
namespace Go.Proofs.YtcodmeljjphoeaaDoor
open Go.RowKit
set_option linter.unusedVariables false
set_option linter.unusedSimpArgs false

/-- A digit of 32 bits. -/
def dg (b : Int) (i : Nat) : Int := b / 2 ^ (32 * i) % 4294967296
theorem dg_bd (b : Int) (i : Nat) : 0 ≤ dg b i ∧ dg b i < 4294967296 := ⟨Int.emod_nonneg _ (by omega), Int.emod_lt_of_pos _ (by omega)⟩
theorem dg_mod (b : Int) (i : Nat) : b % 2 ^ (32 * (i + 1)) = b % 2 ^ (32 * i) + dg b i * 2 ^ (32 * i) := by
  unfold dg
  have hp := pow_pos2 (32 * i)
  have e : (2 : Int) ^ (32 * (i + 1)) = 2 ^ (32 * i) * 4294967296 := by
    rw [show 32 * (i + 1) = 32 * i + 32 by omega, Int.pow_add]; rfl
  rw [e, emod_mul' b _ _ hp (by omega)]
theorem dg_high {b : Int} {n i : Nat} (h0 : 0 ≤ b) (h1 : b < 2 ^ (32 * n)) (h : n ≤ i) : dg b i = 0 := by
  unfold dg
  rw [Int.ediv_eq_zero_of_lt h0 (Int.lt_of_lt_of_le h1 (pow_mono2 (by omega)))]
  rfl

/-- From its first cell on a row's n cells are the digits of b. -/
def Dig (cs : Array Value) (n : Nat) (b : Int) : Prop := ∀ i, i < n → cs[i]? = some (.int .u32 (dg b i))

/-- A value is a list of n digits of the number b; its row, if it has one, is among R. -/
structure BigN (R : List (Nat × Array Value)) (v : Value) (n : Nat) (b : Int) : Prop where
  pos : 0 ≤ b
  lt : b < 2 ^ (32 * n)
  small : n < 100000
  shape : ∃ p c, v = .slice p n c ∧ n ≤ c ∧ (n = 0 ∨ ∃ k cs, p = some ⟨k, 0, none⟩ ∧ (k, cs) ∈ R ∧ Dig cs n b)
/-- The same, without noughts at the end. -/
def BigV (R : List (Nat × Array Value)) (v : Value) (b : Int) : Prop := ∃ n, BigN R v n b ∧ (n = 0 ∨ dg b (n - 1) ≠ 0)

set_option maxRecDepth 10000 in
theorem digit_gives {R : List (Nat × Array Value)} {v : Value} {n : Nat} {b : Int} (hb : BigN R v n b) (i : Nat) : Gives Tryd.prog 48 #[v, .int .i64 i] R (.int .u64 (dg b i)) := by
  refine .mk fun w0 w hw => ?_
  obtain ⟨p, c, rfl, hc, hr⟩ := hb.shape
  by_cases hi : i < n
  · obtain ⟨k, cs, rfl, hm, hd⟩ : ∃ k cs, p = some ⟨k, 0, none⟩ ∧ (k, cs) ∈ R ∧ Dig cs n b := by
      rcases hr with h | h
      · omega
      · exact h
    have hcell := (hw.has (Has.read hm)).cell i
    rw [hd i hi] at hcell
    have hdb := dg_bd b i
    generalize dg b i = d at *
    go_enter Tryd.func48, Tryd.ntmps48
    go_wp2
    go_ret
    exact ⟨by go_num, hw.below⟩
  · rw [dg_high hb.pos hb.lt (by omega)]
    go_enter Tryd.func48, Tryd.ntmps48
    go_wp2
    go_ret
    exact ⟨by go_num, hw.below⟩

theorem Gives.of {P : Program} {f : FuncId} {args : Array Value} {R : List (Nat × Array Value)} {v : Value} (g : Gives P f args R v)
    {S : Nat → Prop} {w0 w : World} {H R' : List (Nat × Array Value)} (hw : Ok S w0 w H R') (hR : ∀ p ∈ R, p ∈ R') {K : Ending → World → Prop}
    (h : ∀ w', Ok S w0 w' H R' → K (.returned v) w') : Calls P f args w K :=
  g.call hw (fun p hp => .inr (hR p hp)) h

theorem dg_ediv (x : Int) (i : Nat) : x / 2 ^ (32 * i) = x / 2 ^ (32 * (i + 1)) * 4294967296 + dg x i := by
  have e : x / 2 ^ (32 * (i + 1)) = x / 2 ^ (32 * i) / 4294967296 := by
    rw [show (4294967296 : Int) = 2 ^ 32 by rfl, ediv_pow]; congr 2
  rw [e]; unfold dg
  generalize x / 2 ^ (32 * i) = y
  omega
theorem dg_lt {x y : Int} {i : Nat} (hh : x / 2 ^ (32 * (i + 1)) = y / 2 ^ (32 * (i + 1))) (h : dg x i < dg y i) : x < y := by
  have e1 := dg_ediv x i
  have e2 := dg_ediv y i
  rw [hh] at e1
  exact lt_of_ediv (pow_pos2 (32 * i)) (by omega)

/-- Below 0, 0, above 0. -/
def cmp3 (x y : Int) : Int := if x < y then -1 else if y < x then 1 else 0

set_option maxRecDepth 10000 in
set_option maxHeartbeats 400000 in
theorem bcmp_gives {R : List (Nat × Array Value)} {u v : Value} {n m : Nat} {x y : Int} (hx : BigN R u n x) (hy : BigN R v m y) : Gives Tryd.prog 20 #[u, v] R (.int .i64 (cmp3 x y)) := by
  refine .mk fun w0 w hw => ?_
  have hdx := fun i => digit_gives hx i
  have hdy := fun i => digit_gives hy i
  obtain ⟨p, c, rfl, hc, hr⟩ := hx.shape
  obtain ⟨p', c', rfl, hc', hr'⟩ := hy.shape
  have hn := hx.small
  have hm := hy.small
  have tx : x / 2 ^ (32 * max n m) = 0 := Int.ediv_eq_zero_of_lt hx.pos (Int.lt_of_lt_of_le hx.lt (pow_mono2 (by omega)))
  have ty : y / 2 ^ (32 * max n m) = 0 := Int.ediv_eq_zero_of_lt hy.pos (Int.lt_of_lt_of_le hy.lt (pow_mono2 (by omega)))
  have htop := Lib.hid (tx.trans ty.symm)
  clear tx ty hr hr' hx hy
  obtain ⟨z, hz⟩ : ∃ z, z = cmp3 x y := ⟨_, rfl⟩
  rw [← hz]
  have Hz := Lib.hid hz
  clear hz
  go_enter Tryd.func20, Tryd.ntmps20
  go_wp2_with fail
  go_loopw [5] (fun v wr => ∃ i : Nat, i ≤ max n m ∧ v = .int .i64 (i - 1) ∧ Hid (x / 2 ^ (32 * i) = y / 2 ^ (32 * i)) ∧ Ok Non w0 wr [] R) (fun v _ => (intOf v + 1).toNat)
  case atStart => exact ⟨max n m, by omega, by go_num, htop, hw⟩
  case round =>
    clear hw htop
    obtain ⟨i, hi, rfl, hh, hw⟩ := hrel
    by_cases h0 : i = 0
    · subst h0
      go_wp2_with fail
      go_ret
      refine ⟨?_, hw.below⟩
      have : x = y := by simpa using hh.out
      rw [Hz.out, this]
      unfold cmp3
      rw [if_neg (by omega), if_neg (by omega)]; rfl
    · obtain ⟨j, rfl⟩ : ∃ j, i = j + 1 := ⟨i - 1, by omega⟩
      rw [show (((j + 1 : Nat) : Int) - 1) = (j : Int) by omega]
      have t1 : True := trivial
      have t2 : True := trivial
      have t3 : True := trivial
      have hx1 := hdx j
      have hy1 := hdy j
      rcases Int.lt_trichotomy (dg x j) (dg y j) with h | h | h
      · have hlt := dg_lt hh.out h
        have hz : cmp3 x y = -1 := by unfold cmp3; rw [if_pos hlt]
        have Hz2 := Lib.hid hz
        clear hlt hz hdx hdy
        go_wp2_with (first | (clear t1; go_at_call 48; refine hx1.of hw (fun p hp => hp) ?_; clear hw; intro w hw) | (clear t2; go_at_call 48; refine hy1.of hw (fun p hp => hp) ?_; clear hw; intro w hw) | (clear t3; go_at_call 48; refine hx1.of hw (fun p hp => hp) ?_; clear hw; intro w hw) | (go_at_call 48; refine hy1.of hw (fun p hp => hp) ?_; clear hw; intro w hw))
        go_ret
        exact ⟨by rw [Hz.out, Hz2.out]; rfl, hw.below⟩
      · have He := Lib.hid (show x / 2 ^ (32 * j) = y / 2 ^ (32 * j) by rw [dg_ediv x, dg_ediv y, hh.out, h])
        rw [h] at hx1
        clear h hdx hdy
        generalize dg y j = d at *
        go_wp2_with (first | (clear t1; go_at_call 48; refine hx1.of hw (fun p hp => hp) ?_; clear hw; intro w hw) | (clear t2; go_at_call 48; refine hy1.of hw (fun p hp => hp) ?_; clear hw; intro w hw) | (clear t3; go_at_call 48; refine hx1.of hw (fun p hp => hp) ?_; clear hw; intro w hw) | (go_at_call 48; refine hy1.of hw (fun p hp => hp) ?_; clear hw; intro w hw))
        exact ⟨⟨j, by omega, rfl, He, hw⟩, by simp [intOf]⟩
      · have hlt := dg_lt hh.out.symm h
        have hz : cmp3 x y = 1 := by unfold cmp3; rw [if_neg (by omega), if_pos hlt]
        have Hz2 := Lib.hid hz
        have hnl : ¬ dg x j < dg y j := by omega
        clear hlt hz hdx hdy
        go_wp2_with (first | (clear t1; go_at_call 48; refine hx1.of hw (fun p hp => hp) ?_; clear hw; intro w hw) | (clear t2; go_at_call 48; refine hy1.of hw (fun p hp => hp) ?_; clear hw; intro w hw) | (clear t3; go_at_call 48; refine hx1.of hw (fun p hp => hp) ?_; clear hw; intro w hw) | (go_at_call 48; refine hy1.of hw (fun p hp => hp) ?_; clear hw; intro w hw))
        go_ret
        exact ⟨by rw [Hz.out, Hz2.out]; rfl, hw.below⟩
end Go.Proofs.YtcodmeljjphoeaaDoor
