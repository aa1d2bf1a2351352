/-
  Layers 1 and 2: lengths, powers, lists of limbs.
-/
import Derived.Test.YtcodmeljjphoeaaDoorWideE
import Derived.Lib.ItoaNum
namespace Go.Proofs.YtcodmeljjphoeaaDoor
open Go.RowKit
set_option linter.unusedVariables false
set_option linter.unusedSimpArgs false

/-- How many of the n limbs stay, the noughts at the end struck. -/
def trimn (z : Int) : Nat → Nat
  | 0 => 0
  | n + 1 => if lim z n = 0 then trimn z n else n + 1
theorem trimn_le (z : Int) (n : Nat) : trimn z n ≤ n := by
  induction n with
  | zero => simp [trimn]
  | succ n ih => unfold trimn; split <;> omega
theorem trimn_mod (z : Int) (n : Nat) : z % 2 ^ (64 * trimn z n) = z % 2 ^ (64 * n) := by
  induction n with
  | zero => simp [trimn]
  | succ n ih =>
    unfold trimn
    split
    · rename_i h; rw [ih, emod_succ, h]; simp
    · rfl
theorem trimn_top (z : Int) (n : Nat) (h : trimn z n ≠ 0) : lim z (trimn z n - 1) ≠ 0 := by
  induction n with
  | zero => simp [trimn] at h
  | succ n ih =>
    unfold trimn at h ⊢
    split
    · rename_i h2; rw [if_pos h2] at h; exact ih h
    · rename_i h2; simpa using h2

set_option maxRecDepth 10000 in
theorem trimP (z : Int) (cs : Array Value) (o n c k : Nat) (hp : Part cs o n z) (hc : n ≤ c) (hm : n < 4294967296) :
    Gives Tryd.prog 88 #[.slice (some ⟨k, o, none⟩) n c] [(k, cs)] (.slice (some ⟨k, o, none⟩) (trimn z n) (trimn z n)) := by
  refine .mk fun w0 w hw => ?_
  go_enter Tryd.func88, Tryd.ntmps88
  go_wp2_with fail
  go_loopw [3] (fun v wr => ∃ i : Nat, i ≤ n ∧ v = .int .i64 i ∧ trimn z i = trimn z n ∧ Ok Non w0 wr [] [(k, cs)]) (fun v _ => (intOf v).toNat)
  case atStart => exact ⟨n, by omega, rfl, rfl, hw⟩
  case round =>
    clear hw
    obtain ⟨i, hi, rfl, ht, hw⟩ := hrel
    by_cases h0 : i = 0
    · subst h0
      have ht' : trimn z n = 0 := by rw [← ht]; rfl
      go_wp2_with fail
      go_ret
      exact ⟨by rw [ht']; rfl, hw.below⟩
    · obtain ⟨j, rfl⟩ : ∃ j, i = j + 1 := ⟨i - 1, by omega⟩
      have hcell := (hw.has (Has.read (.head _))).cell (o + j)
      rw [hp j (by omega)] at hcell
      by_cases hz : lim z j = 0
      · have ht2 : trimn z j = trimn z n := by rw [← ht, trimn, if_pos hz]
        rw [hz] at hcell
        go_wp2_with fail
        exact ⟨⟨j, by omega, rfl, ht2, hw⟩, by simp [intOf]⟩
      · have ht2 : trimn z n = j + 1 := by rw [← ht, trimn, if_neg hz]
        go_wp2_with fail
        go_ret
        exact ⟨by rw [ht2]; rfl, hw.below⟩

/-- How many digits a number has. -/
def blen (z : Int) : Nat := if z ≤ 0 then 0 else z.toNat.log2 + 1
theorem blen_eq {z : Int} {n : Nat} (h0 : 2 ^ n ≤ z) (h1 : z < 2 ^ (n + 1)) : blen z = n + 1 := by
  have hp := pow_pos2 n
  unfold blen
  rw [if_neg (by omega)]
  congr 1
  obtain ⟨a, rfl⟩ := Int.eq_ofNat_of_zero_le (show 0 ≤ z by omega)
  rw [Int.toNat_natCast]
  have h0' : 2 ^ n ≤ a := by exact_mod_cast h0
  have h1' : a < 2 ^ (n + 1) := by exact_mod_cast h1
  have ha : a ≠ 0 := by have := Nat.two_pow_pos n; omega
  have e1 : n ≤ a.log2 := (Nat.le_log2 ha).2 h0'
  have e2 : a.log2 < n + 1 := (Nat.log2_lt ha).2 h1'
  omega
theorem blen_spec {z : Int} (h : 0 < z) : 1 ≤ blen z ∧ 2 ^ (blen z - 1) ≤ z ∧ z < 2 ^ blen z := by
  obtain ⟨a, rfl⟩ := Int.eq_ofNat_of_zero_le (show 0 ≤ z by omega)
  have ha : a ≠ 0 := by omega
  unfold blen
  rw [if_neg (by omega), Int.toNat_natCast]
  refine ⟨by omega, ?_, ?_⟩
  · have := (Nat.le_log2 ha).1 (Nat.le_refl _)
    exact_mod_cast this
  · have := (Nat.log2_lt ha).1 (Nat.lt_succ_self _)
    exact_mod_cast this
theorem blen_zero {z : Int} (h : z ≤ 0) : blen z = 0 := by unfold blen; rw [if_pos h]
theorem blen_le {z : Int} {n : Nat} (h : z < 2 ^ n) : blen z ≤ n := by
  by_cases h0 : z ≤ 0
  · rw [blen_zero h0]; omega
  · obtain ⟨h1, h2, _⟩ := blen_spec (show 0 < z by omega)
    apply Classical.byContradiction
    intro hc
    have : (2 : Int) ^ n ≤ 2 ^ (blen z - 1) := pow_mono2 (by omega)
    omega
theorem le_blen {z : Int} {n : Nat} (h : 2 ^ n ≤ z) : n < blen z := by
  have hp := pow_pos2 n
  obtain ⟨h1, _, h3⟩ := blen_spec (show 0 < z by omega)
  apply Classical.byContradiction
  intro hc
  have : (2 : Int) ^ blen z ≤ 2 ^ n := pow_mono2 (by omega)
  omega
theorem bitLen_blen (x : Int) (h0 : 0 ≤ x) (h1 : x < 18446744073709551616) : Lib.bitLen x.toNat = blen x := by
  obtain ⟨a, rfl⟩ := Int.eq_ofNat_of_zero_le h0
  rw [Int.toNat_natCast]
  by_cases ha : a = 0
  · subst ha; rfl
  · have h64 : a < 2 ^ 64 := by omega
    obtain ⟨b1, b2, b3⟩ := Lib.bitLenAux_bounds 64 a h64 ha
    have e : Lib.bitLen a = Lib.bitLenAux 64 a := rfl
    rw [e]
    generalize Lib.bitLenAux 64 a = l at *
    obtain ⟨n, rfl⟩ : ∃ n, l = n + 1 := ⟨l - 1, by omega⟩
    rw [Nat.add_sub_cancel] at b2
    exact (blen_eq (by exact_mod_cast b2) (by exact_mod_cast b3)).symm

theorem blen_top {z : Int} {t : Nat} (h0 : 0 ≤ z) (h1 : z < 2 ^ (64 * (t + 1))) (hl : lim z t ≠ 0) : blen z = 64 * t + blen (lim z t) := by
  have e := ediv_succ z t
  rw [Int.ediv_eq_zero_of_lt h0 h1] at e
  have hb := lim_bd z t
  have hp := pow_pos2 (64 * t)
  have e2 : z / 2 ^ (64 * t) = lim z t := by omega
  have e3 := Int.emod_add_mul_ediv z (2 ^ (64 * t))
  have b0 := Int.emod_nonneg z (show (2 : Int) ^ (64 * t) ≠ 0 by omega)
  have b1 := Int.emod_lt_of_pos z hp
  obtain ⟨s1, s2, s3⟩ := blen_spec (show 0 < lim z t by omega)
  rw [e2] at e3
  generalize lim z t = L at *
  obtain ⟨n, hn⟩ : ∃ n, blen L = n + 1 := ⟨blen L - 1, by omega⟩
  rw [hn] at s2 s3 ⊢
  rw [Nat.add_sub_cancel] at s2
  rw [← Nat.add_assoc]
  have m1 := Int.mul_le_mul_of_nonneg_left s2 (show 0 ≤ (2 : Int) ^ (64 * t) by omega)
  have m2 := Int.mul_le_mul_of_nonneg_left (show L + 1 ≤ 2 ^ (n + 1) by omega) (show 0 ≤ (2 : Int) ^ (64 * t) by omega)
  rw [Int.mul_add] at m2
  refine blen_eq ?_ ?_
  · rw [Int.pow_add]; omega
  · rw [show 64 * t + n + 1 = 64 * t + (n + 1) by omega, Int.pow_add]; omega

theorem blen_small {x : Int} (h1 : x < 18446744073709551616) : blen x ≤ 64 := blen_le (n := 64) h1

set_option maxRecDepth 10000 in
theorem limblenP (z : Int) (cs : Array Value) (o n c k : Nat) (hp : Part cs o n z) (hc : n ≤ c) (hm : n < 16777216) (h0 : 0 ≤ z) (h1 : z < 2 ^ (64 * n)) :
    Gives Tryd.prog 73 #[.slice (some ⟨k, o, none⟩) n c] [(k, cs)] (.int .i64 (blen z)) := by
  refine .mk fun w0 w hw => ?_
  have htg := trimP z cs o n c k hp hc (by omega)
  have hle := trimn_le z n
  have hmod := trimn_mod z n
  have htop := trimn_top z n
  rw [Int.emod_eq_of_lt h0 h1] at hmod
  generalize trimn z n = t at *
  have hz : z < 2 ^ (64 * t) := by
    have := Int.emod_lt_of_pos z (pow_pos2 (64 * t))
    omega
  by_cases ht : t = 0
  · subst ht
    have : z = 0 := by simp at hz; omega
    subst this
    go_enter Tryd.func73, Tryd.ntmps73
    go_wp2_with (first | (go_at_call 88; refine htg.call hw (by simp only [List.forall_mem_cons, List.not_mem_nil, false_implies, implies_true, and_true]; (repeat' (refine And.intro ?_ ?_)); all_goals (first | (refine Has.own ?_; (repeat (first | assumption | exact List.mem_cons_self | apply List.mem_cons_of_mem)); done) | (refine Has.read ?_; (repeat (first | assumption | exact List.mem_cons_self | apply List.mem_cons_of_mem)); done))) ?_; clear hw; intro w hw))
    go_ret
    exact ⟨rfl, hw.below⟩
  · obtain ⟨j, rfl⟩ : ∃ j, t = j + 1 := ⟨t - 1, by omega⟩
    have hl := htop ht
    rw [Nat.add_sub_cancel] at hl
    have hbt := blen_top h0 hz hl
    have hb := lim_bd z j
    have hlen := len64_gives (lim z j) hb.1 hb.2
    rw [bitLen_blen _ hb.1 hb.2] at hlen
    have hsm := blen_small hb.2
    rw [hbt]
    generalize blen (lim z j) = bl at *
    go_enter Tryd.func73, Tryd.ntmps73
    go_wp2_with (first | (go_at_call 88; refine htg.call hw (by simp only [List.forall_mem_cons, List.not_mem_nil, false_implies, implies_true, and_true]; (repeat' (refine And.intro ?_ ?_)); all_goals (first | (refine Has.own ?_; (repeat (first | assumption | exact List.mem_cons_self | apply List.mem_cons_of_mem)); done) | (refine Has.read ?_; (repeat (first | assumption | exact List.mem_cons_self | apply List.mem_cons_of_mem)); done))) ?_; clear hw; intro w hw) | (refine ok_load_cell hw rfl 22 _ rfl _ _ rfl one_u64 _ (Has.read (.head _)) _ (hp j (by omega)) ?_) | (go_at_call 89; refine hlen.call0 hw ?_; clear hw; intro w hw))
    go_ret
    exact ⟨by go_num, hw.below⟩

theorem limblen_gives (z : Int) (m n c k : Nat) (hn : n ≤ m) (hc : n ≤ c) (hm : m < 16777216) (h0 : 0 ≤ z) (h1 : z < 2 ^ (64 * n)) :
    Gives Tryd.prog 73 #[.slice (some ⟨k, 0, none⟩) n c] [(k, limbs m z)] (.int .i64 (blen z)) :=
  limblenP z _ 0 n c k (part_limbs z hn) hc (by omega) h0 h1

theorem len_gives (z : Int) (h0 : 0 ≤ z) (h1 : z < M) : Gives Tryd.prog 44 #[W z] [] (.int .i64 (blen z)) := by
  refine .mk fun w0 w hw => ?_
  go_enter Tryd.func44, Tryd.ntmps44
  go_wp2_with (first | (refine w_box (H := []) hw rfl 24 _ rfl _ rfl ?_; clear hw; intro k1 w hw) | (go_at_call 73; refine (limblen_gives z 8 8 8 _ (by omega) (by omega) (by omega) h0 h1).call hw (by simp only [List.forall_mem_cons, List.not_mem_nil, false_implies, implies_true, and_true]; (repeat' (refine And.intro ?_ ?_)); all_goals (first | (refine Has.own ?_; (repeat (first | assumption | exact List.mem_cons_self | apply List.mem_cons_of_mem)); done) | (refine Has.read ?_; (repeat (first | assumption | exact List.mem_cons_self | apply List.mem_cons_of_mem)); done))) ?_; clear hw; intro w hw))
  go_ret
  exact ⟨rfl, hw.below⟩

theorem limbs_pow2 (q r : Nat) (hq : q < 8) (hr : r < 64) : (limbs 8 0).setIfInBounds q (.int .u64 (2 ^ r)) = limbs 8 (2 ^ (64 * q + r)) := by
  have hl : (2 : Int) ^ r < 18446744073709551616 := by
    have := pow_mono2 (show r + 1 ≤ 64 by omega)
    rw [Int.pow_succ] at this
    have := pow_pos2 r
    have e : (2 : Int) ^ 64 = 18446744073709551616 := by rfl
    omega
  have hp := pow_pos2 r
  rw [limbs_set 0 (2 ^ r) hq (by omega) (pow_pos2 _) (by omega) hl, Int.zero_add, ← Int.pow_add, Nat.add_comm]

theorem pow_lt64 (r : Nat) (hr : r < 64) : (2 : Int) ^ r < 18446744073709551616 := by
  have := pow_mono2 (show r + 1 ≤ 64 by omega)
  rw [Int.pow_succ] at this
  have := pow_pos2 r
  have e : (2 : Int) ^ 64 = 18446744073709551616 := by rfl
  omega

end Go.Proofs.YtcodmeljjphoeaaDoor
