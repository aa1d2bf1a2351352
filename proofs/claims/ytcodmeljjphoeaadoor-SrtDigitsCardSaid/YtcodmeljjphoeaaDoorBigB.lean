/-
  The references' numbers: without noughts at the end; new numbers.
-/
import Derived.Test.YtcodmeljjphoeaaDoorBigA
namespace Go.Proofs.YtcodmeljjphoeaaDoor
open Go.RowKit
set_option linter.unusedVariables false
set_option linter.unusedSimpArgs false

def trimd (b : Int) : Nat → Nat
  | 0 => 0
  | n + 1 => if dg b n = 0 then trimd b n else n + 1
theorem trimd_le (b : Int) (n : Nat) : trimd b n ≤ n := by
  induction n with
  | zero => simp [trimd]
  | succ n ih => unfold trimd; split <;> omega
theorem trimd_mod (b : Int) (n : Nat) : b % 2 ^ (32 * trimd b n) = b % 2 ^ (32 * n) := by
  induction n with
  | zero => simp [trimd]
  | succ n ih =>
    unfold trimd
    split
    · rename_i h; rw [ih, dg_mod, h]; simp
    · rfl
theorem trimd_top (b : Int) (n : Nat) : trimd b n = 0 ∨ dg b (trimd b n - 1) ≠ 0 := by
  induction n with
  | zero => left; rfl
  | succ n ih =>
    unfold trimd
    split
    · exact ih
    · rename_i h; right; simpa using h

theorem big_trim {R : List (Nat × Array Value)} {p : Option Addr} {n c : Nat} {b : Int} (h : BigN R (.slice p n c) n b) : BigV R (.slice p (trimd b n) c) b := by
  have hle := trimd_le b n
  have hm := trimd_mod b n
  rw [Int.emod_eq_of_lt h.pos h.lt] at hm
  refine ⟨trimd b n, ⟨h.pos, ?_, ?_, ?_⟩, trimd_top b n⟩
  · have := Int.emod_lt_of_pos b (pow_pos2 (32 * trimd b n))
    rwa [hm] at this
  · have := h.small; omega
  · obtain ⟨p', c', e, hc, hr⟩ := h.shape
    injection e with e1 e2 e3
    subst e1 e3
    refine ⟨p, c, rfl, by omega, ?_⟩
    rcases hr with h0 | ⟨k, cs, hp, hk, hd⟩
    · left; omega
    · right; exact ⟨k, cs, hp, hk, fun i hi => hd i (by omega)⟩

set_option maxRecDepth 10000 in
theorem btrim_gives {R : List (Nat × Array Value)} {p : Option Addr} {n c : Nat} {b : Int} (h : BigN R (.slice p n c) n b) : Gives Tryd.prog 47 #[.slice p n c] R (.slice p (trimd b n) c) := by
  refine .mk fun w0 w hw => ?_
  have hs := h.small
  obtain ⟨p', c', e, hc, hr⟩ := h.shape
  injection e with e1 e2 e3
  subst e1 e3
  clear h
  by_cases hn : n = 0
  · subst hn
    go_enter Tryd.func47, Tryd.ntmps47
    go_wp2_with fail
    go_loopw [3] (fun v wr => v = .int .i64 0 ∧ Ok Non w0 wr [] R) (fun v _ => (intOf v).toNat)
    case atStart => exact ⟨rfl, hw⟩
    case round =>
      clear hw
      obtain ⟨rfl, hw⟩ := hrel
      cases p with
      | none =>
        go_wp2_with fail
        go_ret
        exact ⟨rfl, hw.below⟩
      | some a =>
        go_wp2_with fail
        go_ret
        exact ⟨rfl, hw.below⟩
  · obtain ⟨k, cs, rfl, hm, hd⟩ : ∃ k cs, p = some ⟨k, 0, none⟩ ∧ (k, cs) ∈ R ∧ Dig cs n b := by
      rcases hr with h | h
      · omega
      · exact h
    go_enter Tryd.func47, Tryd.ntmps47
    go_wp2_with fail
    go_loopw [3] (fun v wr => ∃ i : Nat, i ≤ n ∧ v = .int .i64 i ∧ trimd b i = trimd b n ∧ Ok Non w0 wr [] R) (fun v _ => (intOf v).toNat)
    case atStart => exact ⟨n, by omega, rfl, rfl, hw⟩
    case round =>
      clear hw
      obtain ⟨i, hi, rfl, ht, hw⟩ := hrel
      by_cases h0 : i = 0
      · subst h0
        have ht' : trimd b n = 0 := by rw [← ht]; rfl
        go_wp2_with fail
        go_ret
        exact ⟨by rw [ht']; rfl, hw.below⟩
      · obtain ⟨j, rfl⟩ : ∃ j, i = j + 1 := ⟨i - 1, by omega⟩
        have hcell := (hw.has (Has.read hm)).cell j
        rw [hd j (by omega)] at hcell
        by_cases hz : dg b j = 0
        · have ht2 : trimd b j = trimd b n := by rw [← ht, trimd, if_pos hz]
          rw [hz] at hcell
          go_wp2_with fail
          exact ⟨⟨j, by omega, rfl, ht2, hw⟩, by simp [intOf]⟩
        · have ht2 : trimd b n = j + 1 := by rw [← ht, trimd, if_neg hz]
          go_wp2_with fail
          go_ret
          exact ⟨by rw [ht2]; rfl, hw.below⟩
end Go.Proofs.YtcodmeljjphoeaaDoor
