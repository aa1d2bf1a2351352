/-
  The references' numbers: sums and differences.
-/
import Derived.Test.YtcodmeljjphoeaaDoorBigB
namespace Go.Proofs.YtcodmeljjphoeaaDoor
open Go.RowKit
set_option linter.unusedVariables false
set_option linter.unusedSimpArgs false

/-- Rows that are written no more. -/
theorem Ok.freeze {S : Nat → Prop} {w0 w : World} {T H R : List (Nat × Array Value)} (h : Ok S w0 w (T ++ H) R) : Ok S w0 w H (T ++ R) := by
  have nd := h.nd
  rw [List.map_append, List.nodup_append] at nd
  refine ⟨h.os, h.tape, h.output, h.size, h.old, fun p hp => h.rows p (List.mem_append_right _ hp), ?_, fun p hp => h.own p (List.mem_append_right _ hp), nd.2.1, ?_⟩
  · intro p hp
    rcases List.mem_append.1 hp with hp | hp
    · exact h.rows p (List.mem_append_left _ hp)
    · exact h.reads p hp
  · intro p hp q hq e
    rcases List.mem_append.1 hq with hq | hq
    · exact nd.2.2 q.1 (List.mem_map.2 ⟨q, hq, rfl⟩) p.1 (List.mem_map.2 ⟨p, hp, rfl⟩) e.symm
    · exact h.ap p (List.mem_append_right _ hp) q hq e

/-- The first k digits, as cells. -/
def bcells (s : Int) (k : Nat) : List Value := (List.range k).map fun i => .int .u32 (dg s i)
@[simp] theorem length_bcells (s : Int) (k : Nat) : (bcells s k).length = k := by simp [bcells]
theorem bcells_succ (s : Int) (k : Nat) : bcells s (k + 1) = bcells s k ++ [.int .u32 (dg s k)] := by
  unfold bcells; rw [List.range_succ, List.map_append]; rfl
theorem bign_of_lst {T : List (Nat × Array Value)} {v : Value} {s : Int} {k : Nat} (h : Lst T v (bcells s k)) (h0 : 0 ≤ s) (h1 : s < 2 ^ (32 * k)) (hk : k < 100000) : ∃ p c, v = .slice p k c ∧ BigN T v k s := by
  have hl := length_bcells s k
  generalize hxs : bcells s k = xs at *
  cases h with
  | nil =>
    have : k = 0 := by simpa using hl.symm
    subst this
    exact ⟨none, 0, rfl, h0, h1, hk, none, 0, rfl, by omega, .inl rfl⟩
  | row g cap cs xs hc hm hs hx =>
    rw [hl]
    refine ⟨_, cap, rfl, h0, h1, hk, _, cap, rfl, by omega, .inr ⟨g, cs, rfl, by simp, fun i hi => ?_⟩⟩
    rw [hx i (by omega), ← hxs]
    simp [bcells, hi]

theorem elem_u32 : Elem Tryd.prog 74 := elem_of (by kernel_rfl)
theorem one_u32 : One Tryd.prog 74 := .mk _ Tryd.underlying74 rfl (by kernel_rfl)
theorem zero_u32' : ((Tryd.prog.info? 74).bind (·.zero)).isSome = true := by kernel_rfl

/-- Rows that a call has made. -/
def Fresh (w0 : World) (L : List (Nat × Array Value)) : Prop := ∀ q ∈ L, w0.heap.size ≤ q.1
theorem fresh_nil (w0 : World) : Fresh w0 [] := fun q hq => by cases hq
/-- A call that returns a number in new rows. -/
def GivesB (f : FuncId) (args : Array Value) (R : List (Nat × Array Value)) (b : Int) : Prop :=
  ∀ (w0 w : World) (R' : List (Nat × Array Value)), (∀ p ∈ R, p ∈ R') → Ok Non w0 w [] R' →
    Calls Tryd.prog f args w fun e w' => ∃ z L, e = .returned z ∧ BigV L z b ∧ Fresh w0 L ∧ Ok Non w0 w' [] (L ++ R')
theorem GivesB.mk {f : FuncId} {args : Array Value} {R : List (Nat × Array Value)} {b : Int}
    (h : ∀ (S : Nat → Prop) (w0 w : World) (H R' : List (Nat × Array Value)), (∀ p ∈ R, p ∈ R') → Ok S w0 w H R' →
      Calls Tryd.prog f args w fun e w' => ∃ z L, e = .returned z ∧ BigV L z b ∧ Ok S w0 w' (L ++ H) R') : GivesB f args R b := by
  intro w0 w R' hR hw
  refine (h Non w0 w [] R' hR hw).mono ?_
  rintro e w' ⟨z, L, he, hz, hw'⟩
  refine ⟨z, L, he, hz, fun q hq => (hw'.own q (List.mem_append_left _ hq)).elim id (fun x => x.elim), hw'.freeze⟩

/-- What is carried. -/
def bcarry (x y : Int) (i : Nat) : Int := (x % 2 ^ (32 * i) + y % 2 ^ (32 * i)) / 2 ^ (32 * i)
theorem bcarry01 (x y : Int) (i : Nat) : bcarry x y i = 0 ∨ bcarry x y i = 1 := by
  have hp := pow_pos2 (32 * i)
  have a0 := Int.emod_nonneg x (show (2 : Int) ^ (32 * i) ≠ 0 by omega)
  have a1 := Int.emod_lt_of_pos x hp
  have b0 := Int.emod_nonneg y (show (2 : Int) ^ (32 * i) ≠ 0 by omega)
  have b1 := Int.emod_lt_of_pos y hp
  exact div01 _ _ hp (by omega) (by omega)
theorem badd_dg (x y : Int) (i : Nat) : (dg x i + dg y i + bcarry x y i) % 4294967296 = dg (x + y) i := by
  have h := limb_step x y (2 ^ (32 * i)) 0 _ _ (pow_pos2 _) rfl rfl _ rfl
  unfold bcarry dg at *
  rw [h]; omega
theorem badd_carry (x y : Int) (i : Nat) : (dg x i + dg y i + bcarry x y i) / 4294967296 = bcarry x y (i + 1) := by
  have hp := pow_pos2 (32 * i)
  unfold bcarry
  rw [dg_mod, dg_mod]
  have e : (2 : Int) ^ (32 * (i + 1)) = 2 ^ (32 * i) * 4294967296 := by
    rw [show (4294967296 : Int) = 2 ^ 32 by rfl, ← Int.pow_add]; rfl
  rw [e, ← Int.ediv_ediv_of_nonneg (by omega)]
  rw [show x % 2 ^ (32 * i) + dg x i * 2 ^ (32 * i) + (y % 2 ^ (32 * i) + dg y i * 2 ^ (32 * i)) = (x % 2 ^ (32 * i) + y % 2 ^ (32 * i)) + 2 ^ (32 * i) * (dg x i + dg y i) by grind]
  rw [Int.add_mul_ediv_left _ _ (by omega)]
  congr 1; omega

end Go.Proofs.YtcodmeljjphoeaaDoor
