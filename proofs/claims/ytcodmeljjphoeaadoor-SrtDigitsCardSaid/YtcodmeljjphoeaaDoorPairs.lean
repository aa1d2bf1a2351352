/-
  Pairs of numbers of 512 bits; numbers built in place; guarded operations.
-/
import Derived.Test.YtcodmeljjphoeaaDoorList
import Derived.Test.YtcodmeljjphoeaaDoorWideF
import Derived.Test.YtcodmeljjphoeaaDoorWideE
namespace Go.Proofs.YtcodmeljjphoeaaDoor
open Go.RowKit
set_option linter.unusedVariables false
set_option linter.unusedSimpArgs false

theorem lim_low (v : Int) : lim v 0 = v % 18446744073709551616 := by unfold lim; simp

theorem pow_in {n : Nat} (h : n < 512) : (2 : Int) ^ n < M := by
  have h1 := pow_mono2 (show n + 1 ≤ 64 * 8 by omega)
  rw [Int.pow_succ] at h1
  have h2 := pow_pos2 n
  show (2 : Int) ^ n < 2 ^ (64 * 8)
  omega

theorem w_zero : Value.agg #[.int .u64 0, .int .u64 0, .int .u64 0, .int .u64 0, .int .u64 0, .int .u64 0, .int .u64 0, .int .u64 0] = W 0 := by
  have : ∀ i, lim 0 i = 0 := fun i => by unfold lim; simp
  simp [W, limbs, List.range, List.range.loop, this]

theorem built_zero : Tryd.prog.built 24 [] = some (limbs 8 0) := by kernel_rfl
theorem ok_buildz {ops : Array Oper} {Q : Exit → Act → World → Prop} {rest : List Oper} {o : Oper} {a : Act} {w : World} (hgd : o.guard = none) (ho : o.op = .build 24 #[])
    (hk : wpList Tryd.prog ops Q rest (a.put o.dst (W 0)) w) : wpList Tryd.prog ops Q (o :: rest) a w := by
  have := run_build (P := Tryd.prog) w 24 #[] (limbs 8 0) built_zero
  exact wpL_value hgd (by simp only [execOp, ho, List.map_toArray, List.map_nil, Sem.run_bind, this, Result.andThen_ok, Sem.run_pure]; rfl) hk

theorem blen_le_iff {n : Int} (h0 : 0 < n) (k : Nat) : blen n ≤ k ↔ n < 2 ^ k := by
  constructor
  · intro h
    obtain ⟨_, _, h3⟩ := blen_spec h0
    exact Int.lt_of_lt_of_le h3 (pow_mono2 h)
  · exact blen_le
theorem lim_self' {n : Int} (h0 : 0 ≤ n) (h1 : n < 18446744073709551616) : lim n 0 = n := by
  unfold lim
  simp only [Nat.mul_zero, Int.pow_zero, Int.ediv_one]
  exact Int.emod_eq_of_lt h0 h1
/-! Pairs of numbers of 512 bits. -/
/-- A pair, as cells. -/
def two (y z : Int) : Array Value := limbs 8 y ++ limbs 8 z
@[simp] theorem size_two (y z : Int) : (two y z).size = 16 := by simp [two]
theorem ones_two (y z : Int) : Ones (two y z) := by
  have h1 := ones_limbs 8 y
  have h2 := ones_limbs 8 z
  unfold Ones two at *
  simp only [Array.all_append, h1, h2, Bool.and_self]
section
variable {P : Program} {ops : Array Oper} {Q : Exit → Act → World → Prop} {rest : List Oper} {o : Oper} {a : Act} {S : Nat → Prop} {w0 w : World} {H R : List (Nat × Array Value)} {ρ : Operand → Value}
theorem run_load_fst {t : TypeId} {x : Operand} (ho : o.op = .load t x) {k : Nat} {y z : Int} (hx : ρ x = .pointer (some ⟨k, 0, none⟩)) (hg : Agg P t 8) (h : Blk w k (two y z)) : (execOp ρ o).run P w = .ok (.value (W y)) w := by
  rw [run_load_part ho h hx hg (by simp), show (two y z).extract 0 (0 + 8) = limbs 8 y from extract_fst _ _ 8 (by simp)]; rfl
theorem run_load_snd {t : TypeId} {x : Operand} (ho : o.op = .load t x) {k : Nat} {y z : Int} (hx : ρ x = .pointer (some ⟨k, 8, none⟩)) (hg : Agg P t 8) (h : Blk w k (two y z)) : (execOp ρ o).run P w = .ok (.value (W z)) w := by
  rw [run_load_part ho h hx hg (by simp), show (two y z).extract 8 (8 + 8) = limbs 8 z from extract_snd _ _ 8 8 (by simp) (by simp)]; rfl
theorem two_load_fst (h : Ok S w0 w H R) (hgd : o.guard = none) (t : TypeId) (x : Operand) (ho : o.op = .load t x) (k : Nat) (hx : a.eval x = .pointer (some ⟨k, 0, none⟩)) (hg : Agg P t 8) (y z : Int) (hm : Has H R k (two y z))
    (hk : wpList P ops Q rest (a.put o.dst (W y)) w) : wpList P ops Q (o :: rest) a w :=
  wpL_value hgd (run_load_fst ho hx hg (h.has hm)) hk
theorem two_load_snd (h : Ok S w0 w H R) (hgd : o.guard = none) (t : TypeId) (x : Operand) (ho : o.op = .load t x) (k : Nat) (hx : a.eval x = .pointer (some ⟨k, 8, none⟩)) (hg : Agg P t 8) (y z : Int) (hm : Has H R k (two y z))
    (hk : wpList P ops Q rest (a.put o.dst (W z)) w) : wpList P ops Q (o :: rest) a w :=
  wpL_value hgd (run_load_snd ho hx hg (h.has hm)) hk
/-- Is it a struct of two of them? -/
def Two (P : Program) (t : TypeId) : Prop := ∀ y z, (P.built t [(0, W y), (1, W z)]) = some (two y z)
theorem run_build2 {t : TypeId} {x1 x2 : Operand} {y z : Int} (ho : o.op = .build t #[(0, x1), (1, x2)]) (ht : Two P t) (h1 : ρ x1 = W y) (h2 : ρ x2 = W z) : (execOp ρ o).run P w = .ok (.value (.agg (two y z))) w := by
  have := run_build (P := P) w t #[(0, W y), (1, W z)] (two y z) (ht y z)
  simp only [execOp, ho, List.map_toArray, List.map_cons, List.map_nil, h1, h2, Sem.run_bind, this, Result.andThen_ok, Sem.run_pure]
theorem ok_build2 (hgd : o.guard = none) (t : TypeId) (x1 x2 : Operand) (ho : o.op = .build t #[(0, x1), (1, x2)]) (ht : Two P t) (y z : Int) (h1 : a.eval x1 = W y) (h2 : a.eval x2 = W z)
    (hk : wpList P ops Q rest (a.put o.dst (.agg (two y z))) w) : wpList P ops Q (o :: rest) a w :=
  wpL_value hgd (run_build2 ho ht h1 h2) hk
end
theorem unguard {P : Program} {ops : Array Oper} {Q : Exit → Act → World → Prop} {rest : List Oper} {o : Oper} {a : Act} {w : World} (hwt : Region.wanted o (yielded ops a.tmps) = true) (h : wpList P ops Q ({ o with guard := none } :: rest) a w) : wpList P ops Q (o :: rest) a w := by
  unfold wpList at h ⊢
  rw [if_pos hwt]
  rw [if_pos (by rfl)] at h
  exact h

theorem built_one (n : Int) : Tryd.prog.built 24 [(0, .int .u64 n)] = some #[.int .u64 n, .int .u64 0, .int .u64 0, .int .u64 0, .int .u64 0, .int .u64 0, .int .u64 0, .int .u64 0] := by kernel_rfl
theorem w_small {n : Int} (h0 : 0 ≤ n) (h1 : n < 18446744073709551616) : Value.agg #[.int .u64 n, .int .u64 0, .int .u64 0, .int .u64 0, .int .u64 0, .int .u64 0, .int .u64 0, .int .u64 0] = W n := by
  have e0 := lim_self' h0 h1
  have : ∀ i, 0 < i → lim n i = 0 := fun i hi => by
    unfold lim
    rw [Int.ediv_eq_zero_of_lt h0 (Int.lt_of_lt_of_le (show n < 2 ^ 64 from h1) (pow_mono2 (by omega)))]
    rfl
  simp [W, limbs, show List.range 8 = [0, 1, 2, 3, 4, 5, 6, 7] from rfl, e0, this 1, this 2, this 3, this 4, this 5, this 6, this 7]
theorem ok_buildw {ops : Array Oper} {Q : Exit → Act → World → Prop} {rest : List Oper} {o : Oper} {a : Act} {w : World} (hgd : o.guard = none) (x : Operand) (ho : o.op = .build 24 #[(0, x)]) (n : Int) (hx : a.eval x = .int .u64 n) (h0 : 0 ≤ n) (h1 : n < 18446744073709551616)
    (hk : wpList Tryd.prog ops Q rest (a.put o.dst (W n)) w) : wpList Tryd.prog ops Q (o :: rest) a w := by
  have := run_build (P := Tryd.prog) w 24 #[(0, .int .u64 n)] _ (built_one n)
  rw [← w_small h0 h1] at hk
  exact wpL_value hgd (by simp only [execOp, ho, List.map_toArray, List.map_cons, List.map_nil, hx, Sem.run_bind, this, Result.andThen_ok, Sem.run_pure]) hk

theorem Lst.slice {T : List (Nat × Array Value)} {v : Value} {xs : List Value} (h : Lst T v xs) : ∃ p c, v = .slice p xs.length c := by
  cases h with
  | nil => exact ⟨none, 0, rfl⟩
  | row g cap cs xs hc hm hs hx => exact ⟨_, cap, rfl⟩

theorem Lst.one {T : List (Nat × Array Value)} {v : Value} {xs : List Value} (h : Lst T v xs) : v.oneCell' = true := by cases h <;> rfl
theorem Lst.nil_val {T : List (Nat × Array Value)} {v : Value} (h : Lst T v []) : T = [] ∧ v = .slice none 0 0 ∨ ∃ g c cs, T = [(g, cs)] ∧ v = .slice (some ⟨g, 0, none⟩) 0 c := by
  generalize hx : ([] : List Value) = xs at h
  cases h with
  | nil => exact .inl ⟨rfl, rfl⟩
  | row g cap cs xs hc hm hs hx' => subst hx; exact .inr ⟨g, cap, cs, rfl, rfl⟩
theorem Lst.rows {T : List (Nat × Array Value)} {v : Value} {xs : List Value} (h : Lst T v xs) (hn : xs ≠ []) : ∃ g c cs, T = [(g, cs)] ∧ v = .slice (some ⟨g, 0, none⟩) xs.length c ∧ ∀ i, i < xs.length → cs[i]? = xs[i]? := by
  cases h with
  | nil => exact absurd rfl hn
  | row g cap cs xs hc hm hs hx => exact ⟨g, cap, cs, rfl, rfl, hx⟩

end Go.Proofs.YtcodmeljjphoeaaDoor
