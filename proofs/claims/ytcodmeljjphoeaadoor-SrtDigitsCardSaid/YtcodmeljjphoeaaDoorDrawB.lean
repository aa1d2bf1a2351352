/-
  Regions that draw their order, with calls that return numbers.
-/
import Derived.Test.YtcodmeljjphoeaaDoorBigM
namespace Go.Proofs.YtcodmeljjphoeaaDoor
open Go.RowKit
set_option linter.unusedVariables false
set_option linter.unusedSimpArgs false

theorem one_bool : One Tryd.prog 4 := .mk _ Tryd.underlying4 rfl (by kernel_rfl)
theorem one_big : One Tryd.prog 36 := .mk _ Tryd.underlying36 rfl (by kernel_rfl)

/-! Regions that draw their order, with calls that return numbers. -/
def MineB (S : Nat → Prop) (w0 : World) (H R : List (Nat × Array Value)) (b : Int) : Rel := fun w v => ∃ L, BigV L v b ∧ Fresh w0 L ∧ Ok S w0 w H (L ++ R)
theorem stable_mineb (S : Nat → Prop) (w0 : World) (H R : List (Nat × Array Value)) (b : Int) : Stable (MineB S w0 H R b) := fun _ _ _ hb ⟨L, h1, h2, h3⟩ => ⟨L, h1, h2, h3.grow hb⟩
theorem BigV.slice {R : List (Nat × Array Value)} {v : Value} {b : Int} (h : BigV R v b) : ∃ p n c, v = .slice p n c := by
  obtain ⟨n, h, _⟩ := h
  obtain ⟨p, c, e, _⟩ := h.shape
  exact ⟨p, n, c, e⟩
section
variable {P : Program} {ops : Array Oper} {Q : Exit → Act → World → Prop} {o : Oper} {a : Act} {S : Nat → Prop} {w0 w : World} {H R : List (Nat × Array Value)} {D : World → Prop} {a0 : Act} {hist : List Rel}
theorem ask_rel {C : World → Prop} {e : Entry} {T : Rel} (hf : e.fl = false) (hg : e.gd = none) (hn : e.nw = false)
    (h : ∀ a w, C w → Known hist a0 a w e.fs → ∃ v, (execOp a.eval o).run P w = .ok (.value v) w ∧ T w v) : Ask P Q C D a0 hist o e T := by
  unfold Ask
  rw [if_neg (by simp [hf])]
  intro a w hw _ _ hk
  rw [if_pos (by simp [hg, wantedB])]
  obtain ⟨v, h1, h2⟩ := h a w hw hk
  unfold Oper.wp
  rw [h1]
  exact ⟨v, rfl, Below.refl _ _, h2, fun h => by rw [hn] at h; cases h⟩
theorem ask_big {e : Entry} {f : FuncId} {b : Int} (hf : e.fl = false) (hg : e.gd = none) (hn : e.nw = false)
    (h : ∀ a w, Ok S w0 w H R → Known hist a0 a w e.fs → ∃ args R2, (execOp a.eval o).run Tryd.prog w = .ok (.enter f args) w ∧ GivesB f args R2 b ∧ ∀ p ∈ R2, Blk w p.1 p.2) :
    Ask Tryd.prog Q (fun w => Ok S w0 w H R) D a0 hist o e (MineB S w0 H R b) := by
  unfold Ask
  rw [if_neg (by simp [hf])]
  intro a w hw _ _ hk
  rw [if_pos (by simp [hg, wantedB])]
  obtain ⟨args, R2, h1, h2, h3⟩ := h a w hw hk
  unfold Oper.wp
  rw [h1]
  refine (h2.plain h3).mono ?_
  rintro e' w' ⟨z, L, rfl, hz, hb, hL⟩
  exact ⟨z, rfl, hb, ⟨L, hz, fun q hq => Nat.le_trans hw.size (hL q hq).2, hw.reads_new hb hL⟩, fun h => by rw [hn] at h; cases h⟩
end

theorem bigv_digit {R : List (Nat × Array Value)} {v : Value} {b : Int} (h : BigV R v b) (hb : b < 4294967296) : (∃ p c, v = .slice p 0 c ∧ b = 0) ∨ ∃ k c cs, v = .slice (some ⟨k, 0, none⟩) 1 c ∧ (k, cs) ∈ R ∧ cs[0]? = some (.int .u32 b) := by
  obtain ⟨n, hn, hN⟩ := h.sized (k := 1) hb
  obtain ⟨p, c, rfl, hc, hr⟩ := hN.shape
  have hp := hN.pos
  by_cases h0 : n = 0
  · subst h0
    have := hN.lt
    left; exact ⟨p, c, rfl, by simp at this; omega⟩
  · have h1 : n = 1 := by omega
    subst h1
    rcases hr with hr | ⟨k, cs, rfl, hm, hd⟩
    · omega
    · right
      refine ⟨k, c, cs, rfl, hm, ?_⟩
      rw [hd 0 (by omega)]
      have : dg b 0 = b := by unfold dg; simp only [Nat.mul_zero, Int.pow_zero, Int.ediv_one]; exact Int.emod_eq_of_lt hp hb
      rw [this]

theorem bigv_row {R : List (Nat × Array Value)} {v : Value} {b : Int} (h : BigV R v b) (hb : b < 4294967296) (h0 : 0 < b) : ∃ k c cs, v = .slice (some ⟨k, 0, none⟩) 1 c ∧ (k, cs) ∈ R ∧ cs[0]? = some (.int .u32 b) := by
  rcases bigv_digit h hb with ⟨p, c, rfl, rfl⟩ | h
  · omega
  · exact h
theorem div_bds {z P a b : Int} (hP : 0 < P) (h1 : -a ≤ z / P) (h2 : z / P ≤ b) : -(a * P) ≤ z ∧ z < (b + 1) * P := by
  have e := Int.emod_add_mul_ediv z P
  have m0 := Int.emod_nonneg z (show P ≠ 0 by omega)
  have m1 := Int.emod_lt_of_pos z hP
  have g1 := Int.mul_le_mul_of_nonneg_left h1 (show 0 ≤ P by omega)
  have g2 := Int.mul_le_mul_of_nonneg_left h2 (show 0 ≤ P by omega)
  rw [Int.mul_neg, Int.mul_comm P a] at g1
  rw [Int.add_mul, Int.one_mul, Int.mul_comm b P]
  omega

end Go.Proofs.YtcodmeljjphoeaaDoor
