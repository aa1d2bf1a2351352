/-
  A law's statement out of its walk: arguments that are numbers of 512 bits and whole numbers.
-/
import Derived.Test.YtcodmeljjphoeaaDoorLimb
import Derived.Test.YtcodmeljjphoeaaDoorRuns
import Derived.ChangeSame
import Derived.OpenShut
import Derived.JoinedOf
import Derived.JoinedAt
import Derived.RowKit3
namespace Go.Proofs.YtcodmeljjphoeaaDoor
open Go.ChangeShapes Go.WideShapes Go.ChangeAt Go.RowKit
set_option linter.unusedVariables false
set_option linter.unusedSimpArgs false

theorem Tryd.own : ownKnob Tryd.prog.godebug = none := by kernel_rfl
theorem Tryd.cellsWide : Tryd.prog.cellsOf 24 = 8 := by kernel_rfl
theorem Tryd.cellsU64 : Tryd.prog.cellsOf 22 = 1 := by kernel_rfl

/-- Of any limbs there is a number. -/
theorem limbs_any (f : Nat → Int) : ∀ k : Nat, (∀ i, i < k → 0 ≤ f i ∧ f i < 18446744073709551616) → ∃ n : Int, 0 ≤ n ∧ n < 2 ^ (64 * k) ∧ ∀ i, i < k → lim n i = f i
  | 0, _ => ⟨0, by omega, by simp, fun i hi => by omega⟩
  | k + 1, h => by
    obtain ⟨n, h0, h1, h2⟩ := limbs_any f k (fun i hi => h i (by omega))
    have hf := h k (by omega)
    have hp := pow_pos2 (64 * k)
    have e : (2 : Int) ^ (64 * (k + 1)) = 18446744073709551616 * 2 ^ (64 * k) := by
      rw [show (18446744073709551616 : Int) = 2 ^ 64 by rfl, ← Int.pow_add]; congr 1; omega
    refine ⟨n + f k * 2 ^ (64 * k), ?_, ?_, ?_⟩
    · have := Int.mul_nonneg hf.1 (show 0 ≤ (2 : Int) ^ (64 * k) by omega)
      omega
    · rw [e]
      have := Int.mul_le_mul_of_nonneg_right (show f k ≤ 18446744073709551615 by omega) (show 0 ≤ (2 : Int) ^ (64 * k) by omega)
      omega
    · intro i hi
      by_cases hik : i = k
      · subst hik
        unfold lim
        rw [Int.add_mul_ediv_right _ _ (by omega), Int.ediv_eq_zero_of_lt h0 h1, Int.zero_add]
        exact Int.emod_eq_of_lt hf.1 hf.2
      · rw [lim_add_mul n (f k) k i (by omega)]
        exact h2 i (by omega)

section
variable {H : Type} {enc : TypeId × Value → H}
/-- An argument that reads the same in every world, and takes no place. -/
def Plain (enc : TypeId × Value → H) (t : TypeId) (v : Value) (d : DataW H) : Prop := ∀ (w : World) (b : Nat) (sp : Nat → Bool) (hd : Bool), DataW.Trod enc Tryd.prog w b sp hd t v d []

theorem list8 {α : Type} (l : List α) (h : l.length = 8) : ∃ a b c d e f g i, l = [a, b, c, d, e, f, g, i] := by
  match l, h with
  | [a, b, c, d, e, f, g, i], _ => exact ⟨a, b, c, d, e, f, g, i, rfl⟩

theorem shut_wide {x0 x1 x2 x3 x4 x5 x6 x7 : Int} (w0 : (Lit.int .u64 x0).wf = true) (w1 : (Lit.int .u64 x1).wf = true) (w2 : (Lit.int .u64 x2).wf = true) (w3 : (Lit.int .u64 x3).wf = true) (w4 : (Lit.int .u64 x4).wf = true) (w5 : (Lit.int .u64 x5).wf = true) (w6 : (Lit.int .u64 x6).wf = true) (w7 : (Lit.int .u64 x7).wf = true) :
    Plain enc 24 (.agg #[.int .u64 x0, .int .u64 x1, .int .u64 x2, .int .u64 x3, .int .u64 x4, .int .u64 x5, .int .u64 x6, .int .u64 x7]) (DataW.agg [.lit (.int .u64 x0), .lit (.int .u64 x1), .lit (.int .u64 x2), .lit (.int .u64 x3), .lit (.int .u64 x4), .lit (.int .u64 x5), .lit (.int .u64 x6), .lit (.int .u64 x7)]) := by
  intro w b sp hd
  exact ⟨2, by simp [DataW.trod, Value.cells, Tryd.underlying24, Tryd.underlying22, Tryd.cellsWide, Tryd.cellsU64, w0, w1, w2, w3, w4, w5, w6, w7, show List.range 8 = [0, 1, 2, 3, 4, 5, 6, 7] from rfl]⟩

theorem open_wide {W0 : World} {b : Nat} {sp : Nat → Bool} {hd : Bool} {v : Value} {d : DataW H} {p : List MemPlace} (h : DataW.Trod enc Tryd.prog W0 b sp hd 24 v d p) (hok : ∃ cs, v = .agg cs ∧ cs.size = 8) :
    p = [] ∧ Plain enc 24 v d ∧ ∃ n : Int, 0 ≤ n ∧ n < M ∧ v = W n := by
  obtain ⟨cs, rfl, hsz⟩ := hok
  obtain ⟨l⟩ := cs
  obtain ⟨c0, c1, c2, c3, c4, c5, c6, c7, rfl⟩ := list8 l hsz
  obtain ⟨fuel, hf⟩ := h
  obtain ⟨xs, m, rfl, hx, hl, hn, hall⟩ := DataW.trod_array Tryd.underlying24 hf
  obtain ⟨y0, y1, y2, y3, y4, y5, y6, y7, rfl⟩ := list8 xs hn
  have h0 := hall 0 (by omega)
  have h1 := hall 1 (by omega)
  have h2 := hall 2 (by omega)
  have h3 := hall 3 (by omega)
  have h4 := hall 4 (by omega)
  have h5 := hall 5 (by omega)
  have h6 := hall 6 (by omega)
  have h7 := hall 7 (by omega)
  simp only [Tryd.cellsU64, Value.cells] at h0 h1 h2 h3 h4 h5 h6 h7
  obtain ⟨x0, e0, rfl, w0⟩ := DataW.trod_int Tryd.underlying22 h0
  obtain ⟨x1, e1, rfl, w1⟩ := DataW.trod_int Tryd.underlying22 h1
  obtain ⟨x2, e2, rfl, w2⟩ := DataW.trod_int Tryd.underlying22 h2
  obtain ⟨x3, e3, rfl, w3⟩ := DataW.trod_int Tryd.underlying22 h3
  obtain ⟨x4, e4, rfl, w4⟩ := DataW.trod_int Tryd.underlying22 h4
  obtain ⟨x5, e5, rfl, w5⟩ := DataW.trod_int Tryd.underlying22 h5
  obtain ⟨x6, e6, rfl, w6⟩ := DataW.trod_int Tryd.underlying22 h6
  obtain ⟨x7, e7, rfl, w7⟩ := DataW.trod_int Tryd.underlying22 h7
  simp at e0 e1 e2 e3 e4 e5 e6 e7
  subst e0 e1 e2 e3 e4 e5 e6 e7
  simp only [Prod.mk.injEq] at hx
  obtain ⟨rfl, rfl⟩ := hx
  refine ⟨rfl, shut_wide w0 w1 w2 w3 w4 w5 w6 w7, ?_⟩
  have b0 := bounds_u64 w0
  have b1 := bounds_u64 w1
  have b2 := bounds_u64 w2
  have b3 := bounds_u64 w3
  have b4 := bounds_u64 w4
  have b5 := bounds_u64 w5
  have b6 := bounds_u64 w6
  have b7 := bounds_u64 w7
  obtain ⟨n, n0, n1, n2⟩ := limbs_any (fun i => [x0, x1, x2, x3, x4, x5, x6, x7].getD i 0) 8 (fun i hi => by
    have : i = 0 ∨ i = 1 ∨ i = 2 ∨ i = 3 ∨ i = 4 ∨ i = 5 ∨ i = 6 ∨ i = 7 := by omega
    rcases this with rfl | rfl | rfl | rfl | rfl | rfl | rfl | rfl <;> simp <;> omega)
  refine ⟨n, n0, n1, ?_⟩
  have l0 := n2 0 (by omega)
  have l1 := n2 1 (by omega)
  have l2 := n2 2 (by omega)
  have l3 := n2 3 (by omega)
  have l4 := n2 4 (by omega)
  have l5 := n2 5 (by omega)
  have l6 := n2 6 (by omega)
  have l7 := n2 7 (by omega)
  simp at l0 l1 l2 l3 l4 l5 l6 l7
  simp [W, limbs, show List.range 8 = [0, 1, 2, 3, 4, 5, 6, 7] from rfl, l0, l1, l2, l3, l4, l5, l6, l7]

theorem open_num {k : IntKind} {t : TypeId} {W0 : World} {b : Nat} {sp : Nat → Bool} {hd : Bool} {v : Value} {d : DataW H} {p : List MemPlace} (ht : Tryd.prog.underlying t = some (.int k)) (h : DataW.Trod enc Tryd.prog W0 b sp hd t v d p) (hok : ∃ m, v = .int k m) :
    p = [] ∧ Plain enc t v d ∧ ∃ n : Int, (Lit.int k n).wf = true ∧ v = .int k n := by
  obtain ⟨m, rfl⟩ := hok
  obtain ⟨fuel, hf⟩ := h
  obtain ⟨n, e, e2, hw⟩ := DataW.trod_int ht hf
  simp [Value.cells] at e
  subst e
  simp only [Prod.mk.injEq] at e2
  obtain ⟨rfl, rfl⟩ := e2
  exact ⟨rfl, fun w b sp hd => shut_int ht hw, m, hw, rfl⟩

theorem keptBut_below {W0 W1 : World} (h : Below W0.heap.size W0 W1) (may : MemPlace → Prop) : W0.keptBut W1 may := by
  refine ⟨h.os, h.output, fun i hi => ?_⟩
  rw [h.block i hi]
  cases W0.heap[i]? with
  | none => trivial
  | some o => cases o <;> simp
end

set_option maxRecDepth 100000 in
theorem okWide_true (W1 : World) : Value.okWide Tryd.prog W1 .any 0 4 (.bool true) := okWide_bool_mk Tryd.underlying4 true
set_option maxRecDepth 100000 in
/-- What stands behind a law's call. -/
theorem law_post {H : Type} {enc : TypeId × Value → H} {f : Func} {s : ChangeSpec} {apart again : Bool} {W0 W1 : World} {args : Array Value} {ds : List (DataW H)}
    (hW : DataW.Whole enc Tryd.prog f.params.toList s.vars apart W0 args.toList ds [] []) (hb : Below W0.heap.size W0 W1) (hv : s.vars = [])
    (hr : f.resultTypes = #[4]) (h1 : (s.fn H (ds ++ [])).results = [.lit (.bool true)]) (h2 : (s.fn H (ds ++ [])).args = ds) (h3 : (s.fn H (ds ++ [])).vars = [])
    (hargs : ∀ (w : World) (b : Nat) (sp : Nat → Bool) (hd : Bool), DataW.TrodAll enc Tryd.prog w b sp hd f.params.toList args.toList ds []) :
    s.post enc Tryd.prog f apart true false again W0 args (.bool true) W1 := by
  have hres : ∀ (w : World) (b : Nat) (sp : Nat → Bool) (hd : Bool), DataW.TrodAll enc Tryd.prog w b sp hd f.resultTypes.toList ((Value.bool true).resultList f.resultTypes.size) (s.fn H (ds ++ [])).results [] := by
    intro w b sp hd
    rw [h1, hr]
    exact trodAll_mk1 ⟨1, by simp [DataW.trod, Value.cells, Tryd.underlying4]⟩
  have hva : ∀ (w : World) (sp : Nat → Bool), DataW.TrodVars enc Tryd.prog w sp s.vars (s.fn H (ds ++ [])).vars [] := by
    intro w sp
    rw [h3, hv]
    rfl
  refine ⟨ds, [], [], [], [], [], hW, hres _ _ _ _, by rw [h2]; exact hargs _ _ _ _, hva _ _, keptBut_below hb _, fun _ => ?_⟩
  obtain ⟨_, _, _, _, _, hz, hn⟩ := hW
  refine ⟨ok_one hr rfl (okWide_true W1), _, _, ([] ++ []) ++ [], ⟨[] ++ [], [], trodAll_append (hargs _ _ _ _) (hres _ _ _ _), hva _ _, rfl, ?_, ?_⟩, ?_⟩
  · intro b off hp
    simp at hp
  · intro ha
    simp
  · intro p hp _
    simp at hp
end Go.Proofs.YtcodmeljjphoeaaDoor
