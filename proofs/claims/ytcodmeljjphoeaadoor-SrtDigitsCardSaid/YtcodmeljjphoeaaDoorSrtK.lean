/-
  What the condition on the table's variable gives a walk: the table's row.
-/
import Derived.Test.YtcodmeljjphoeaaDoorSrtA
import Derived.Test.YtcodmeljjphoeaaDoorLawKit
import Derived.LaidMore
import Derived.MakeChecks
namespace Go.Proofs.YtcodmeljjphoeaaDoor
open Go.ChangeShapes Go.WideShapes Go.ChangeAt Go.RowKit
set_option linter.unusedVariables false
set_option linter.unusedSimpArgs false

theorem gRows : Tryd.prog.globalNamed "radicand/table.rows" = some 0 := by kernel_rfl
theorem tRows : (Tryd.prog.globals[0]?).map (·.type) = some 121 := by kernel_rfl
theorem cells4 : Tryd.prog.cellsOf 76 = 4 := by kernel_rfl
theorem cells84 : Tryd.prog.cellsOf 121 = 32 := by kernel_rfl
theorem cellsInt : Tryd.prog.cellsOf 3 = 1 := by kernel_rfl

theorem list4 {α : Type} (l : List α) (h : l.length = 4) : ∃ a b c d, l = [a, b, c, d] := by
  match l, h with
  | [a, b, c, d], _ => exact ⟨a, b, c, d, rfl⟩
theorem ints4_trod {H : Type} {enc : TypeId × Value → H} {W : World} {b : Nat} {sp : Nat → Bool} {hd : Bool} {m : Nat} {cs : List Value} {x : DataW H × List MemPlace} (x0 x1 x2 x3 : Int)
    (h : DataW.trod enc Tryd.prog W b sp hd m 76 cs = some x) (hx : x.1 = .agg [.lit (.int .i64 x0), .lit (.int .i64 x1), .lit (.int .i64 x2), .lit (.int .i64 x3)]) :
    cs = [.int .i64 x0, .int .i64 x1, .int .i64 x2, .int .i64 x3] := by
  obtain ⟨xs, m, rfl, rfl, hl, hn, hall⟩ := DataW.trod_array Tryd.underlying76 h
  rw [cells4] at hl
  obtain ⟨c0, c1, c2, c3, rfl⟩ := list4 cs hl
  obtain ⟨y0, y1, y2, y3, rfl⟩ := list4 xs hn
  have h0 := hall 0 (by omega)
  have h1 := hall 1 (by omega)
  have h2 := hall 2 (by omega)
  have h3 := hall 3 (by omega)
  simp only [cellsInt] at h0 h1 h2 h3
  obtain ⟨z0, e0, rfl, _⟩ := DataW.trod_int Tryd.underlying3 h0
  obtain ⟨z1, e1, rfl, _⟩ := DataW.trod_int Tryd.underlying3 h1
  obtain ⟨z2, e2, rfl, _⟩ := DataW.trod_int Tryd.underlying3 h2
  obtain ⟨z3, e3, rfl, _⟩ := DataW.trod_int Tryd.underlying3 h3
  simp at e0 e1 e2 e3 hx
  obtain ⟨rfl, rfl, rfl, rfl⟩ := hx
  rw [e0, e1, e2, e3]
theorem chunks (r : Nat → List Value) : ∀ (k : Nat) (cs : List Value), cs.length = 4 * k → (∀ i, i < k → (cs.drop (i * 4)).take 4 = r i) → cs = (List.range k).flatMap r
  | 0, cs, h, _ => by
    have : cs = [] := List.length_eq_zero_iff.1 (by omega)
    simp [this]
  | k + 1, cs, h, hr => by
    have h0 := hr 0 (by omega)
    simp at h0
    have hi := chunks (fun i => r (i + 1)) k (cs.drop 4) (by simp; omega) (fun i hi => by
      rw [List.drop_drop, show 4 + i * 4 = (i + 1) * 4 by omega]
      exact hr (i + 1) (by omega))
    rw [List.range_succ_eq_map, List.flatMap_cons, List.flatMap_map, ← hi, ← h0, List.take_append_drop]

theorem tr_of_laid {W : World} (h : laidMetH Tryd.prog [("radicand/table.rows", Rows.laid_radicand_table_rows)] W) : ∀ p ∈ TR, Blk W p.1 p.2 := by
  rw [MakeChecks.laidMetH_plain _ _ _ (by kernel_rfl)] at h
  obtain ⟨ps, ⟨g0, t0, cs0, f0, p0, q0, hg0, ht0, hv0, hd0, hq, hps⟩, _, hall⟩ := h
  obtain rfl := Option.some.inj (gRows.symm.trans hg0)
  obtain rfl := Option.some.inj (tRows.symm.trans ht0)
  obtain ⟨xs, m, rfl, hx, hl, hn, hel⟩ := DataW.trod_array Tryd.underlying121 hd0
  obtain ⟨y0, y1, y2, y3, y4, y5, y6, y7, rfl⟩ := list8 xs hn
  rw [cells84] at hl
  have r0 := hel 0 (by omega)
  have r1 := hel 1 (by omega)
  have r2 := hel 2 (by omega)
  have r3 := hel 3 (by omega)
  have r4 := hel 4 (by omega)
  have r5 := hel 5 (by omega)
  have r6 := hel 6 (by omega)
  have r7 := hel 7 (by omega)
  simp only [cells4] at r0 r1 r2 r3 r4 r5 r6 r7
  simp only [Prod.mk.injEq, Rows.laid_radicand_table_rows, DataW.agg.injEq, List.map_cons, List.map_nil, List.cons.injEq, and_true] at hx
  obtain ⟨⟨a0, a1, a2, a3, a4, a5, a6, a7⟩, _⟩ := hx
  have b0 := ints4_trod _ _ _ _ r0 a0.symm
  have b1 := ints4_trod _ _ _ _ r1 a1.symm
  have b2 := ints4_trod _ _ _ _ r2 a2.symm
  have b3 := ints4_trod _ _ _ _ r3 a3.symm
  have b4 := ints4_trod _ _ _ _ r4 a4.symm
  have b5 := ints4_trod _ _ _ _ r5 a5.symm
  have b6 := ints4_trod _ _ _ _ r6 a6.symm
  have b7 := ints4_trod _ _ _ _ r7 a7.symm
  have hc := chunks (fun i => (tcells.toList.drop (i * 4)).take 4) 8 cs0.toList hl (fun i hi => by
    have : i = 0 ∨ i = 1 ∨ i = 2 ∨ i = 3 ∨ i = 4 ∨ i = 5 ∨ i = 6 ∨ i = 7 := by omega
    rcases this with rfl | rfl | rfl | rfl | rfl | rfl | rfl | rfl
    · exact b0
    · exact b1
    · exact b2
    · exact b3
    · exact b4
    · exact b5
    · exact b6
    · exact b7)
  have hcs : cs0 = tcells := by
    apply Array.ext'
    rw [hc]
    rfl
  subst hcs
  intro p hp
  simp [TR] at hp
  subst hp
  have hin : MemPlace.cell 0 0 ∈ ps := by
    rw [hps]
    refine List.mem_append_left _ (List.mem_append_left _ ?_)
    simp [MemPlace.row, tcells]
  obtain ⟨⟨c, t, hb⟩, _⟩ := hall 0 0 hin
  simp [World.var?, gRows, hb] at hv0
  subst hv0
  exact ⟨t, hb⟩

/-- The door's own heap meets the condition. -/
theorem door_met (os : Os) (args : Array Value) : laidMetH Tryd.prog [("radicand/table.rows", Rows.laid_radicand_table_rows)] ((World.doorLaid Tryd.prog 400 os).forCall (fun _ _ => 0) ⟨#[], args, []⟩).memory := by
  rw [MakeChecks.laidMetH_plain _ _ _ (by kernel_rfl)]
  exact laidMet_of_run' 8 (by kernel_rfl) (by kernel_rfl)
end Go.Proofs.YtcodmeljjphoeaaDoor
