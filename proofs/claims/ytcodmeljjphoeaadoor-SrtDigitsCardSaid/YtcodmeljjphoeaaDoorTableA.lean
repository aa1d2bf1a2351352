/-
  Layer 14: the next digit.
-/
import Derived.Test.YtcodmeljjphoeaaDoorProdC
namespace Go.Proofs.YtcodmeljjphoeaaDoor
open Go.RowKit
set_option linter.unusedVariables false
set_option linter.unusedSimpArgs false

section
variable {P : Program} {ops : Array Oper} {Q : Exit → Act → World → Prop} {rest : List Oper} {o : Oper} {a : Act} {w : World}
theorem run_index {ρ : Operand → Value} {t e : TypeId} {x y : Operand} {cs : Array Value} {v : Value} {i n : Nat} (ho : o.op = .index t x y) (hu : P.underlying t = some (.array n e)) (he : One P e)
    (hx : ρ x = .agg cs) (hy : ρ y = .int .i64 i) (hi : i < n) (hv : cs[i]? = some v) : (execOp ρ o).run P w = .ok (.value v) w := by
  obtain ⟨⟨d, hd1, hd2⟩, h3⟩ := he
  have hagg : (isAgg e).run P w = .ok false w := by
    unfold isAgg
    rw [Sem.run_bind, run_underlying hd1 w]
    cases d <;> simp_all
  have hl : (i : Int) < (n : Int) := by omega
  cases hq : P.info? e with
  | none => simp [hq] at h3
  | some ie =>
    have hs : ie.size = 1 := by simpa [hq] using h3
    simp [execOp, ho, hx, hy, Instr.index, asIntOf, run_underlying hu, part, hagg, sizeOf, typeInfo, hq, hs, hi, hv]
theorem a_index (hgd : o.guard = none) (t e : TypeId) (x y : Operand) (ho : o.op = .index t x y) (n : Nat) (hu : P.underlying t = some (.array n e)) (he : One P e) (cs : Array Value) (v : Value) (hx : a.eval x = .agg cs) (i : Nat) (hy : a.eval y = .int .i64 i) (hi : i < n) (hv : cs[i]? = some v)
    (hk : wpList P ops Q rest (a.put o.dst v) w) : wpList P ops Q (o :: rest) a w :=
  wpL_value hgd (run_index ho hu he hx hy hi hv) hk
end

/-- Four bounds. -/
def ints4 (b : Nat → Int) : Array Value := #[.int .i64 (b 0), .int .i64 (b 1), .int .i64 (b 2), .int .i64 (b 3)]
theorem ints4_get (b : Nat → Int) {i : Nat} (h : i < 4) : (ints4 b)[i]? = some (.int .i64 (b i)) := by
  have : i = 0 ∨ i = 1 ∨ i = 2 ∨ i = 3 := by omega
  rcases this with rfl | rfl | rfl | rfl <;> rfl
theorem agg_ints4 : Agg Tryd.prog 76 4 := .mk _ Tryd.underlying76 rfl (by kernel_rfl)
theorem zero_ints4 : Zero Tryd.prog 76 (ints4 fun _ => 0) := ⟨.agg (ints4 fun _ => 0), by kernel_rfl, rfl⟩
theorem ones_ints4 (b : Nat → Int) : Ones (ints4 b) := by simp [Ones, ints4, Value.oneCell']
@[simp] theorem size_ints4 (b : Nat → Int) : (ints4 b).size = 4 := rfl

/-- The greatest digit whose bound isn't above: n bounds are left. -/
def pickf (b : Nat → Int) (y : Int) : Nat → Int
  | 0 => -2
  | n + 1 => if b (3 - n) ≤ y then (n : Int) - 1 else pickf b y n
def pickv (b : Nat → Int) (y : Int) : Int := pickf b y 4

set_option maxRecDepth 10000 in
theorem pick_gives (b : Nat → Int) (y : Int) : Gives Tryd.prog 82 #[.agg (ints4 b), .int .i64 y] [] (.int .i64 (pickv b y)) := by
  refine .mk fun w0 w hw => ?_
  obtain ⟨r, hr⟩ : ∃ r, r = pickv b y := ⟨_, rfl⟩
  rw [← hr]
  have Hr := Lib.hid hr
  clear hr
  go_enter Tryd.func82, Tryd.ntmps82
  go_wp2_with (first | (refine ok_box hw rfl 76 _ rfl _ rfl ?_; clear hw; intro k1 w hw) | (refine ok_load hw rfl 76 _ rfl _ rfl _ agg_ints4 _ (Has.own (.head _)) (size_ints4 _) ?_))
  go_loopw [9, 5] (fun v u wr => ∃ i : Nat, i ≤ 4 ∧ v = .int .i64 i ∧ u = .int .i64 (2 - i) ∧ Hid (pickv b y = pickf b y (4 - i)) ∧ Ok Non w0 wr [(k1, ints4 b)] []) (fun v _ _ => 4 - (intOf v).toNat)
  case atStart => exact ⟨0, by omega, rfl, rfl, Lib.hid rfl, hw⟩
  case round =>
    clear hw
    obtain ⟨i, hi, rfl, rfl, hp, hw⟩ := hrel
    by_cases hlt : i < 4
    · have hst : pickf b y (4 - i) = if b i ≤ y then (2 : Int) - i else pickf b y (4 - (i + 1)) := by
        rw [show 4 - i = (3 - i) + 1 by omega, pickf, show 3 - (3 - i) = i by omega, show 4 - (i + 1) = 3 - i by omega]
        congr 1; omega
      by_cases hb : b i ≤ y
      · go_wp2_with (first | (refine a_index rfl _ _ _ _ rfl 4 Tryd.underlying76 one_int _ _ rfl i rfl hlt (ints4_get b hlt) ?_))
        go_ret
        exact ⟨by rw [Hr.out, hp.out, hst, if_pos hb]; rfl, hw.below⟩
      · rw [if_neg hb] at hst
        have hst2 := Lib.hid hst
        clear hst
        go_wp2_with (first | (refine a_index rfl _ _ _ _ rfl 4 Tryd.underlying76 one_int _ _ rfl i rfl hlt (ints4_get b hlt) ?_))
        exact ⟨⟨i + 1, by omega, by go_num, by go_num, Lib.hid (hp.out.trans hst2.out), hw⟩, by simp [intOf]; omega⟩
    · have h4 : i = 4 := by omega
      subst h4
      go_wp2
      go_ret
      exact ⟨by rw [Hr.out, hp.out]; rfl, hw.below⟩

end Go.Proofs.YtcodmeljjphoeaaDoor
