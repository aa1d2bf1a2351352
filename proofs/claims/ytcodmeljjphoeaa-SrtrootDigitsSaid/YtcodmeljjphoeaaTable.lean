/-
  Layer 14: the next digit.
-/
import Derived.Test.YtcodmeljjphoeaaProdC
namespace Go.Proofs.Ytcodmeljjphoeaa
open Go.RowKit
set_option linter.unusedVariables false
set_option linter.unusedSimpArgs false

section
variable {P : Program} {ops : Array Oper} {Q : Exit → Act → World → Prop} {rest : List Oper} {o : Oper} {a : Act} {w : World}
theorem run_index {ρ : Operand → Value} {t e : TypeId} {x y : Operand} {cs : Array Value} {v : Value} {i n : Nat} (ho : o.op = .index t x y) (hu : P.underlying t = some (.array n e)) (he : One P e)
    (hx : ρ x = .agg cs) (hy : ρ y = .int .i64 i) (hi : i < n) (hv : cs[i]? = some v) : (execOp ρ o).run P w = .ok (.value v) w := by
  obtain ⟨⟨d, hd1, hd2⟩, h3⟩ := he
  have hagg : (isAgg e).run P w = .ok false w := by
    unfold isAgg
    rw [Sem.run_bind, run_underlying hd1 w]
    cases d <;> simp_all
  have hl : (i : Int) < (n : Int) := by omega
  cases hq : P.info? e with
  | none => simp [hq] at h3
  | some ie =>
    have hs : ie.size = 1 := by simpa [hq] using h3
    simp [execOp, ho, hx, hy, Instr.index, asIntOf, run_underlying hu, part, hagg, sizeOf, typeInfo, hq, hs, hi, hv]
theorem a_index (hgd : o.guard = none) (t e : TypeId) (x y : Operand) (ho : o.op = .index t x y) (n : Nat) (hu : P.underlying t = some (.array n e)) (he : One P e) (cs : Array Value) (v : Value) (hx : a.eval x = .agg cs) (i : Nat) (hy : a.eval y = .int .i64 i) (hi : i < n) (hv : cs[i]? = some v)
    (hk : wpList P ops Q rest (a.put o.dst v) w) : wpList P ops Q (o :: rest) a w :=
  wpL_value hgd (run_index ho hu he hx hy hi hv) hk
end

/-- Four bounds. -/
def ints4 (b : Nat → Int) : Array Value := #[.int .i64 (b 0), .int .i64 (b 1), .int .i64 (b 2), .int .i64 (b 3)]
theorem ints4_get (b : Nat → Int) {i : Nat} (h : i < 4) : (ints4 b)[i]? = some (.int .i64 (b i)) := by
  have : i = 0 ∨ i = 1 ∨ i = 2 ∨ i = 3 := by omega
  rcases this with rfl | rfl | rfl | rfl <;> rfl
theorem agg_ints4 : Agg Try.prog 74 4 := .mk _ Try.underlying74 rfl (by kernel_rfl)
theorem zero_ints4 : Zero Try.prog 74 (ints4 fun _ => 0) := ⟨.agg (ints4 fun _ => 0), by kernel_rfl, rfl⟩
theorem ones_ints4 (b : Nat → Int) : Ones (ints4 b) := by simp [Ones, ints4, Value.oneCell']
@[simp] theorem size_ints4 (b : Nat → Int) : (ints4 b).size = 4 := rfl

/-- The greatest digit whose bound isn't above: n bounds are left. -/
def pickf (b : Nat → Int) (y : Int) : Nat → Int
  | 0 => -2
  | n + 1 => if b (3 - n) ≤ y then (n : Int) - 1 else pickf b y n
def pickv (b : Nat → Int) (y : Int) : Int := pickf b y 4

set_option maxRecDepth 10000 in
theorem pick_gives (b : Nat → Int) (y : Int) : Gives Try.prog 117 #[.agg (ints4 b), .int .i64 y] [] (.int .i64 (pickv b y)) := by
  refine .mk fun w0 w hw => ?_
  obtain ⟨r, hr⟩ : ∃ r, r = pickv b y := ⟨_, rfl⟩
  rw [← hr]
  have Hr := Lib.hid hr
  clear hr
  go_enter Try.func117, Try.ntmps117
  go_wp2_with (first | (refine ok_box hw rfl 74 _ rfl _ rfl ?_; clear hw; intro k1 w hw) | (refine ok_load hw rfl 74 _ rfl _ rfl _ agg_ints4 _ (Has.own (.head _)) (size_ints4 _) ?_))
  go_loopw [9, 5] (fun v u wr => ∃ i : Nat, i ≤ 4 ∧ v = .int .i64 i ∧ u = .int .i64 (2 - i) ∧ Hid (pickv b y = pickf b y (4 - i)) ∧ Ok Non w0 wr [(k1, ints4 b)] []) (fun v _ _ => 4 - (intOf v).toNat)
  case atStart => exact ⟨0, by omega, rfl, rfl, Lib.hid rfl, hw⟩
  case round =>
    clear hw
    obtain ⟨i, hi, rfl, rfl, hp, hw⟩ := hrel
    by_cases hlt : i < 4
    · have hst : pickf b y (4 - i) = if b i ≤ y then (2 : Int) - i else pickf b y (4 - (i + 1)) := by
        rw [show 4 - i = (3 - i) + 1 by omega, pickf, show 3 - (3 - i) = i by omega, show 4 - (i + 1) = 3 - i by omega]
        congr 1; omega
      by_cases hb : b i ≤ y
      · go_wp2_with (first | (refine a_index rfl _ _ _ _ rfl 4 Try.underlying74 one_int _ _ rfl i rfl hlt (ints4_get b hlt) ?_))
        go_ret
        exact ⟨by rw [Hr.out, hp.out, hst, if_pos hb]; rfl, hw.below⟩
      · rw [if_neg hb] at hst
        have hst2 := Lib.hid hst
        clear hst
        go_wp2_with (first | (refine a_index rfl _ _ _ _ rfl 4 Try.underlying74 one_int _ _ rfl i rfl hlt (ints4_get b hlt) ?_))
        exact ⟨⟨i + 1, by omega, by go_num, by go_num, Lib.hid (hp.out.trans hst2.out), hw⟩, by simp [intOf]; omega⟩
    · have h4 : i = 4 := by omega
      subst h4
      go_wp2
      go_ret
      exact ⟨by rw [Hr.out, hp.out]; rfl, hw.below⟩

/-- What a digit's square counts at a step. -/
def sqv (j n : Int) : Int := if j = 0 then 4 * n else if j = 1 then n else if j = 2 then n / 4 else 0
theorem tsquare_gives (j n : Int) (h0 : 0 ≤ n) (h1 : n < 1000) : Gives Try.prog 136 #[.int .i64 j, .int .i64 n] [] (.int .i64 (sqv j n)) := by
  refine .mk fun w0 w hw => ?_
  by_cases h : j = 0
  · subst h
    rw [show sqv 0 n = 4 * n from rfl]
    go_enter Try.func136, Try.ntmps136
    go_wp2
    go_ret
    exact ⟨by go_num, hw.below⟩
  · by_cases h' : j = 1
    · subst h'
      rw [show sqv 1 n = n from rfl]
      go_enter Try.func136, Try.ntmps136
      go_wp2
      go_ret
      exact ⟨by go_num, hw.below⟩
    · by_cases h2 : j = 2
      · subst h2
        rw [show sqv 2 n = n / 4 from rfl]
        go_enter Try.func136, Try.ntmps136
        go_wp2
        go_ret
        exact ⟨by go_num, hw.below⟩
      · rw [show sqv j n = 0 by unfold sqv; rw [if_neg h, if_neg h', if_neg h2]]
        go_enter Try.func136, Try.ntmps136
        go_wp2
        go_ret
        exact ⟨by go_num, hw.below⟩

/-- The bounds of a root's step. -/
def rb (j s : Int) (i : Nat) : Int := (2 * (2 - (i : Int)) - 1) * s + sqv j ((2 * (2 - (i : Int)) - 1) * (2 * (2 - (i : Int)) - 1))
theorem ints4_set (b : Nat → Int) {i : Nat} (h : i < 4) (v : Int) : (ints4 b).setIfInBounds i (.int .i64 v) = ints4 (fun m => if m = i then v else b m) := by
  have : i = 0 ∨ i = 1 ∨ i = 2 ∨ i = 3 := by omega
  rcases this with rfl | rfl | rfl | rfl <;> rfl
theorem ints4_ext {b c : Nat → Int} (h : ∀ i, i < 4 → b i = c i) : ints4 b = ints4 c := by
  unfold ints4; rw [h 0 (by omega), h 1 (by omega), h 2 (by omega), h 3 (by omega)]
theorem sqv_bd (j n : Int) (h0 : 0 ≤ n) : 0 ≤ sqv j n ∧ sqv j n ≤ 4 * n := by
  unfold sqv; split
  · omega
  · split
    · omega
    · split <;> omega

set_option maxRecDepth 10000 in
theorem rootbounds_gives (j s : Int) (hj : 0 ≤ j) (hs0 : 28 ≤ s) (hs1 : s ≤ 64) : Gives Try.prog 116 #[.int .i64 j, .int .i64 s] [] (.tuple #[.agg (ints4 (rb j s)), .bool true]) := by
  refine .mk fun w0 w hw => ?_
  go_enter Try.func116, Try.ntmps116
  go_wp2_with (first | (refine ok_alloc (H := []) hw rfl 74 rfl _ zero_ints4 ?_; clear hw; intro k1 w hw) | (refine ok_alloc (H := [_]) hw rfl 74 rfl _ zero_ints4 ?_; clear hw; intro k2 w hw))
  go_loopw [20] (fun v wr => ∃ i : Nat, i ≤ 4 ∧ v = .int .i64 i ∧ Ok Non w0 wr [(k2, ints4 fun m => if m < i then rb j s m else 0), (k1, ints4 fun _ => 0)] []) (fun v _ => 4 - (intOf v).toNat)
  case atStart => exact ⟨0, by omega, rfl, by simpa using hw⟩
  case round =>
    clear hw
    obtain ⟨i, hi, rfl, hw⟩ := hrel
    by_cases hlt : i < 4
    · have hst := ints4_set (fun m => if m < i then rb j s m else 0) hlt (rb j s i)
      have hst2 : ints4 (fun m => if m = i then rb j s i else (fun m => if m < i then rb j s m else 0) m) = ints4 (fun m => if m < i + 1 then rb j s m else 0) := ints4_ext fun m _ => by
        by_cases h : m = i
        · subst h; simp
        · by_cases h2 : m < i
          · simp [h, h2, show m < i + 1 by omega]
          · simp [h, h2, show ¬ m < i + 1 by omega]
      rw [hst2] at hst
      have hst' := Lib.hid hst
      clear hst hst2
      have hs1' := sqv_bd j 1 (by omega)
      have hs9' := sqv_bd j 9 (by omega)
      have q1 := tsquare_gives j 1 (by omega) (by omega)
      have q9 := tsquare_gives j 9 (by omega) (by omega)
      have : i = 0 ∨ i = 1 ∨ i = 2 ∨ i = 3 := by omega
      rcases this with rfl | rfl | rfl | rfl
      · have hv : rb j s 0 = 3 * s + sqv j 9 := by simp [rb]
        rw [hv] at hst'
        clear hv
        go_wp2_with (first | (go_at_call 136; refine q9.call0 hw ?_; clear hw; intro w hw) | (refine int_store hw rfl 3 _ _ rfl _ _ rfl _ _ rfl one_int _ (.head _) (by simp [size_ints4]) ?_; clear hw; intro w hw; have hw : Ok Non w0 w [(k2, ints4 fun m => if m < 1 then rb j s m else 0), (k1, ints4 fun _ => 0)] [] := (by rw [← hst'.out]; exact hw)))
        exact ⟨⟨1, by omega, by go_num, hw⟩, by simp [intOf]⟩
      · have hv : rb j s 1 = s + sqv j 1 := by simp [rb]
        rw [hv] at hst'
        clear hv
        go_wp2_with (first | (go_at_call 136; refine q1.call0 hw ?_; clear hw; intro w hw) | (refine int_store hw rfl 3 _ _ rfl _ _ rfl _ _ rfl one_int _ (.head _) (by simp [size_ints4]) ?_; clear hw; intro w hw; have hw : Ok Non w0 w [(k2, ints4 fun m => if m < 2 then rb j s m else 0), (k1, ints4 fun _ => 0)] [] := (by rw [← hst'.out]; exact hw)))
        exact ⟨⟨2, by omega, by go_num, hw⟩, by simp [intOf]⟩
      · have hv : rb j s 2 = -s + sqv j 1 := by simp [rb]
        rw [hv] at hst'
        clear hv
        go_wp2_with (first | (go_at_call 136; refine q1.call0 hw ?_; clear hw; intro w hw) | (refine int_store hw rfl 3 _ _ rfl _ _ rfl _ _ rfl one_int _ (.head _) (by simp [size_ints4]) ?_; clear hw; intro w hw; have hw : Ok Non w0 w [(k2, ints4 fun m => if m < 3 then rb j s m else 0), (k1, ints4 fun _ => 0)] [] := (by rw [← hst'.out]; exact hw)))
        exact ⟨⟨3, by omega, by go_num, hw⟩, by simp [intOf]⟩
      · have hv : rb j s 3 = -3 * s + sqv j 9 := by simp [rb]
        rw [hv] at hst'
        clear hv
        go_wp2_with (first | (go_at_call 136; refine q9.call0 hw ?_; clear hw; intro w hw) | (refine int_store hw rfl 3 _ _ rfl _ _ rfl _ _ rfl one_int _ (.head _) (by simp [size_ints4]) ?_; clear hw; intro w hw; have hw : Ok Non w0 w [(k2, ints4 fun m => if m < 4 then rb j s m else 0), (k1, ints4 fun _ => 0)] [] := (by rw [← hst'.out]; exact hw)))
        exact ⟨⟨4, by omega, by go_num, hw⟩, by simp [intOf]⟩
    · have h4 : i = 4 := by omega
      subst h4
      have he : (ints4 fun m => if m < 4 then rb j s m else 0) = ints4 (rb j s) := ints4_ext fun m hm => by rw [if_pos hm]
      rw [he] at hw
      clear he
      go_wp2_with (first | (refine ok_load hw rfl 74 _ rfl _ rfl _ agg_ints4 _ (by first | (apply Has.own; (repeat (first | assumption | exact List.mem_cons_self | apply List.mem_cons_of_mem)); done) | (apply Has.read; (repeat (first | assumption | exact List.mem_cons_self | apply List.mem_cons_of_mem)); done)) (by simp) ?_) | (refine ok_store hw rfl 74 _ _ rfl _ rfl _ rfl _ agg_ints4 _ (by repeat (first | exact At.head _ | apply At.tail)) (by simp) (by simp) (ones_ints4 _) ?_; clear hw; intro w hw))
      refine ret_ct rfl rfl rfl agg_ints4 (hw.rows _ (.tail _ (.head _))) (by simp [size_ints4]) rfl ⟨rfl, hw.below⟩

set_option maxRecDepth 10000 in
theorem rootdigit_gives (j s y : Int) (hj : 0 ≤ j) (hs0 : 28 ≤ s) (hs1 : s ≤ 64) : Gives Try.prog 77 #[.int .i64 j, .int .i64 s, .int .i64 y] [] (.tuple #[.int .i64 (pickv (rb j s) y), .bool true]) := by
  refine .mk fun w0 w hw => ?_
  have hb := rootbounds_gives j s hj hs0 hs1
  have hp := pick_gives (rb j s) y
  go_enter Try.func77, Try.ntmps77
  go_wp2_with (first | (refine ok_alloc (H := []) hw rfl 74 rfl _ zero_ints4 ?_; clear hw; intro k1 w hw) | (refine ok_load hw rfl 74 _ rfl _ rfl _ agg_ints4 _ (by first | (apply Has.own; (repeat (first | assumption | exact List.mem_cons_self | apply List.mem_cons_of_mem)); done) | (apply Has.read; (repeat (first | assumption | exact List.mem_cons_self | apply List.mem_cons_of_mem)); done)) (by simp) ?_) | (refine ok_store hw rfl 74 _ _ rfl _ rfl _ rfl _ agg_ints4 _ (by repeat (first | exact At.head _ | apply At.tail)) (by simp) (by simp) (ones_ints4 _) ?_; clear hw; intro w hw) | (go_at_call 116; refine hb.call0 hw ?_; clear hw; intro w hw) | (go_at_call 117; refine hp.call0 hw ?_; clear hw; intro w hw))
  go_ret2
  exact ⟨rfl, hw.below⟩
end Go.Proofs.Ytcodmeljjphoeaa
