/-
  Equality of numbers of 512 bits.
-/
import Derived.Test.YtcodmeljjphoeaaDoorTypes
namespace Go.Proofs.YtcodmeljjphoeaaDoor
open Go.RowKit
set_option linter.unusedVariables false
set_option linter.unusedSimpArgs false

section
variable {P : Program} {w : World}
theorem run_part_one {e : TypeId} (h : One P e) {xs : Array Value} {i : Nat} {v : Value} (hv : xs[i]? = some v) : (part e xs i).run P w = .ok v w := by
  obtain ⟨⟨d, hd1, hd2⟩, h3⟩ := h
  have hagg : (isAgg e).run P w = .ok false w := by
    unfold isAgg
    rw [Sem.run_bind, run_underlying hd1 w]
    cases d <;> simp_all
  simp [part, hagg, hv]

theorem run_eqs (e : TypeId) (he : P.underlying e = some (.int .u64)) (h1 : One P e) (xs ys : List Int) (d : Nat) :
    ∀ (l : List Nat), (∀ i ∈ l, i < xs.length ∧ i < ys.length) →
    (forIn (m := Sem) l (none, ()) (fun i r => do
        let __do_lift ← part e (xs.map (Value.int .u64)).toArray (i * 1)
        let __do_lift_1 ← part e (ys.map (Value.int .u64)).toArray (i * 1)
        let __do_lift ← Op.equalIn (d + 1) e __do_lift __do_lift_1
        if (!__do_lift) = true then pure (ForInStep.done (some false, ())) else pure (ForInStep.yield (none, ())))).run P w
      = .ok (if l.all (fun i => xs[i]? == ys[i]?) then none else some false, ()) w := by
  intro l
  induction l with
  | nil => intro _; simp
  | cons i l ih =>
    intro hl
    obtain ⟨h2, h3⟩ := hl i (by simp)
    have p1 : (part e (xs.map (Value.int .u64)).toArray (i * 1)).run P w = .ok (.int .u64 xs[i]) w := run_part_one h1 (by simp [h2])
    have p2 : (part e (ys.map (Value.int .u64)).toArray (i * 1)).run P w = .ok (.int .u64 ys[i]) w := run_part_one h1 (by simp [h3])
    rw [List.forIn_cons]
    simp only [Sem.run_bind, p1, p2, Result.andThen_ok, run_equalIn_int w d e .u64 .u64 _ _ he]
    by_cases hxy : xs[i] = ys[i]
    · rw [show (xs[i] == ys[i]) = true by simp [hxy]]
      simp only [Bool.not_true, Bool.false_eq_true, if_false, Sem.run_pure, Result.andThen_ok]
      rw [ih (fun j hj => hl j (by simp [hj]))]
      simp [h2, h3, hxy]
    · rw [show (xs[i] == ys[i]) = false by simp [hxy]]
      simp [h2, h3, hxy]

theorem run_eq_array (t e : TypeId) (n : Nat) (ht : P.underlying t = some (.array n e)) (he : P.underlying e = some (.int .u64)) (h1 : One P e) (xs ys : List Int) (hx : xs.length = n) (hy : ys.length = n) (d : Nat) :
    (Op.equalIn (d + 2) t (.agg (xs.map (Value.int .u64)).toArray) (.agg (ys.map (Value.int .u64)).toArray)).run P w = .ok (decide (xs = ys)) w := by
  have hs : (sizeOf e).run P w = .ok 1 w := by
    obtain ⟨_, h3⟩ := h1
    cases hq : P.info? e with
    | none => simp [hq] at h3
    | some ie => simp [hq] at h3; simp [sizeOf, typeInfo, hq, h3]
  have hl := run_eqs (w := w) e he h1 xs ys d (List.range' 0 n) (by intro i hi; have := List.mem_range'_1.1 hi; omega)
  unfold Op.equalIn
  simp only [Sem.run_bind, run_underlying ht, Result.andThen_ok, hs]
  rw [Std.Legacy.Range.forIn_eq_forIn_range']
  simp only [Std.Legacy.Range.size, Nat.sub_zero, Nat.add_sub_cancel, Nat.div_one]
  rw [hl]
  have key : ((List.range' 0 n).all fun i => xs[i]? == ys[i]?) = decide (xs = ys) := by
    rw [Bool.eq_iff_iff]
    simp only [List.all_eq_true, beq_iff_eq, decide_eq_true_eq]
    constructor
    · intro h
      apply List.ext_getElem?
      intro i
      by_cases hi : i < n
      · exact h i (by simp [List.mem_range'_1]; omega)
      · rw [List.getElem?_eq_none (by omega), List.getElem?_eq_none (by omega)]
    · intro h i _; rw [h]
  rw [key]
  by_cases h : xs = ys <;> simp [h]
end

set_option maxRecDepth 100000 in
theorem run_eqW (x y : Int) (w : World) : (Op.equalIn 10000 24 (W x) (W y)).run Tryd.prog w = .ok (decide (x % M = y % M)) w := by
  have h := run_eq_array (P := Tryd.prog) (w := w) 24 22 8 Tryd.underlying24 Tryd.underlying22 one_u64 ((List.range 8).map (lim x)) ((List.range 8).map (lim y)) (by simp) (by simp) 9998
  have e : ∀ z, W z = .agg ((((List.range 8).map (lim z)).map (Value.int .u64)).toArray) := fun z => by rw [List.map_map]; rfl
  rw [e, e, h]
  have inj : ∀ a b : List Int, a.map (Value.int .u64) = b.map (Value.int .u64) → a = b := fun a b hab =>
    (List.map_inj_right (f := Value.int .u64) (fun p q hpq => by injection hpq)).1 hab
  congr 1
  rw [decide_eq_decide, ← W_iff, e, e]
  exact ⟨fun h => by rw [h], fun h => by injection h with h; exact inj _ _ (by simpa using h)⟩

section
variable {ops : Array Oper} {Q : Exit → Act → World → Prop} {rest : List Oper} {o : Oper} {a : Act} {S : Nat → Prop} {w0 w : World} {H R : List (Nat × Array Value)} {ρ : Operand → Value}
theorem run_eqlW {x y : Operand} {t' : TypeId} {m n : Int} (ho : o.op = .binOp .eql 24 x y t') (hx : ρ x = W m) (hy : ρ y = W n) : (execOp ρ o).run Tryd.prog w = .ok (.value (.bool (decide (m % M = n % M)))) w := by
  have hg : (eqGuard .eql 24 x y (W m) (W n)).run Tryd.prog w = .ok () w := run_eqGuard_agg w .eql _ x y _ _ (by kernel_rfl)
  have hb : (binOp .eql 24 (W m) (W n)).run Tryd.prog w = .ok (.bool (decide (m % M = n % M))) w := by
    have := run_eql_struct (P := Tryd.prog) w 24 (limbs 8 m) (limbs 8 n)
    have h2 := run_eqW m n w
    unfold W at h2
    rw [h2] at this
    exact this
  simp only [execOp, ho, hx, hy, Sem.run_bind, hg, hb, Result.andThen_ok, Sem.run_pure]
theorem run_neqW {x y : Operand} {t' : TypeId} {m n : Int} (ho : o.op = .binOp .neq 24 x y t') (hx : ρ x = W m) (hy : ρ y = W n) : (execOp ρ o).run Tryd.prog w = .ok (.value (.bool (!decide (m % M = n % M)))) w := by
  have hg : (eqGuard .neq 24 x y (W m) (W n)).run Tryd.prog w = .ok () w := run_eqGuard_agg w .neq _ x y _ _ (by kernel_rfl)
  have hb : (binOp .neq 24 (W m) (W n)).run Tryd.prog w = .ok (.bool (!decide (m % M = n % M))) w := by
    have := run_neq_struct (P := Tryd.prog) w 24 (limbs 8 m) (limbs 8 n)
    have h2 := run_eqW m n w
    unfold W at h2
    rw [h2] at this
    exact this
  simp only [execOp, ho, hx, hy, Sem.run_bind, hg, hb, Result.andThen_ok, Sem.run_pure]
theorem w_eql (hgd : o.guard = none) (x y : Operand) (t' : TypeId) (ho : o.op = .binOp .eql 24 x y t') (m n : Int) (hx : a.eval x = W m) (hy : a.eval y = W n)
    (hk : wpList Tryd.prog ops Q rest (a.put o.dst (.bool (decide (m % M = n % M)))) w) : wpList Tryd.prog ops Q (o :: rest) a w :=
  wpL_value hgd (run_eqlW ho hx hy) hk
theorem w_neq (hgd : o.guard = none) (x y : Operand) (t' : TypeId) (ho : o.op = .binOp .neq 24 x y t') (m n : Int) (hx : a.eval x = W m) (hy : a.eval y = W n)
    (hk : wpList Tryd.prog ops Q rest (a.put o.dst (.bool (!decide (m % M = n % M)))) w) : wpList Tryd.prog ops Q (o :: rest) a w :=
  wpL_value hgd (run_neqW ho hx hy) hk
end
end Go.Proofs.YtcodmeljjphoeaaDoor
