/-
  Single operations, run: for regions that draw their order (each looked at once).
-/
import Derived.Test.YtcodmeljjphoeaaDoorDraw
import Derived.Test.YtcodmeljjphoeaaDoorLimb
namespace Go.Proofs.YtcodmeljjphoeaaDoor
open Go.RowKit
set_option linter.unusedVariables false
set_option linter.unusedSimpArgs false

/-- A function with a Go body. -/
def HasBody (P : Program) (f : FuncId) : Prop := ∃ fn, P.funcs[f]? = some fn ∧ (fn.name == "runtime.NumGoroutine") = false ∧ fn.body.isNone = false

theorem wrap_i64 {n : Int} (h : -9223372036854775808 ≤ n ∧ n ≤ 9223372036854775807) : IntKind.i64.wrap n = n := by
  exact IntWalk.i64_in _ h
theorem wrap_u64 (n : Int) : IntKind.u64.wrap n = n % 18446744073709551616 := by
  simp [IntKind.wrap, IntKind.bits, IntKind.signed]
theorem wrap_u32 (n : Int) : IntKind.u32.wrap n = n % 4294967296 := by
  simp [IntKind.wrap, IntKind.bits, IntKind.signed]

section
variable {P : Program} {o : Oper} {a : Act} {ρ : Operand → Value} {w : World}

theorem run_move {x : Operand} {v : Value} (ho : o.op = .move x) (hx : ρ x = v) : (execOp ρ o).run P w = .ok (.value v) w := by
  simp only [execOp, ho, hx, Sem.run_pure]
theorem run_assign {x : Operand} {v : Value} (ho : o.op = .assign x) (hx : ρ x = v) : (execOp ρ o).run P w = .ok (.value v) w := by
  simp only [execOp, ho, hx, Sem.run_pure]
theorem run_extract {x : Operand} {i : Nat} {vs : Array Value} {v : Value} (ho : o.op = .extract x i) (hx : ρ x = .tuple vs) (hv : vs[i]? = some v) : (execOp ρ o).run P w = .ok (.value v) w := by
  simp only [execOp, ho, hx, Instr.extract, hv, Sem.run_pure, Sem.run_bind, Result.andThen_ok]
theorem run_nilCheck {x : Operand} {p : Addr} (ho : o.op = .nilCheck x) (hx : ρ x = .pointer (some p)) : (execOp ρ o).run P w = .ok (.value (.pointer (some p))) w := by
  simp only [execOp, ho, hx, Sem.run_pure]
theorem run_makeFunc0 {fn : Fn} {cs : Array Operand} {vs : Array Value} (ho : o.op = .makeFunc fn #[] cs) (hc : cs.map ρ = vs) : (execOp ρ o).run P w = .ok (.value (.func fn #[] vs)) w := by
  simp only [execOp, ho, hc]; simp [Instr.makeFunc]
theorem run_pick {c x y : Operand} {b : Bool} {v : Value} (ho : o.op = .pick c x y) (hc : ρ c = .bool b) (hv : (if b then ρ x else ρ y) = v) : (execOp ρ o).run P w = .ok (.value v) w := by
  simp only [execOp, ho, hc, asBool, Sem.run_bind, Sem.run_pure, Result.andThen_ok, hv]
theorem run_not {t : TypeId} {x : Operand} {b : Bool} (ho : o.op = .unOp .not t x) (hx : ρ x = .bool b) : (execOp ρ o).run P w = .ok (.value (.bool !b)) w := by
  simp only [execOp, ho, hx]; rfl

theorem run_arith {k k' : IntKind} {t t' : TypeId} {x y : Operand} {m n : Int} {op : BinOp} {v : Value} (ho : o.op = .binOp op t x y t') (hx : ρ x = .int k m) (hy : ρ y = .int k' n) (hv : (binOp op t (.int k m) (.int k' n)).run P w = .ok v w) : (execOp ρ o).run P w = .ok (.value v) w := by
  have : (eqGuard op t x y (.int k m) (.int k' n)).run P w = .ok () w := by
    unfold eqGuard
    split <;> simp
  simp only [execOp, ho, hx, hy, Sem.run_bind, this, Sem.run_pure, Result.andThen_ok, hv]
theorem run_add_i {t t' : TypeId} {x y : Operand} {m n : Int} (ho : o.op = .binOp .add t x y t') (hx : ρ x = .int .i64 m) (hy : ρ y = .int .i64 n) (h : -9223372036854775808 ≤ m + n ∧ m + n ≤ 9223372036854775807) : (execOp ρ o).run P w = .ok (.value (.int .i64 (m + n))) w :=
  run_arith ho hx hy (by simp [binOp, Op.intArith, wrap_i64 h])
theorem run_sub_i {t t' : TypeId} {x y : Operand} {m n : Int} (ho : o.op = .binOp .sub t x y t') (hx : ρ x = .int .i64 m) (hy : ρ y = .int .i64 n) (h : -9223372036854775808 ≤ m - n ∧ m - n ≤ 9223372036854775807) : (execOp ρ o).run P w = .ok (.value (.int .i64 (m - n))) w :=
  run_arith ho hx hy (by simp [binOp, Op.intArith, wrap_i64 h])
theorem run_mul_i {t t' : TypeId} {x y : Operand} {m n : Int} (ho : o.op = .binOp .mul t x y t') (hx : ρ x = .int .i64 m) (hy : ρ y = .int .i64 n) (h : -9223372036854775808 ≤ m * n ∧ m * n ≤ 9223372036854775807) : (execOp ρ o).run P w = .ok (.value (.int .i64 (m * n))) w :=
  run_arith ho hx hy (by simp [binOp, Op.intArith, wrap_i64 h])
theorem run_quo_i {t t' : TypeId} {x y : Operand} {m n : Int} (ho : o.op = .binOp .quo t x y t') (hx : ρ x = .int .i64 m) (hy : ρ y = .int .i64 n) (hm : 0 ≤ m ∧ m ≤ 9223372036854775807) (hn : 0 < n) : (execOp ρ o).run P w = .ok (.value (.int .i64 (m / n))) w := by
  refine run_arith ho hx hy ?_
  have h1 : n ≠ 0 := by omega
  have h2 : m.tdiv n = m / n := Int.tdiv_eq_ediv_of_nonneg hm.1
  have h3 : 0 ≤ m / n := Int.ediv_nonneg hm.1 (by omega)
  have h4 : m / n ≤ m := Int.ediv_le_self n hm.1
  simp [binOp, Op.intDiv, h1, h2, wrap_i64 (n := m / n) ⟨by omega, by omega⟩]
theorem run_rem_i {t t' : TypeId} {x y : Operand} {m n : Int} (ho : o.op = .binOp .rem t x y t') (hx : ρ x = .int .i64 m) (hy : ρ y = .int .i64 n) (hm : 0 ≤ m) (hn : 0 < n) : (execOp ρ o).run P w = .ok (.value (.int .i64 (m % n))) w := by
  refine run_arith ho hx hy ?_
  have h1 : n ≠ 0 := by omega
  have h2 : m.tmod n = m % n := Int.tmod_eq_emod_of_nonneg hm
  simp [binOp, Op.intDiv, h1, h2]
theorem run_add_u {t t' : TypeId} {x y : Operand} {m n : Int} (ho : o.op = .binOp .add t x y t') (hx : ρ x = .int .u64 m) (hy : ρ y = .int .u64 n) : (execOp ρ o).run P w = .ok (.value (.int .u64 ((m + n) % 18446744073709551616))) w :=
  run_arith ho hx hy (by simp [binOp, Op.intArith, wrap_u64])
theorem run_sub_u {t t' : TypeId} {x y : Operand} {m n : Int} (ho : o.op = .binOp .sub t x y t') (hx : ρ x = .int .u64 m) (hy : ρ y = .int .u64 n) : (execOp ρ o).run P w = .ok (.value (.int .u64 ((m - n) % 18446744073709551616))) w :=
  run_arith ho hx hy (by simp [binOp, Op.intArith, wrap_u64])
theorem run_mul_u {t t' : TypeId} {x y : Operand} {m n : Int} (ho : o.op = .binOp .mul t x y t') (hx : ρ x = .int .u64 m) (hy : ρ y = .int .u64 n) : (execOp ρ o).run P w = .ok (.value (.int .u64 ((m * n) % 18446744073709551616))) w :=
  run_arith ho hx hy (by simp [binOp, Op.intArith, wrap_u64])
theorem run_lss {k : IntKind} {t t' : TypeId} {x y : Operand} {m n : Int} (ho : o.op = .binOp .lss t x y t') (hx : ρ x = .int k m) (hy : ρ y = .int k n) : (execOp ρ o).run P w = .ok (.value (.bool (decide (m < n)))) w :=
  run_arith ho hx hy (by simp [binOp, Op.intCmp])
theorem run_leq {k : IntKind} {t t' : TypeId} {x y : Operand} {m n : Int} (ho : o.op = .binOp .leq t x y t') (hx : ρ x = .int k m) (hy : ρ y = .int k n) : (execOp ρ o).run P w = .ok (.value (.bool (decide (m ≤ n)))) w :=
  run_arith ho hx hy (by simp [binOp, Op.intCmp])
theorem run_gtr {k : IntKind} {t t' : TypeId} {x y : Operand} {m n : Int} (ho : o.op = .binOp .gtr t x y t') (hx : ρ x = .int k m) (hy : ρ y = .int k n) : (execOp ρ o).run P w = .ok (.value (.bool (decide (n < m)))) w :=
  run_arith ho hx hy (by simp [binOp, Op.intCmp])
theorem run_geq {k : IntKind} {t t' : TypeId} {x y : Operand} {m n : Int} (ho : o.op = .binOp .geq t x y t') (hx : ρ x = .int k m) (hy : ρ y = .int k n) : (execOp ρ o).run P w = .ok (.value (.bool (decide (n ≤ m)))) w :=
  run_arith ho hx hy (by simp [binOp, Op.intCmp])
theorem run_eql_i {k : IntKind} {t t' : TypeId} {x y : Operand} {m n : Int} (ho : o.op = .binOp .eql t x y t') (hx : ρ x = .int k m) (hy : ρ y = .int k n) : (execOp ρ o).run P w = .ok (.value (.bool (m == n))) w :=
  run_arith ho hx hy (by simp [binOp, Op.intCmp])
theorem run_neq_i {k : IntKind} {t t' : TypeId} {x y : Operand} {m n : Int} (ho : o.op = .binOp .neq t x y t') (hx : ρ x = .int k m) (hy : ρ y = .int k n) : (execOp ρ o).run P w = .ok (.value (.bool (m != n))) w :=
  run_arith ho hx hy (by simp [binOp, Op.intCmp])

/-! Shifts and bits of 64. -/
def shl64 (m n : Int) : Int := m * 2 ^ (min n.toNat 64) % 18446744073709551616
def shr64 (m n : Int) : Int := m / 2 ^ (min n.toNat 64)
def or64 (m n : Int) : Int := ((m.toNat ||| n.toNat : Nat) : Int)
theorem run_shl_u {k' : IntKind} {t t' : TypeId} {x y : Operand} {m n : Int} (ho : o.op = .binOp .shl t x y t') (hx : ρ x = .int .u64 m) (hy : ρ y = .int k' n) (hn : 0 ≤ n) : (execOp ρ o).run P w = .ok (.value (.int .u64 (shl64 m n))) w := by
  refine run_arith ho hx hy ?_
  have : ¬ n < 0 := by omega
  simp [binOp, Op.shift, this, wrap_u64, shl64, IntKind.bits]
theorem run_shr_u {k' : IntKind} {t t' : TypeId} {x y : Operand} {m n : Int} (ho : o.op = .binOp .shr t x y t') (hx : ρ x = .int .u64 m) (hy : ρ y = .int k' n) (hn : 0 ≤ n) : (execOp ρ o).run P w = .ok (.value (.int .u64 (shr64 m n))) w := by
  refine run_arith ho hx hy ?_
  have : ¬ n < 0 := by omega
  have h2 : m.fdiv (2 ^ min n.toNat 64) = m / 2 ^ min n.toNat 64 := Int.fdiv_eq_ediv_of_nonneg _ (by have := pow_pos2 (min n.toNat 64); omega)
  simp [binOp, Op.shift, this, shr64, IntKind.bits, h2]
theorem run_or_u {t t' : TypeId} {x y : Operand} {m n : Int} (ho : o.op = .binOp .or t x y t') (hx : ρ x = .int .u64 m) (hy : ρ y = .int .u64 n) (hm : 0 ≤ m ∧ m < 18446744073709551616) (hn : 0 ≤ n ∧ n < 18446744073709551616) : (execOp ρ o).run P w = .ok (.value (.int .u64 (or64 m n))) w := by
  refine run_arith ho hx hy ?_
  have e1 : m = (m.toNat : Int) := by omega
  have e2 : n = (n.toNat : Int) := by omega
  have h1 : m.toNat < 2 ^ 64 := by omega
  have h2 : n.toNat < 2 ^ 64 := by omega
  have h3 : (BitVec.ofInt 64 m ||| BitVec.ofInt 64 n).toNat = m.toNat ||| n.toNat := by
    generalize m.toNat = p at *
    generalize n.toNat = q at *
    subst e1 e2
    rw [BitVec.ofInt_natCast, BitVec.ofInt_natCast, BitVec.toNat_or, BitVec.toNat_ofNat, BitVec.toNat_ofNat, Nat.mod_eq_of_lt h1, Nat.mod_eq_of_lt h2]
  have h4 : m.toNat ||| n.toNat < 2 ^ 64 := Nat.or_lt_two_pow h1 h2
  have h5 : ((BitVec.ofInt IntKind.u64.bits m ||| BitVec.ofInt IntKind.u64.bits n).toNat : Int) % 18446744073709551616 = or64 m n := by
    show ((BitVec.ofInt 64 m ||| BitVec.ofInt 64 n).toNat : Int) % 18446744073709551616 = or64 m n
    rw [h3]; unfold or64; omega
  simp only [binOp, Op.intBits, wrap_u64, ne_eq, not_true_eq_false, if_false, Sem.run_pure, h5]

theorem shl64_bd (m n : Int) : 0 ≤ shl64 m n ∧ shl64 m n < 18446744073709551616 := ⟨Int.emod_nonneg _ (by omega), Int.emod_lt_of_pos _ (by omega)⟩
theorem shr64_bd {m : Int} (n : Int) (h : 0 ≤ m ∧ m < 18446744073709551616) : 0 ≤ shr64 m n ∧ shr64 m n < 18446744073709551616 := by
  unfold shr64
  have hp := pow_pos2 (min n.toNat 64)
  have h1 : 0 ≤ m / 2 ^ min n.toNat 64 := Int.ediv_nonneg h.1 (by omega)
  have h2 : m / 2 ^ min n.toNat 64 ≤ m := Int.ediv_le_self _ h.1
  exact ⟨h1, by omega⟩

/-! Calls. -/
theorem run_enter {f : FuncId} (hf : HasBody P f) (args : Array Value) (w : World) : (callFunc f args).run P w = .ok (.enter f args) w := by
  obtain ⟨fn, h1, h2, h3⟩ := hf
  simp only [callFunc, Sem.run_bind, run_program, Result.andThen_ok, h1, h2, h3, Bool.false_eq_true, if_false, Sem.run_pure]
theorem run_callv {f : FuncId} {x : Operand} {xs : Array Operand} {ts : Array TypeId} {caps vs : Array Value} (ho : o.op = .call ⟨.value x, xs, ts⟩) (hf : HasBody P f) (hx : ρ x = .func (.func f) #[] caps) (hv : xs.map ρ = vs) :
    (execOp ρ o).run P w = .ok (.enter f (vs ++ caps)) w := by
  simp [execOp, ho, resolve, hv, hx, Deferred.ofValue, invoke, run_enter hf]
theorem run_call1 {f : FuncId} {x1 : Operand} {ts : Array TypeId} {v1 : Value} (ho : o.op = .call ⟨.value (.func f), #[x1], ts⟩) (hf : HasBody P f) (h1 : a.eval x1 = v1) : (execOp a.eval o).run P w = .ok (.enter f #[v1]) w :=
  run_callv (caps := #[]) ho hf rfl (by simp [h1])
theorem run_call2 {f : FuncId} {x1 x2 : Operand} {ts : Array TypeId} {v1 v2 : Value} (ho : o.op = .call ⟨.value (.func f), #[x1, x2], ts⟩) (hf : HasBody P f) (h1 : a.eval x1 = v1) (h2 : a.eval x2 = v2) : (execOp a.eval o).run P w = .ok (.enter f #[v1, v2]) w :=
  run_callv (caps := #[]) ho hf rfl (by simp [h1, h2])
theorem run_call3 {f : FuncId} {x1 x2 x3 : Operand} {ts : Array TypeId} {v1 v2 v3 : Value} (ho : o.op = .call ⟨.value (.func f), #[x1, x2, x3], ts⟩) (hf : HasBody P f) (h1 : a.eval x1 = v1) (h2 : a.eval x2 = v2) (h3 : a.eval x3 = v3) : (execOp a.eval o).run P w = .ok (.enter f #[v1, v2, v3]) w :=
  run_callv (caps := #[]) ho hf rfl (by simp [h1, h2, h3])
theorem run_call4 {f : FuncId} {x1 x2 x3 x4 : Operand} {ts : Array TypeId} {v1 v2 v3 v4 : Value} (ho : o.op = .call ⟨.value (.func f), #[x1, x2, x3, x4], ts⟩) (hf : HasBody P f) (h1 : a.eval x1 = v1) (h2 : a.eval x2 = v2) (h3 : a.eval x3 = v3) (h4 : a.eval x4 = v4) : (execOp a.eval o).run P w = .ok (.enter f #[v1, v2, v3, v4]) w :=
  run_callv (caps := #[]) ho hf rfl (by simp [h1, h2, h3, h4])
theorem run_callc1 {f : FuncId} {x x1 : Operand} {ts : Array TypeId} {caps : Array Value} {v1 : Value} (ho : o.op = .call ⟨.value x, #[x1], ts⟩) (hf : HasBody P f) (hx : a.eval x = .func (.func f) #[] caps) (h1 : a.eval x1 = v1) : (execOp a.eval o).run P w = .ok (.enter f (#[v1] ++ caps)) w :=
  run_callv ho hf hx (by simp [h1])
theorem run_callc3 {f : FuncId} {x x1 x2 x3 : Operand} {ts : Array TypeId} {caps : Array Value} {v1 v2 v3 : Value} (ho : o.op = .call ⟨.value x, #[x1, x2, x3], ts⟩) (hf : HasBody P f) (hx : a.eval x = .func (.func f) #[] caps) (h1 : a.eval x1 = v1) (h2 : a.eval x2 = v2) (h3 : a.eval x3 = v3) : (execOp a.eval o).run P w = .ok (.enter f (#[v1, v2, v3] ++ caps)) w :=
  run_callv ho hf hx (by simp [h1, h2, h3])

/-! Addresses. -/
theorem run_indexAddr {t : TypeId} {x y : Operand} {n : Nat} {e : TypeId} {k : Nat} {i : Int} (ho : o.op = .indexAddr t x y) (hu : P.underlying t = some (.array n e)) (he : (P.info? e).map (·.size) = some 1)
    (hx : ρ x = .pointer (some ⟨k, 0, none⟩)) (hy : ρ y = .int .i64 i) (h0 : 0 ≤ i) (h : i < n) : (execOp ρ o).run P w = .ok (.value (.pointer (some ⟨k, i.toNat, none⟩))) w := by
  cases hq : P.info? e with
  | none => simp [hq] at he
  | some ie =>
    have hs : ie.size = 1 := by simpa [hq] using he
    have hadd : (⟨k, 0, none⟩ : Addr).add i.toNat = ⟨k, i.toNat, none⟩ := by unfold Addr.add; split <;> simp_all
    simp [execOp, ho, hx, hy, Instr.indexAt, asIntOf, run_underlying hu, Instr.sureAddr, h0, h, sizeOf, typeInfo, hq, hs, hadd]
theorem run_indexAddr_slice {t : TypeId} {x y : Operand} {e : TypeId} {k off len cap : Nat} {i : Int} (ho : o.op = .indexAddr t x y) (hu : P.underlying t = some (.slice e)) (he : (P.info? e).map (·.size) = some 1)
    (hx : ρ x = .slice (some ⟨k, off, none⟩) len cap) (hy : ρ y = .int .i64 i) (h0 : 0 ≤ i) (h : i < len) : (execOp ρ o).run P w = .ok (.value (.pointer (some ⟨k, off + i.toNat, none⟩))) w := by
  cases hq : P.info? e with
  | none => simp [hq] at he
  | some ie =>
    have hs : ie.size = 1 := by simpa [hq] using he
    have hadd : (⟨k, off, none⟩ : Addr).add i.toNat = ⟨k, off + i.toNat, none⟩ := by unfold Addr.add; split <;> simp_all
    simp [execOp, ho, hx, hy, Instr.indexAt, asIntOf, run_underlying hu, h0, h, sizeOf, typeInfo, hq, hs, hadd]
end

/-! The rows that late loads look at; the walk of what is left of a region with late loads. -/
def DRows (L : List (Nat × Array Value)) (w : World) : Prop := ∀ p ∈ L, Blk w p.1 p.2
theorem dRows {S : Nat → Prop} {w0 w : World} {H R L : List (Nat × Array Value)} (hw : Ok S w0 w H R) (h : ∀ p ∈ L, Has H R p.1 p.2) : DRows L w := fun p hp => hw.has (h p hp)
theorem dHas {L : List (Nat × Array Value)} {w : World} (h : DRows L w) {k : Nat} {cs : Array Value} (hm : (k, cs) ∈ L) : Blk w k cs := h _ hm
section
variable {P : Program} {ops : Array Oper} {Q : Exit → Act → World → Prop} {D : World → Prop} {rest : List Oper} {o : Oper} {a : Act} {S : Nat → Prop} {w0 w : World} {H R : List (Nat × Array Value)}
theorem wpD_plain (hgd : o.guard = none) (h : o.wp P a w (fun a' w' => D w' ∧ wpListD P ops Q D rest a' w') Q) : wpListD P ops Q D (o :: rest) a w := by
  unfold wpListD
  rw [if_pos (by unfold Region.wanted; rw [hgd])]
  exact .inl h
theorem wD_value (hgd : o.guard = none) {v : Value} {w' : World} (hr : (execOp a.eval o).run P w = .ok (.value v) w') (hd : D w') (h : wpListD P ops Q D rest (a.put o.dst v) w') : wpListD P ops Q D (o :: rest) a w :=
  wpD_plain hgd (by unfold Oper.wp; rw [hr]; exact ⟨hd, h⟩)
theorem wD_skip (hgd : o.guard = none) {w' : World} (hr : (execOp a.eval o).run P w = .ok .skip w') (hd : D w') (h : wpListD P ops Q D rest (a.put o.dst undef) w') : wpListD P ops Q D (o :: rest) a w :=
  wpD_plain hgd (by unfold Oper.wp; rw [hr]; exact ⟨hd, h⟩)
theorem wD_end (h : wpList P ops Q [] a w) : wpListD P ops Q D [] a w := h
theorem wD_assign (h : Ok S w0 w H R) (hgd : o.guard = none) (x : Operand) (ho : o.op = .assign x) (hd : D w) (hk : wpListD P ops Q D rest (a.put o.dst (a.eval x)) w) : wpListD P ops Q D (o :: rest) a w :=
  wD_value hgd (run_assign ho rfl) hd hk
theorem wD_store (h : Ok S w0 w H R) (hgd : o.guard = none) (t : TypeId) (x y : Operand) (ho : o.op = .store t x y) (k : Nat) (hx : a.eval x = .pointer (some ⟨k, 0, none⟩)) (z : Int) (hy : a.eval y = W z) (hg : Agg P t 8) (v : Int) {H' : List (Nat × Array Value)} (hm : At k (limbs 8 v) (limbs 8 z) H H')
    (hd : ∀ w', Ok S w0 w' H' R → D w') (hk : ∀ w', Ok S w0 w' H' R → wpListD P ops Q D rest (a.put o.dst undef) w') : wpListD P ops Q D (o :: rest) a w := by
  obtain ⟨w', hr, ht⟩ := run_store_part (P := P) ho (h.rows _ hm.mem) hx hy hg (by simp) (by simp) (ones_limbs _ _)
  rw [put_all _ _ (by simp)] at ht
  have hw' := h.turnAt hm ht
  exact wD_skip hgd hr (hd _ hw') (hk _ hw')
end
end Go.Proofs.YtcodmeljjphoeaaDoor
