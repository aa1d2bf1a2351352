/-
  The laws of the operations on memory, in the words of 'Ok'.
-/
import Derived.Test.YtcodmeljjphoeaaDoorBase
namespace Go.Proofs.YtcodmeljjphoeaaDoor
open Go.RowKit

/-- Row k is among those that are known. -/
def Has (H R : List (Nat × Array Value)) (k : Nat) (cs : Array Value) : Prop := (k, cs) ∈ H ∨ (k, cs) ∈ R
theorem Has.own {H R : List (Nat × Array Value)} {k : Nat} {cs : Array Value} (h : (k, cs) ∈ H) : Has H R k cs := .inl h
theorem Has.read {H R : List (Nat × Array Value)} {k : Nat} {cs : Array Value} (h : (k, cs) ∈ R) : Has H R k cs := .inr h
theorem Ok.has {S : Nat → Prop} {w0 w : World} {H R : List (Nat × Array Value)} (h : Ok S w0 w H R) {k : Nat} {cs : Array Value} (hm : Has H R k cs) : Blk w k cs := by
  rcases hm with hm | hm
  · exact h.rows _ hm
  · exact h.reads _ hm

/-- Is a type an array or a struct of n cells? -/
def Agg (P : Program) (t : TypeId) (n : Nat) : Prop := (∃ d, P.underlying t = some d ∧ d.isRow = true) ∧ (P.info? t).map (·.size) = some n
/-- Is it a type of one cell? -/
def One (P : Program) (t : TypeId) : Prop := (∃ d, P.underlying t = some d ∧ d.isRow = false) ∧ (P.info? t).map (·.size) = some 1
/-- A type's zero, in cells. -/
def Zero (P : Program) (t : TypeId) (cs : Array Value) : Prop := ∃ z, (P.info? t).bind (·.zero) = some z ∧ z.cells = cs

theorem Agg.mk {P : Program} {t n : Nat} (d : TypeDesc) (h : P.underlying t = some d) (hd : d.isRow = true) (hs : (P.info? t).map (·.size) = some n) : Agg P t n := ⟨⟨d, h, hd⟩, hs⟩
theorem One.mk {P : Program} {t : Nat} (d : TypeDesc) (h : P.underlying t = some d) (hd : d.isRow = false) (hs : (P.info? t).map (·.size) = some 1) : One P t := ⟨⟨d, h, hd⟩, hs⟩

/-- All cells are one cell each. -/
def Ones (cs : Array Value) : Prop := cs.all (·.oneCell') = true

section
variable {P : Program} {ops : Array Oper} {Q : Exit → Act → World → Prop} {rest : List Oper} {o : Oper} {a : Act} {S : Nat → Prop} {w0 w : World} {H R : List (Nat × Array Value)} {ρ : Operand → Value}

theorem wpL_value (hgd : o.guard = none) {v : Value} {w' : World} (hr : (execOp a.eval o).run P w = .ok (.value v) w') (h : wpList P ops Q rest (a.put o.dst v) w') : wpList P ops Q (o :: rest) a w :=
  wpList_plain hgd fun K hK => by unfold Oper.wp; rw [hr]; exact hK _ _ h
theorem wpL_skip (hgd : o.guard = none) {w' : World} (hr : (execOp a.eval o).run P w = .ok .skip w') (h : wpList P ops Q rest (a.put o.dst undef) w') : wpList P ops Q (o :: rest) a w :=
  wpList_plain hgd fun K hK => by unfold Oper.wp; rw [hr]; exact hK _ _ h

theorem run_zero {t : TypeId} {z : Value} (hz : (P.info? t).bind (·.zero) = some z) (w : World) : (zeroValue t).run P w = .ok z w := by
  cases hq : P.info? t with
  | none => simp [hq] at hz
  | some i =>
    simp only [hq, Option.bind_some] at hz
    simp [zeroValue, typeInfo, hq, hz]

theorem run_newRow (w : World) (t : TypeId) (c : Array Value) : (newRow t c).run P w = .ok ⟨w.heap.size, 0, none⟩ (w.alloc (.cells c t)) := by
  simp [newRow]

theorem run_alloc {t : TypeId} (ho : o.op = .alloc t) {cs : Array Value} (hz : Zero P t cs) (w : World) : (execOp ρ o).run P w = .ok (.value (.pointer (some ⟨w.heap.size, 0, none⟩))) (w.alloc (.cells cs t)) := by
  obtain ⟨z, hz, rfl⟩ := hz
  simp only [execOp, ho, Instr.alloc, Sem.run_bind, run_zero hz, Result.andThen_ok, newVar, run_newRow, Sem.run_pure]

theorem run_box {t : TypeId} {x : Operand} (ho : o.op = .box t x) (w : World) : (execOp ρ o).run P w = .ok (.value (.pointer (some ⟨w.heap.size, 0, none⟩))) (w.alloc (.cells (ρ x).cells t)) := by
  simp only [execOp, ho, Instr.box, Sem.run_bind, Result.andThen_ok, newVar, run_newRow, Sem.run_pure]

theorem rangeAt_of_blk {k off n : Nat} {cs : Array Value} (h : Blk w k cs) : w.rangeAt k off (cs.extract off (off + n)).toList := by
  intro j v hv
  rw [h.cell]
  rw [← Array.getElem?_toList]
  simp only [Array.toList_extract, List.extract_eq_take_drop] at hv
  rw [List.getElem?_take] at hv
  split at hv
  · rw [List.getElem?_drop] at hv; simpa using hv
  · cases hv

theorem run_load_part {t : TypeId} {x : Operand} (ho : o.op = .load t x) {k off n : Nat} {cs : Array Value} (h : Blk w k cs) (hx : ρ x = .pointer (some ⟨k, off, none⟩)) (hg : Agg P t n) (hn : off + n ≤ cs.size) :
    (execOp ρ o).run P w = .ok (.value (.agg (cs.extract off (off + n)))) w := by
  obtain ⟨⟨d, h1, h2⟩, h3⟩ := hg
  have hl : (cs.extract off (off + n)).toList.length = n := by simp; omega
  have := run_loadAt_mid (P := P) w k off t (cs.extract off (off + n)).toList d (rangeAt_of_blk h) h1 (by cases d <;> simp_all [TypeDesc.isRow]) (by rw [hl]; exact h3)
  simp only [execOp, ho, hx, Sem.run_bind, this, Result.andThen_ok, Sem.run_pure, Array.toArray_toList]

theorem run_load_cell {t : TypeId} {x : Operand} (ho : o.op = .load t x) {k off : Nat} {cs : Array Value} (h : Blk w k cs) (hx : ρ x = .pointer (some ⟨k, off, none⟩)) (hg : One P t) {v : Value} (hv : cs[off]? = some v) :
    (execOp ρ o).run P w = .ok (.value v) w := by
  obtain ⟨⟨d, h1, h2⟩, h3⟩ := hg
  have hagg : (isAgg t).run P w = .ok false w := by
    unfold isAgg
    rw [Sem.run_bind, run_underlying h1 w]
    cases d <;> simp_all
  have hc : w.cell? ⟨k, off, none⟩ = some v := by rw [h.cell]; exact hv
  simp only [execOp, ho, hx, Sem.run_bind, Instr.loadAt, Instr.sureAddr, Sem.run_pure, Result.andThen_ok, loadVar, hagg, Bool.false_eq_true, if_false, run_load, hc]

theorem extract_all (cs : Array Value) (n : Nat) (h : cs.size = n) : cs.extract 0 (0 + n) = cs := by
  subst h; simp

theorem extract_fst (A B : Array Value) (n : Nat) (h : A.size = n) : (A ++ B).extract 0 (0 + n) = A := by
  subst h; simp [Array.extract_append]

theorem extract_snd (A B : Array Value) (m n : Nat) (h : A.size = m) (h' : B.size = n) : (A ++ B).extract m (m + n) = B := by
  subst h; subst h'; simp [Array.extract_append]

/-! What a store makes of a row. -/
def put (cs : Array Value) (off : Nat) (ds : Array Value) : Array Value := (cs.toList.take off ++ ds.toList ++ cs.toList.drop (off + ds.size)).toArray

theorem put_all (cs ds : Array Value) (h : cs.size = ds.size) : put cs 0 ds = ds := by
  apply Array.toList_inj.1
  simp [put, ← h]
theorem put_fst (A B ds : Array Value) (h : A.size = ds.size) : put (A ++ B) 0 ds = ds ++ B := by
  apply Array.toList_inj.1
  simp [put, ← h]
theorem put_snd (A B ds : Array Value) (n : Nat) (hn : A.size = n) (h : B.size = ds.size) : put (A ++ B) n ds = A ++ ds := by
  apply Array.toList_inj.1
  subst hn
  simp [put, ← h]
theorem size_put (cs ds : Array Value) (off : Nat) (h : off + ds.size ≤ cs.size) : (put cs off ds).size = cs.size := by
  simp [put]; omega

theorem run_store_part {t : TypeId} {x y : Operand} (ho : o.op = .store t x y) {k off n : Nat} {cs ds : Array Value} (h : Blk w k cs) (hx : ρ x = .pointer (some ⟨k, off, none⟩)) (hy : ρ y = .agg ds) (hg : Agg P t n) (hd : ds.size = n) (hn : off + n ≤ cs.size) (h1 : Ones ds) :
    ∃ w', (execOp ρ o).run P w = .ok .skip w' ∧ Turns k (put cs off ds) w w' := by
  obtain ⟨⟨d, hg1, hg2⟩, hg3⟩ := hg
  obtain ⟨ty, hb⟩ := h
  subst hd
  have hst := run_storeCells_at P k off ty ds.toList 0 cs w hb (by simpa using hn) (fun v hv => (Array.all_eq_true_iff_forall_mem.1 h1) v (by simpa using hv))
  simp only [Nat.add_zero, Array.length_toList] at hst
  refine ⟨_, ?_, turns_setRow ⟨ty, hb⟩ _⟩
  cases hq : P.info? t with
  | none => simp [hq] at hg3
  | some i =>
    have hs : ds.size = i.size := by simp [hq] at hg3; omega
    simp [execOp, ho, hx, hy, Instr.storeAt, Instr.sureAddr, storeVar, sizeOf, typeInfo, hq, Value.cells, hs]
    rw [hst]
    simp [put]

theorem run_store_cell {t : TypeId} {x y : Operand} (ho : o.op = .store t x y) {k off : Nat} {cs : Array Value} {v : Value} (h : Blk w k cs) (hx : ρ x = .pointer (some ⟨k, off, none⟩)) (hy : ρ y = v) (hg : One P t) (hn : off < cs.size) (h1 : v.oneCell' = true) :
    ∃ w', (execOp ρ o).run P w = .ok .skip w' ∧ Turns k (cs.setIfInBounds off v) w w' := by
  obtain ⟨⟨d, hg1, hg2⟩, hg3⟩ := hg
  refine ⟨_, ?_, turns_setCell h off v⟩
  have hc := h.cell off
  rw [Array.getElem?_eq_getElem hn] at hc
  have hv : v.cells = #[v] := by cases v <;> simp_all [Value.oneCell', Value.cells]
  cases hq : P.info? t with
  | none => simp [hq] at hg3
  | some i =>
    have hs : i.size = 1 := by simp [hq] at hg3; omega
    simp [execOp, ho, hx, hy, Instr.storeAt, Instr.sureAddr, storeVar, sizeOf, typeInfo, hq, hv, hs, storeCells, run_store, h1, Addr.add, hc, h.frozen]

/-! As the walk meets them. -/
theorem ok_alloc (h : Ok S w0 w H R) (hgd : o.guard = none) (t : TypeId) (ho : o.op = .alloc t) (cs : Array Value) (hz : Zero P t cs)
    (hk : ∀ k w', Ok S w0 w' ((k, cs) :: H) R → wpList P ops Q rest (a.put o.dst (.pointer (some ⟨k, 0, none⟩))) w') : wpList P ops Q (o :: rest) a w :=
  wpL_value hgd (run_alloc ho hz w) (hk _ _ (h.new _ _))

theorem ok_box (h : Ok S w0 w H R) (hgd : o.guard = none) (t : TypeId) (x : Operand) (ho : o.op = .box t x) (cs : Array Value) (hx : a.eval x = .agg cs)
    (hk : ∀ k w', Ok S w0 w' ((k, cs) :: H) R → wpList P ops Q rest (a.put o.dst (.pointer (some ⟨k, 0, none⟩))) w') : wpList P ops Q (o :: rest) a w :=
  wpL_value hgd (run_box ho w) (hk _ _ (by rw [hx]; exact h.new _ _))
theorem ok_box_one (h : Ok S w0 w H R) (hgd : o.guard = none) (t : TypeId) (x : Operand) (ho : o.op = .box t x) (v : Value) (hx : a.eval x = v) (h1 : v.oneCell' = true)
    (hk : ∀ k w', Ok S w0 w' ((k, #[v]) :: H) R → wpList P ops Q rest (a.put o.dst (.pointer (some ⟨k, 0, none⟩))) w') : wpList P ops Q (o :: rest) a w :=
  wpL_value hgd (run_box ho w) (hk _ _ (by rw [hx]; have hv : v.cells = #[v] := by cases v <;> simp_all [Value.oneCell', Value.cells]
                                           rw [hv]; exact h.new _ _))

theorem ok_load (h : Ok S w0 w H R) (hgd : o.guard = none) (t : TypeId) (x : Operand) (ho : o.op = .load t x) (k : Nat) (hx : a.eval x = .pointer (some ⟨k, 0, none⟩)) (n : Nat) (hg : Agg P t n) (cs : Array Value) (hm : Has H R k cs) (hn : cs.size = n)
    (hk : wpList P ops Q rest (a.put o.dst (.agg cs)) w) : wpList P ops Q (o :: rest) a w :=
  wpL_value hgd (run_load_part ho (h.has hm) hx hg (by omega)) (by rw [extract_all cs n hn]; exact hk)

theorem ok_load_fst (h : Ok S w0 w H R) (hgd : o.guard = none) (t : TypeId) (x : Operand) (ho : o.op = .load t x) (k : Nat) (hx : a.eval x = .pointer (some ⟨k, 0, none⟩)) (n : Nat) (hg : Agg P t n) (A B : Array Value) (hm : Has H R k (A ++ B)) (hn : A.size = n)
    (hk : wpList P ops Q rest (a.put o.dst (.agg A)) w) : wpList P ops Q (o :: rest) a w :=
  wpL_value hgd (run_load_part ho (h.has hm) hx hg (by simp; omega)) (by rw [extract_fst A B n hn]; exact hk)

theorem ok_load_snd (h : Ok S w0 w H R) (hgd : o.guard = none) (t : TypeId) (x : Operand) (ho : o.op = .load t x) (k m : Nat) (hx : a.eval x = .pointer (some ⟨k, m, none⟩)) (n : Nat) (hg : Agg P t n) (A B : Array Value) (hm : Has H R k (A ++ B)) (hm' : A.size = m) (hn : B.size = n)
    (hk : wpList P ops Q rest (a.put o.dst (.agg B)) w) : wpList P ops Q (o :: rest) a w :=
  wpL_value hgd (run_load_part ho (h.has hm) hx hg (by simp; omega)) (by rw [extract_snd A B m n hm' hn]; exact hk)

theorem ok_load_cell (h : Ok S w0 w H R) (hgd : o.guard = none) (t : TypeId) (x : Operand) (ho : o.op = .load t x) (k off : Nat) (hx : a.eval x = .pointer (some ⟨k, off, none⟩)) (hg : One P t) (cs : Array Value) (hm : Has H R k cs) (v : Value) (hv : cs[off]? = some v)
    (hk : wpList P ops Q rest (a.put o.dst v) w) : wpList P ops Q (o :: rest) a w :=
  wpL_value hgd (run_load_cell ho (h.has hm) hx hg hv) hk

theorem ok_load_one (h : Ok S w0 w H R) (hgd : o.guard = none) (t : TypeId) (x : Operand) (ho : o.op = .load t x) (k : Nat) (hx : a.eval x = .pointer (some ⟨k, 0, none⟩)) (hg : One P t) (v : Value) (hm : Has H R k #[v])
    (hk : wpList P ops Q rest (a.put o.dst v) w) : wpList P ops Q (o :: rest) a w :=
  wpL_value hgd (run_load_cell ho (h.has hm) hx hg rfl) hk

theorem ok_store (h : Ok S w0 w H R) (hgd : o.guard = none) (t : TypeId) (x y : Operand) (ho : o.op = .store t x y) (k : Nat) (hx : a.eval x = .pointer (some ⟨k, 0, none⟩)) (ds : Array Value) (hy : a.eval y = .agg ds) (n : Nat) (hg : Agg P t n) (cs : Array Value) {H' : List (Nat × Array Value)} (hm : At k cs ds H H') (hn : cs.size = n) (hd : ds.size = n) (h1 : Ones ds)
    (hk : ∀ w', Ok S w0 w' H' R → wpList P ops Q rest (a.put o.dst undef) w') : wpList P ops Q (o :: rest) a w := by
  obtain ⟨w', hr, ht⟩ := run_store_part (P := P) ho (h.rows _ hm.mem) hx hy hg hd (by simp only; omega) h1
  rw [put_all cs ds (by omega)] at ht
  exact wpL_skip hgd hr (hk _ (h.turnAt hm ht))

theorem ok_store_fst (h : Ok S w0 w H R) (hgd : o.guard = none) (t : TypeId) (x y : Operand) (ho : o.op = .store t x y) (k : Nat) (hx : a.eval x = .pointer (some ⟨k, 0, none⟩)) (ds : Array Value) (hy : a.eval y = .agg ds) (n : Nat) (hg : Agg P t n) (A B : Array Value) {H' : List (Nat × Array Value)} (hm : At k (A ++ B) (ds ++ B) H H') (hn : A.size = n) (hd : ds.size = n) (h1 : Ones ds)
    (hk : ∀ w', Ok S w0 w' H' R → wpList P ops Q rest (a.put o.dst undef) w') : wpList P ops Q (o :: rest) a w := by
  obtain ⟨w', hr, ht⟩ := run_store_part (P := P) ho (h.rows _ hm.mem) hx hy hg hd (by simp; omega) h1
  rw [put_fst A B ds (by omega)] at ht
  exact wpL_skip hgd hr (hk _ (h.turnAt hm ht))

theorem ok_store_one (h : Ok S w0 w H R) (hgd : o.guard = none) (t : TypeId) (x y : Operand) (ho : o.op = .store t x y) (k : Nat) (hx : a.eval x = .pointer (some ⟨k, 0, none⟩)) (v : Value) (hy : a.eval y = v) (hg : One P t) (u : Value) {H' : List (Nat × Array Value)} (hm : At k #[u] #[v] H H') (h1 : v.oneCell' = true)
    (hk : ∀ w', Ok S w0 w' H' R → wpList P ops Q rest (a.put o.dst undef) w') : wpList P ops Q (o :: rest) a w := by
  obtain ⟨w', hr, ht⟩ := run_store_cell (P := P) ho (h.rows _ hm.mem) hx hy hg (by simp) h1
  exact wpL_skip hgd hr (hk _ (h.turnAt hm ht))

theorem ok_store_cell (h : Ok S w0 w H R) (hgd : o.guard = none) (t : TypeId) (x y : Operand) (ho : o.op = .store t x y) (k off : Nat) (hx : a.eval x = .pointer (some ⟨k, off, none⟩)) (v : Value) (hy : a.eval y = v) (hg : One P t) (cs : Array Value) {H' : List (Nat × Array Value)} (hm : At k cs (cs.setIfInBounds off v) H H') (hn : off < cs.size) (h1 : v.oneCell' = true)
    (hk : ∀ w', Ok S w0 w' H' R → wpList P ops Q rest (a.put o.dst undef) w') : wpList P ops Q (o :: rest) a w := by
  obtain ⟨w', hr, ht⟩ := run_store_cell (P := P) ho (h.rows _ hm.mem) hx hy hg hn h1
  exact wpL_skip hgd hr (hk _ (h.turnAt hm ht))

/-! The same at whole numbers (so that what is stored reads bare). -/
theorem int_store (h : Ok S w0 w H R) (hgd : o.guard = none) (t : TypeId) (x y : Operand) (ho : o.op = .store t x y) (k off : Nat) (hx : a.eval x = .pointer (some ⟨k, off, none⟩)) (kd : IntKind) (n : Int) (hy : a.eval y = .int kd n) (hg : One P t) (cs : Array Value) {H' : List (Nat × Array Value)} (hm : At k cs (cs.setIfInBounds off (.int kd n)) H H') (hn : off < cs.size)
    (hk : ∀ w', Ok S w0 w' H' R → wpList P ops Q rest (a.put o.dst undef) w') : wpList P ops Q (o :: rest) a w :=
  ok_store_cell h hgd t x y ho k off hx _ hy hg cs hm hn rfl hk
theorem int_store1 (h : Ok S w0 w H R) (hgd : o.guard = none) (t : TypeId) (x y : Operand) (ho : o.op = .store t x y) (k : Nat) (hx : a.eval x = .pointer (some ⟨k, 0, none⟩)) (kd : IntKind) (n : Int) (hy : a.eval y = .int kd n) (hg : One P t) (u : Value) {H' : List (Nat × Array Value)} (hm : At k #[u] #[.int kd n] H H')
    (hk : ∀ w', Ok S w0 w' H' R → wpList P ops Q rest (a.put o.dst undef) w') : wpList P ops Q (o :: rest) a w :=
  ok_store_one h hgd t x y ho k hx _ hy hg u hm rfl hk
theorem int_box (h : Ok S w0 w H R) (hgd : o.guard = none) (t : TypeId) (x : Operand) (ho : o.op = .box t x) (kd : IntKind) (n : Int) (hx : a.eval x = .int kd n)
    (hk : ∀ k w', Ok S w0 w' ((k, #[.int kd n]) :: H) R → wpList P ops Q rest (a.put o.dst (.pointer (some ⟨k, 0, none⟩))) w') : wpList P ops Q (o :: rest) a w :=
  ok_box_one h hgd t x ho _ hx rfl hk

/-! Results that lie in a row. -/
theorem load_row {t n k : Nat} {cs : Array Value} (h : Blk w k cs) (hg : Agg P t n) (hn : cs.size = n) : (loadVar t ⟨k, 0, none⟩).run P w = .ok (.agg cs) w := by
  have := run_load_part (P := P) (ρ := fun _ => .pointer (some ⟨k, 0, none⟩)) (o := { dst := none, op := .load t (.tmp 0), type := 0, pos := "", after := #[], guard := none }) rfl h rfl hg (by omega)
  rw [extract_all cs n hn] at this
  simp only [execOp, Instr.loadAt, Instr.sureAddr, Sem.run_bind, Sem.run_pure, Result.andThen_ok] at this
  cases hl : (loadVar t ⟨k, 0, none⟩).run P w with
  | ok v w' => rw [hl] at this; simp only [Result.andThen_ok, Result.ok.injEq, Next.value.injEq] at this; rw [this.1, this.2]
  | halt x w' => rw [hl] at this; simp [Result.andThen] at this
end
/-! ### Contracts: a call that returns one value, whatever the world, and turns nothing that was there. R: rows that it reads. -/
def Gives (P : Program) (f : FuncId) (args : Array Value) (R : List (Nat × Array Value)) (v : Value) : Prop :=
  ∀ w, (∀ p ∈ R, Blk w p.1 p.2) → Calls P f args w fun e w' => e = .returned v ∧ Below w.heap.size w w'

theorem Gives.mk {P : Program} {f : FuncId} {args : Array Value} {R : List (Nat × Array Value)} {v : Value}
    (h : ∀ w0 w, Ok Non w0 w [] R → Calls P f args w fun e w' => e = .returned v ∧ Below w0.heap.size w0 w') : Gives P f args R v :=
  fun w hR => h w w (Ok.read hR)

theorem Gives.call {P : Program} {f : FuncId} {args : Array Value} {R' : List (Nat × Array Value)} {v : Value} (g : Gives P f args R' v)
    {S : Nat → Prop} {w0 w : World} {H R : List (Nat × Array Value)} (hw : Ok S w0 w H R) (hR : ∀ p ∈ R', Has H R p.1 p.2) {K : Ending → World → Prop}
    (h : ∀ w', Ok S w0 w' H R → K (.returned v) w') : Calls P f args w K :=
  (g w (fun p hp => hw.has (hR p hp))).mono fun e w' ⟨he, hb⟩ => by rw [he]; exact h w' (hw.grow hb)

theorem Gives.call0 {P : Program} {f : FuncId} {args : Array Value} {v : Value} (g : Gives P f args [] v)
    {S : Nat → Prop} {w0 w : World} {H R : List (Nat × Array Value)} (hw : Ok S w0 w H R) {K : Ending → World → Prop}
    (h : ∀ w', Ok S w0 w' H R → K (.returned v) w') : Calls P f args w K :=
  g.call hw (by simp) h

/-- A call by its contract, as the walk meets it in a list. -/
theorem ok_call {P : Program} {ops : Array Oper} {Q : Exit → Act → World → Prop} {rest : List Oper} {o : Oper} {a : Act} {S : Nat → Prop} {w0 w : World} {H R R' : List (Nat × Array Value)} {f : FuncId} {args : Array Value} {v : Value}
    (h : Ok S w0 w H R) (hgd : o.guard = none) (hr : (execOp a.eval o).run P w = .ok (.enter f args) w) (g : Gives P f args R' v) (hR : ∀ p ∈ R', Has H R p.1 p.2)
    (hk : ∀ w', Ok S w0 w' H R → wpList P ops Q rest (a.put o.dst v) w') : wpList P ops Q (o :: rest) a w := by
  refine wpList_plain hgd fun K hK => ?_
  unfold Oper.wp
  rw [hr]
  exact g.call h hR fun w' hw' => hK _ _ (hk w' hw')

/-! Returns of results that lie in rows ('c') or in slots ('t'). -/
section
variable {P : Program} {fn : Func} {R : Ending → World → Prop} {a : Act} {w : World}
theorem ret_c {p : Tmp} {ty : TypeId} {k n : Nat} {cs : Array Value} (h : fn.results = #[.cell p ty]) (hp : a.tmps.getD p undef = .pointer (some ⟨k, 0, none⟩)) (hg : Agg P ty n) (hb : Blk w k cs) (hn : cs.size = n) (hd : a.defers = [])
    (hR : R (.returned (.agg cs)) w) : bodyPost P fn R .ret a w := by
  refine ⟨hd, .agg cs, ?_, hR⟩
  have hp' : a.tmps[p]?.getD undef = .pointer (some ⟨k, 0, none⟩) := by simpa using hp
  simp [results, h, hp', asAddr, load_row (P := P) hb hg hn]
theorem ret_ct {p q : Tmp} {ty : TypeId} {k n : Nat} {cs : Array Value} {v : Value} (h : fn.results = #[.cell p ty, .tmp q]) (hp : a.tmps.getD p undef = .pointer (some ⟨k, 0, none⟩)) (hq : a.tmps.getD q undef = v) (hg : Agg P ty n) (hb : Blk w k cs) (hn : cs.size = n) (hd : a.defers = [])
    (hR : R (.returned (.tuple #[.agg cs, v])) w) : bodyPost P fn R .ret a w := by
  refine ⟨hd, .tuple #[.agg cs, v], ?_, hR⟩
  have hp' : a.tmps[p]?.getD undef = .pointer (some ⟨k, 0, none⟩) := by simpa using hp
  have hq' : a.tmps[q]?.getD undef = v := by simpa using hq
  simp [results, h, hp', hq', asAddr, load_row (P := P) hb hg hn]
theorem ret_ctt {p q r : Tmp} {ty : TypeId} {k n : Nat} {cs : Array Value} {v u : Value} (h : fn.results = #[.cell p ty, .tmp q, .tmp r]) (hp : a.tmps.getD p undef = .pointer (some ⟨k, 0, none⟩)) (hq : a.tmps.getD q undef = v) (hr : a.tmps.getD r undef = u) (hg : Agg P ty n) (hb : Blk w k cs) (hn : cs.size = n) (hd : a.defers = [])
    (hR : R (.returned (.tuple #[.agg cs, v, u])) w) : bodyPost P fn R .ret a w := by
  refine ⟨hd, .tuple #[.agg cs, v, u], ?_, hR⟩
  have hp' : a.tmps[p]?.getD undef = .pointer (some ⟨k, 0, none⟩) := by simpa using hp
  have hq' : a.tmps[q]?.getD undef = v := by simpa using hq
  have hr' : a.tmps[r]?.getD undef = u := by simpa using hr
  simp [results, h, hp', hq', hr', asAddr, load_row (P := P) hb hg hn]
theorem ret_cct {p p' q : Tmp} {ty ty' : TypeId} {k k' n n' : Nat} {cs ds : Array Value} {v : Value} (h : fn.results = #[.cell p ty, .cell p' ty', .tmp q]) (hp : a.tmps.getD p undef = .pointer (some ⟨k, 0, none⟩)) (hp2 : a.tmps.getD p' undef = .pointer (some ⟨k', 0, none⟩)) (hq : a.tmps.getD q undef = v)
    (hg : Agg P ty n) (hg' : Agg P ty' n') (hb : Blk w k cs) (hb' : Blk w k' ds) (hn : cs.size = n) (hn' : ds.size = n') (hd : a.defers = []) (hR : R (.returned (.tuple #[.agg cs, .agg ds, v])) w) : bodyPost P fn R .ret a w := by
  refine ⟨hd, .tuple #[.agg cs, .agg ds, v], ?_, hR⟩
  have e1 : a.tmps[p]?.getD undef = .pointer (some ⟨k, 0, none⟩) := by simpa using hp
  have e2 : a.tmps[p']?.getD undef = .pointer (some ⟨k', 0, none⟩) := by simpa using hp2
  have e3 : a.tmps[q]?.getD undef = v := by simpa using hq
  simp [results, h, e1, e2, e3, asAddr, load_row (P := P) hb hg hn, load_row (P := P) hb' hg' hn']
theorem ret_cctt {p p' q r : Tmp} {ty ty' : TypeId} {k k' n n' : Nat} {cs ds : Array Value} {v u : Value} (h : fn.results = #[.cell p ty, .cell p' ty', .tmp q, .tmp r]) (hp : a.tmps.getD p undef = .pointer (some ⟨k, 0, none⟩)) (hp2 : a.tmps.getD p' undef = .pointer (some ⟨k', 0, none⟩)) (hq : a.tmps.getD q undef = v) (hr : a.tmps.getD r undef = u)
    (hg : Agg P ty n) (hg' : Agg P ty' n') (hb : Blk w k cs) (hb' : Blk w k' ds) (hn : cs.size = n) (hn' : ds.size = n') (hd : a.defers = []) (hR : R (.returned (.tuple #[.agg cs, .agg ds, v, u])) w) : bodyPost P fn R .ret a w := by
  refine ⟨hd, .tuple #[.agg cs, .agg ds, v, u], ?_, hR⟩
  have e1 : a.tmps[p]?.getD undef = .pointer (some ⟨k, 0, none⟩) := by simpa using hp
  have e2 : a.tmps[p']?.getD undef = .pointer (some ⟨k', 0, none⟩) := by simpa using hp2
  have e3 : a.tmps[q]?.getD undef = v := by simpa using hq
  have e4 : a.tmps[r]?.getD undef = u := by simpa using hr
  simp [results, h, e1, e2, e3, e4, asAddr, load_row (P := P) hb hg hn, load_row (P := P) hb' hg' hn']
end

end Go.Proofs.YtcodmeljjphoeaaDoor
