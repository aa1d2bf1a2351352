/-
  Layer 16: the root so far.
-/
import Derived.Test.YtcodmeljjphoeaaRootD
namespace Go.Proofs.Ytcodmeljjphoeaa
open Go.RowKit
set_option linter.unusedVariables false
set_option linter.unusedSimpArgs false

theorem body_far1 : HasBody Try.prog 50 := ⟨_, Try.func50, by kernel_rfl, by kernel_rfl⟩
def FKeep (N : Int) (ko km : Nat) (most : Int) (j : Nat) (T : List (Nat × Array Value)) : Prop := T = [(ko, limbs 8 (rp N j)), (km, #[.int .i64 most])]

set_option maxRecDepth 10000 in
theorem far1_go (N : Int) (ko km : Nat) (most : Int) (j : Nat) (h : (j : Int) < most) : StepC 50 #[.pointer (some ⟨km, 0, none⟩), .pointer (some ⟨ko, 0, none⟩)] #[.int .i64 j, .int .i64 (rd N j), .agg (two (rp N (j + 1)) (N - rp N (j + 1) * rp N (j + 1)))] (FKeep N ko km most j) (FKeep N ko km most (j + 1)) true := by
  intro S w0 w T H R hI hw
  unfold FKeep at hI
  subst hI
  generalize rd N j = d
  generalize N - rp N (j + 1) * rp N (j + 1) = l'
  unfold FKeep
  generalize rp N (j + 1) = p'
  generalize rp N j = p at *
  show Calls _ _ #[.int .i64 j, .int .i64 d, .agg (two p' l'), .pointer (some ⟨km, 0, none⟩), .pointer (some ⟨ko, 0, none⟩)] _ _
  simp only [List.cons_append, List.nil_append] at hw
  go_enter Try.func50, Try.ntmps50
  go_wp2_with (first | (refine ok_box (H := ((_ :: _ :: H))) hw rfl 65 _ rfl _ rfl ?_; clear hw; intro k1 w hw) | (refine ok_load_one hw rfl 3 _ rfl _ rfl one_int _ (by first | (apply Has.own; (repeat (first | assumption | exact List.mem_cons_self | apply List.mem_cons_of_mem)); done) | (apply Has.read; (repeat (first | assumption | exact List.mem_cons_self | apply List.mem_cons_of_mem)); done)) ?_) | (refine two_load_fst hw rfl 24 _ rfl _ rfl agg_wide _ _ (by first | (apply Has.own; (repeat (first | assumption | exact List.mem_cons_self | apply List.mem_cons_of_mem)); done) | (apply Has.read; (repeat (first | assumption | exact List.mem_cons_self | apply List.mem_cons_of_mem)); done)) ?_) | (refine w_store hw rfl 24 _ _ rfl _ rfl _ rfl agg_wide _ (by repeat (first | exact At.head _ | apply At.tail)) ?_; clear hw; intro w hw))
  go_ret
  exact ⟨rfl, _, rfl, hw.sub (List.Sublist.cons _ (List.Sublist.refl _)) (fun q h => h)⟩
set_option maxRecDepth 10000 in
theorem far1_no (N : Int) (ko km : Nat) (most : Int) (j : Nat) (h : most ≤ (j : Int)) (f : Value) (p' l' : Int) : StepC 50 #[.pointer (some ⟨km, 0, none⟩), .pointer (some ⟨ko, 0, none⟩)] #[.int .i64 j, .int .i64 (rd N j), .agg (two p' l')] (FKeep N ko km most j) (FKeep N ko km most j) false := by
  intro S w0 w T H R hI hw
  unfold FKeep at hI
  subst hI
  generalize rd N j = d
  unfold FKeep
  generalize rp N j = p at *
  show Calls _ _ #[.int .i64 j, .int .i64 d, .agg (two p' l'), .pointer (some ⟨km, 0, none⟩), .pointer (some ⟨ko, 0, none⟩)] _ _
  simp only [List.cons_append, List.nil_append] at hw
  go_enter Try.func50, Try.ntmps50
  go_wp2_with (first | (refine ok_box (H := ((_ :: _ :: H))) hw rfl 65 _ rfl _ rfl ?_; clear hw; intro k1 w hw) | (refine ok_load_one hw rfl 3 _ rfl _ rfl one_int _ (by first | (apply Has.own; (repeat (first | assumption | exact List.mem_cons_self | apply List.mem_cons_of_mem)); done) | (apply Has.read; (repeat (first | assumption | exact List.mem_cons_self | apply List.mem_cons_of_mem)); done)) ?_) | (refine two_load_fst hw rfl 24 _ rfl _ rfl agg_wide _ _ (by first | (apply Has.own; (repeat (first | assumption | exact List.mem_cons_self | apply List.mem_cons_of_mem)); done) | (apply Has.read; (repeat (first | assumption | exact List.mem_cons_self | apply List.mem_cons_of_mem)); done)) ?_) | (refine w_store hw rfl 24 _ _ rfl _ rfl _ rfl agg_wide _ (by repeat (first | exact At.head _ | apply At.tail)) ?_; clear hw; intro w hw))
  go_ret
  exact ⟨rfl, _, rfl, hw.sub (List.Sublist.cons _ (List.Sublist.refl _)) (fun q h => h)⟩

/-- A pair's field of a struct value. -/
def Fst (P : Program) (t : TypeId) : Prop := ∃ fs f, P.underlying t = some (.struct fs) ∧ fs[0]? = some f ∧ f.offset = 0 ∧ Agg P f.type 8
theorem ok_field_fst {P : Program} {ops : Array Oper} {Q : Exit → Act → World → Prop} {rest : List Oper} {o : Oper} {a : Act} {w : World} (hgd : o.guard = none) (t : TypeId) (x : Operand) (ho : o.op = .field t x 0) (ht : Fst P t) (y z : Int) (hx : a.eval x = .agg (two y z))
    (hk : wpList P ops Q rest (a.put o.dst (W y)) w) : wpList P ops Q (o :: rest) a w := by
  obtain ⟨fs, f, h1, h2, h3, ⟨d, hd1, hd2⟩, h4⟩ := ht
  have hagg : (isAgg f.type).run P w = .ok true w := by
    unfold isAgg
    rw [Sem.run_bind, run_underlying hd1 w]
    cases d <;> simp_all [TypeDesc.isRow]
  have hs : (sizeOf f.type).run P w = .ok 8 w := by
    cases hq : P.info? f.type with
    | none => simp [hq] at h4
    | some i => simp [hq] at h4; simp [sizeOf, typeInfo, hq, h4]
  refine wpL_value hgd (v := W y) (w' := w) ?_ hk
  simp only [execOp, ho, hx, Sem.run_bind, Instr.field, run_underlying h1, Result.andThen_ok, h2, asAgg, Sem.run_pure, part, hagg, if_true, hs, h3]
  rw [show (two y z).extract 0 (0 + 8) = limbs 8 y from extract_fst _ _ 8 (by simp)]
  rfl
theorem fst_far : Fst Try.prog 65 := ⟨_, _, Try.underlying65, rfl, rfl, agg_wide⟩

set_option maxRecDepth 100000 in
set_option maxHeartbeats 4000000 in
theorem far_some (n : Int) (most : Nat) (hm : most ≤ 64) (h0 : 0 < n) (h1 : n < 2 ^ 256) : Gives Try.prog 15 #[W n, .int .i64 most] [] (.tuple #[W (rp (nup n) most), .int .i64 0]) := by
  have hM : n < M := Int.lt_trans h1 (pow_in (by omega))
  obtain ⟨hN0, hN1⟩ := nup_bds h0 h1
  have hno := norm_gives n h0 h1
  have hcond : ¬ n % M = 0 := by rw [Int.emod_eq_of_lt (by omega) hM]; omega
  have hbeg := begin_gives (nup n)
  rw [show (2 : Int) ^ 128 = rp (nup n) 0 from rfl] at hbeg
  have hst := fun ko km (S : Nat → Prop) w0 w H R => run_calls (nup n) hN0 hN1 50 body_far1 #[.pointer (some ⟨km, 0, none⟩), .pointer (some ⟨ko, 0, none⟩)] (FKeep (nup n) ko km most) most hm (fun j hj => far1_go (nup n) ko km most j (by omega)) (fun h => far1_no (nup n) ko km most most (by omega) (.bool true) _ _) S w0 w [(ko, limbs 8 (rp (nup n) 0)), (km, #[.int .i64 most])] H R rfl
  have Hst := Lib.hid hst
  clear hst hN0 hN1
  generalize nby n = by1 at *
  generalize nup n = N at *
  generalize hp0 : rp N 0 = p0 at *
  clear hp0
  refine .mk fun w0 w hw => ?_
  go_enter Try.func15, Try.ntmps15
  go_wp2_with (first | (refine w_box (H := []) hw rfl 24 _ rfl _ rfl ?_; clear hw; intro k1 w hw) | (refine int_box (H := []) hw rfl 3 _ rfl _ _ rfl ?_; clear hw; intro k1 w hw) | (refine int_box (H := [_]) hw rfl 3 _ rfl _ _ rfl ?_; clear hw; intro k2 w hw) | (refine ok_alloc (H := []) hw rfl 24 rfl _ zero_wide ?_; clear hw; intro k1 w hw) | (refine ok_alloc (H := [_]) hw rfl 24 rfl _ zero_wide ?_; clear hw; intro k2 w hw) | (refine ok_alloc (H := [_, _]) hw rfl 24 rfl _ zero_wide ?_; clear hw; intro k3 w hw) | (refine ok_alloc (H := []) hw rfl 24 rfl _ zero_wide ?_; clear hw; intro k1 w hw) | (refine ok_alloc (H := [_]) hw rfl 24 rfl _ zero_wide ?_; clear hw; intro k2 w hw) | (refine ok_alloc (H := [_, _]) hw rfl 24 rfl _ zero_wide ?_; clear hw; intro k3 w hw) | (refine ok_alloc (H := [_, _, _]) hw rfl 24 rfl _ zero_wide ?_; clear hw; intro k4 w hw) | (refine ok_alloc (H := []) hw rfl 24 rfl _ zero_wide ?_; clear hw; intro k1 w hw) | (refine ok_alloc (H := [_]) hw rfl 24 rfl _ zero_wide ?_; clear hw; intro k2 w hw) | (refine ok_alloc (H := [_, _]) hw rfl 24 rfl _ zero_wide ?_; clear hw; intro k3 w hw) | (refine ok_alloc (H := [_, _, _]) hw rfl 24 rfl _ zero_wide ?_; clear hw; intro k4 w hw) | (refine ok_alloc (H := [_, _, _, _]) hw rfl 24 rfl _ zero_wide ?_; clear hw; intro k5 w hw) | (refine w_load hw rfl 24 _ rfl _ rfl agg_wide _ (by first | (apply Has.own; (repeat (first | assumption | exact List.mem_cons_self | apply List.mem_cons_of_mem)); done) | (apply Has.read; (repeat (first | assumption | exact List.mem_cons_self | apply List.mem_cons_of_mem)); done)) ?_) | (refine ok_buildz rfl rfl ?_) | (refine w_store hw rfl 24 _ _ rfl _ rfl _ rfl agg_wide _ (by repeat (first | exact At.head _ | apply At.tail)) ?_; clear hw; intro w hw) | (refine w_eql rfl _ _ _ rfl _ _ rfl rfl ?_) | (refine ok_field_fst rfl _ _ rfl fst_far _ _ rfl ?_) | (go_at_call 40; refine (Hst.out k5 k2 Non w0 _ [(k4, limbs 8 N), (k3, limbs 8 0), (k1, limbs 8 n)] _ (hw.perm (.cons _ (List.perm_middle (l₁ := [_, _])).symm))).mono ?_; rintro e w ⟨rfl, T', rfl, hw'⟩; clear hw; have hw := hw'; clear hw'; simp only [List.cons_append, List.nil_append] at hw) | (go_at_call 16; refine hno.call0 hw ?_; clear hw; intro w hw) | (go_at_call 49; refine hbeg.call0 hw ?_; clear hw; intro w hw) | (refine ok_load_one hw rfl 3 _ rfl _ rfl one_int _ (.own (.tail _ (.tail _ (.head _)))) ?_; have hcell : w.cell? ⟨k2, 0, none⟩ = some (.int .i64 most) := (hw.has (.own (.tail _ (.tail _ (.head _))))).cell 0))
  refine ret_ct rfl rfl rfl agg_wide (hw.rows _ (.tail _ (.tail _ (.tail _ (.head _))))) (by simp) rfl ⟨rfl, hw.below⟩

set_option maxRecDepth 100000 in
set_option maxHeartbeats 4000000 in
/-- No number of steps, or no root here. -/
theorem far_none (n most : Int) (h0 : 0 ≤ n) (h1 : n < M) (h : n = 0 ∨ 2 ^ 256 ≤ n) (hm : 0 ≤ most ∧ most ≤ 64) : Gives Try.prog 15 #[W n, .int .i64 most] [] (.tuple #[W 0, .int .i64 (rerr n)]) := by
  have hz := z256
  have hno := norm_none n h0 h1 h
  by_cases hn : n = 0
  · subst hn
    have e2 : rerr 0 = 0 := by unfold rerr; rw [if_neg (by omega)]
    rw [e2]
    refine .mk fun w0 w hw => ?_
    go_enter Try.func15, Try.ntmps15
    go_wp2_with (first | (refine w_box (H := []) hw rfl 24 _ rfl _ rfl ?_; clear hw; intro k1 w hw) | (refine int_box (H := []) hw rfl 3 _ rfl _ _ rfl ?_; clear hw; intro k1 w hw) | (refine int_box (H := [_]) hw rfl 3 _ rfl _ _ rfl ?_; clear hw; intro k2 w hw) | (refine ok_alloc (H := []) hw rfl 24 rfl _ zero_wide ?_; clear hw; intro k1 w hw) | (refine ok_alloc (H := [_]) hw rfl 24 rfl _ zero_wide ?_; clear hw; intro k2 w hw) | (refine ok_alloc (H := [_, _]) hw rfl 24 rfl _ zero_wide ?_; clear hw; intro k3 w hw) | (refine ok_alloc (H := []) hw rfl 24 rfl _ zero_wide ?_; clear hw; intro k1 w hw) | (refine ok_alloc (H := [_]) hw rfl 24 rfl _ zero_wide ?_; clear hw; intro k2 w hw) | (refine ok_alloc (H := [_, _]) hw rfl 24 rfl _ zero_wide ?_; clear hw; intro k3 w hw) | (refine ok_alloc (H := [_, _, _]) hw rfl 24 rfl _ zero_wide ?_; clear hw; intro k4 w hw) | (refine w_load hw rfl 24 _ rfl _ rfl agg_wide _ (by first | (apply Has.own; (repeat (first | assumption | exact List.mem_cons_self | apply List.mem_cons_of_mem)); done) | (apply Has.read; (repeat (first | assumption | exact List.mem_cons_self | apply List.mem_cons_of_mem)); done)) ?_) | (refine ok_buildz rfl rfl ?_) | (refine w_store hw rfl 24 _ _ rfl _ rfl _ rfl agg_wide _ (by repeat (first | exact At.head _ | apply At.tail)) ?_; clear hw; intro w hw) | (refine w_eql rfl _ _ _ rfl _ _ rfl rfl ?_) | (go_at_call 16; refine hno.call0 hw ?_; clear hw; intro w hw) | (refine ok_load_one hw rfl 3 _ rfl _ rfl one_int _ (.own (.tail _ (.tail _ (.head _)))) ?_; have hcell : w.cell? ⟨k2, 0, none⟩ = some (.int .i64 most) := (hw.has (.own (.tail _ (.tail _ (.head _))))).cell 0))
    refine ret_ct rfl rfl rfl agg_wide (hw.rows _ (.tail _ (.head _))) (by simp) rfl ⟨rfl, hw.below⟩
  · have hcond : ¬ n % M = 0 := by rw [Int.emod_eq_of_lt h0 h1]; exact hn
    have e2 : rerr n = 4 := by unfold rerr; rw [if_pos (by omega)]
    rw [e2]
    refine .mk fun w0 w hw => ?_
    go_enter Try.func15, Try.ntmps15
    go_wp2_with (first | (refine w_box (H := []) hw rfl 24 _ rfl _ rfl ?_; clear hw; intro k1 w hw) | (refine int_box (H := []) hw rfl 3 _ rfl _ _ rfl ?_; clear hw; intro k1 w hw) | (refine int_box (H := [_]) hw rfl 3 _ rfl _ _ rfl ?_; clear hw; intro k2 w hw) | (refine ok_alloc (H := []) hw rfl 24 rfl _ zero_wide ?_; clear hw; intro k1 w hw) | (refine ok_alloc (H := [_]) hw rfl 24 rfl _ zero_wide ?_; clear hw; intro k2 w hw) | (refine ok_alloc (H := [_, _]) hw rfl 24 rfl _ zero_wide ?_; clear hw; intro k3 w hw) | (refine ok_alloc (H := []) hw rfl 24 rfl _ zero_wide ?_; clear hw; intro k1 w hw) | (refine ok_alloc (H := [_]) hw rfl 24 rfl _ zero_wide ?_; clear hw; intro k2 w hw) | (refine ok_alloc (H := [_, _]) hw rfl 24 rfl _ zero_wide ?_; clear hw; intro k3 w hw) | (refine ok_alloc (H := [_, _, _]) hw rfl 24 rfl _ zero_wide ?_; clear hw; intro k4 w hw) | (refine w_load hw rfl 24 _ rfl _ rfl agg_wide _ (by first | (apply Has.own; (repeat (first | assumption | exact List.mem_cons_self | apply List.mem_cons_of_mem)); done) | (apply Has.read; (repeat (first | assumption | exact List.mem_cons_self | apply List.mem_cons_of_mem)); done)) ?_) | (refine ok_buildz rfl rfl ?_) | (refine w_store hw rfl 24 _ _ rfl _ rfl _ rfl agg_wide _ (by repeat (first | exact At.head _ | apply At.tail)) ?_; clear hw; intro w hw) | (refine w_eql rfl _ _ _ rfl _ _ rfl rfl ?_) | (go_at_call 16; refine hno.call0 hw ?_; clear hw; intro w hw) | (refine ok_load_one hw rfl 3 _ rfl _ rfl one_int _ (.own (.tail _ (.tail _ (.head _)))) ?_; have hcell : w.cell? ⟨k2, 0, none⟩ = some (.int .i64 most) := (hw.has (.own (.tail _ (.tail _ (.head _))))).cell 0))
    refine ret_ct rfl rfl rfl agg_wide (hw.rows _ (.tail _ (.head _))) (by simp) rfl ⟨rfl, hw.below⟩

theorem norm_any (n : Int) (h0 : 0 ≤ n) (h1 : n < M) : ∃ a b c, Gives Try.prog 16 #[W n] [] (.tuple #[W a, .int .i64 b, .bool c]) := by
  by_cases h : n = 0 ∨ 2 ^ 256 ≤ n
  · exact ⟨_, _, _, norm_none n h0 h1 h⟩
  · exact ⟨_, _, _, norm_gives n (by omega) (by omega)⟩
set_option maxRecDepth 100000 in
set_option maxHeartbeats 4000000 in
theorem far_range (n most : Int) (h0 : 0 ≤ n) (h1 : n < M) (hm : most < 0 ∨ 64 < most) : Gives Try.prog 15 #[W n, .int .i64 most] [] (.tuple #[W 0, .int .i64 4]) := by
  obtain ⟨a, b, c, hno⟩ := norm_any n h0 h1
  refine .mk fun w0 w hw => ?_
  rcases hm with hm | hm
  · go_enter Try.func15, Try.ntmps15
    go_wp2_with (first | (refine w_box (H := []) hw rfl 24 _ rfl _ rfl ?_; clear hw; intro k1 w hw) | (refine int_box (H := []) hw rfl 3 _ rfl _ _ rfl ?_; clear hw; intro k1 w hw) | (refine int_box (H := [_]) hw rfl 3 _ rfl _ _ rfl ?_; clear hw; intro k2 w hw) | (refine ok_alloc (H := []) hw rfl 24 rfl _ zero_wide ?_; clear hw; intro k1 w hw) | (refine ok_alloc (H := [_]) hw rfl 24 rfl _ zero_wide ?_; clear hw; intro k2 w hw) | (refine ok_alloc (H := [_, _]) hw rfl 24 rfl _ zero_wide ?_; clear hw; intro k3 w hw) | (refine ok_alloc (H := []) hw rfl 24 rfl _ zero_wide ?_; clear hw; intro k1 w hw) | (refine ok_alloc (H := [_]) hw rfl 24 rfl _ zero_wide ?_; clear hw; intro k2 w hw) | (refine ok_alloc (H := [_, _]) hw rfl 24 rfl _ zero_wide ?_; clear hw; intro k3 w hw) | (refine ok_alloc (H := [_, _, _]) hw rfl 24 rfl _ zero_wide ?_; clear hw; intro k4 w hw) | (refine w_load hw rfl 24 _ rfl _ rfl agg_wide _ (by first | (apply Has.own; (repeat (first | assumption | exact List.mem_cons_self | apply List.mem_cons_of_mem)); done) | (apply Has.read; (repeat (first | assumption | exact List.mem_cons_self | apply List.mem_cons_of_mem)); done)) ?_) | (refine ok_buildz rfl rfl ?_) | (refine w_store hw rfl 24 _ _ rfl _ rfl _ rfl agg_wide _ (by repeat (first | exact At.head _ | apply At.tail)) ?_; clear hw; intro w hw) | (refine w_eql rfl _ _ _ rfl _ _ rfl rfl ?_) | (go_at_call 16; refine hno.call0 hw ?_; clear hw; intro w hw) | (refine ok_load_one hw rfl 3 _ rfl _ rfl one_int _ (.own (.tail _ (.tail _ (.head _)))) ?_; have hcell : w.cell? ⟨k2, 0, none⟩ = some (.int .i64 most) := (hw.has (.own (.tail _ (.tail _ (.head _))))).cell 0))
    refine ret_ct rfl rfl rfl agg_wide (hw.rows _ (.tail _ (.head _))) (by simp) rfl ⟨rfl, hw.below⟩
  · go_enter Try.func15, Try.ntmps15
    go_wp2_with (first | (refine w_box (H := []) hw rfl 24 _ rfl _ rfl ?_; clear hw; intro k1 w hw) | (refine int_box (H := []) hw rfl 3 _ rfl _ _ rfl ?_; clear hw; intro k1 w hw) | (refine int_box (H := [_]) hw rfl 3 _ rfl _ _ rfl ?_; clear hw; intro k2 w hw) | (refine ok_alloc (H := []) hw rfl 24 rfl _ zero_wide ?_; clear hw; intro k1 w hw) | (refine ok_alloc (H := [_]) hw rfl 24 rfl _ zero_wide ?_; clear hw; intro k2 w hw) | (refine ok_alloc (H := [_, _]) hw rfl 24 rfl _ zero_wide ?_; clear hw; intro k3 w hw) | (refine ok_alloc (H := []) hw rfl 24 rfl _ zero_wide ?_; clear hw; intro k1 w hw) | (refine ok_alloc (H := [_]) hw rfl 24 rfl _ zero_wide ?_; clear hw; intro k2 w hw) | (refine ok_alloc (H := [_, _]) hw rfl 24 rfl _ zero_wide ?_; clear hw; intro k3 w hw) | (refine ok_alloc (H := [_, _, _]) hw rfl 24 rfl _ zero_wide ?_; clear hw; intro k4 w hw) | (refine w_load hw rfl 24 _ rfl _ rfl agg_wide _ (by first | (apply Has.own; (repeat (first | assumption | exact List.mem_cons_self | apply List.mem_cons_of_mem)); done) | (apply Has.read; (repeat (first | assumption | exact List.mem_cons_self | apply List.mem_cons_of_mem)); done)) ?_) | (refine ok_buildz rfl rfl ?_) | (refine w_store hw rfl 24 _ _ rfl _ rfl _ rfl agg_wide _ (by repeat (first | exact At.head _ | apply At.tail)) ?_; clear hw; intro w hw) | (refine w_eql rfl _ _ _ rfl _ _ rfl rfl ?_) | (go_at_call 16; refine hno.call0 hw ?_; clear hw; intro w hw) | (refine ok_load_one hw rfl 3 _ rfl _ rfl one_int _ (.own (.tail _ (.tail _ (.head _)))) ?_; have hcell : w.cell? ⟨k2, 0, none⟩ = some (.int .i64 most) := (hw.has (.own (.tail _ (.tail _ (.head _))))).cell 0))
    refine ret_ct rfl rfl rfl agg_wide (hw.rows _ (.tail _ (.head _))) (by simp) rfl ⟨rfl, hw.below⟩
end Go.Proofs.Ytcodmeljjphoeaa
