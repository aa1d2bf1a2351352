/-
  Layer 15: what is left behind some steps.
-/
import Derived.Test.YtcodmeljjphoeaaDoorSrtD
namespace Go.Proofs.YtcodmeljjphoeaaDoor
open Go.RowKit
set_option exponentiation.threshold 600
set_option linter.unusedVariables false
set_option linter.unusedSimpArgs false

def SLKeep (X D : Int) (ko km : Nat) (most : Int) (j : Nat) (T : List (Nat × Array Value)) : Prop := T = [(ko, limbs 8 (sl X D j)), (km, #[.int .i64 most])]

set_option maxRecDepth 10000 in
theorem sleft1_go (X D : Int) (ko km : Nat) (most : Int) (j : Nat) (h : (j : Int) < most) (hm : most ≤ 65) : StepD 42 #[.pointer (some ⟨km, 0, none⟩), .pointer (some ⟨ko, 0, none⟩)] #[.agg (stp (64 - (j : Int)) (sd X D j) (sl X D (j + 1)))] (SLKeep X D ko km most j) (SLKeep X D ko km most (j + 1)) true := by
  intro S w0 w T H R hI hw
  unfold SLKeep at hI
  subst hI
  generalize sd X D j = d
  unfold SLKeep
  generalize sl X D (j + 1) = l'
  generalize sl X D j = l at *
  show Calls _ _ #[.agg (stp (64 - (j : Int)) d l'), .pointer (some ⟨km, 0, none⟩), .pointer (some ⟨ko, 0, none⟩)] _ _
  simp only [List.cons_append, List.nil_append] at hw
  go_enter Tryd.func42, Tryd.ntmps42
  go_wp2_with (first | (refine ok_box (H := ((_ :: _ :: H))) hw rfl 66 _ rfl _ rfl ?_; clear hw; intro k1 w hw) | (refine ok_load_one hw rfl 3 _ rfl _ rfl one_int _ (by first | (apply Has.own; (repeat (first | assumption | exact List.mem_cons_self | apply List.mem_cons_of_mem)); done) | (apply Has.read; (repeat (first | assumption | exact List.mem_cons_self | apply List.mem_cons_of_mem)); done)) ?_) | (refine w_store hw rfl 24 _ _ rfl _ rfl _ rfl agg_wide _ (by repeat (first | exact At.head _ | apply At.tail)) ?_; clear hw; intro w hw) | (refine ok_load_cell hw rfl 3 _ rfl k1 0 rfl one_int (stp (64 - (j : Int)) d l') (Has.own (List.Mem.head _)) (.int .i64 (64 - (j : Int))) (stp_get0 _ d l') ?_) | (refine ok_load_part hw rfl 24 _ rfl k1 2 rfl 8 agg_wide (stp (64 - (j : Int)) d l') (.inl (List.Mem.head _)) (by simp) _ (stp_left _ d l') ?_))
  go_ret
  exact ⟨rfl, _, rfl, hw.sub (List.Sublist.cons _ (List.Sublist.refl _)) (fun q h => h)⟩
set_option maxRecDepth 10000 in
theorem sleft1_no (X D : Int) (ko km : Nat) (most : Int) (j : Nat) (h : most ≤ (j : Int)) (hm : 0 ≤ most ∧ j ≤ 65) (l' : Int) : StepD 42 #[.pointer (some ⟨km, 0, none⟩), .pointer (some ⟨ko, 0, none⟩)] #[.agg (stp (64 - (j : Int)) (sd X D j) l')] (SLKeep X D ko km most j) (SLKeep X D ko km most j) false := by
  intro S w0 w T H R hI hw
  unfold SLKeep at hI
  subst hI
  generalize sd X D j = d
  unfold SLKeep
  generalize sl X D j = l at *
  show Calls _ _ #[.agg (stp (64 - (j : Int)) d l'), .pointer (some ⟨km, 0, none⟩), .pointer (some ⟨ko, 0, none⟩)] _ _
  simp only [List.cons_append, List.nil_append] at hw
  go_enter Tryd.func42, Tryd.ntmps42
  go_wp2_with (first | (refine ok_box (H := ((_ :: _ :: H))) hw rfl 66 _ rfl _ rfl ?_; clear hw; intro k1 w hw) | (refine ok_load_one hw rfl 3 _ rfl _ rfl one_int _ (by first | (apply Has.own; (repeat (first | assumption | exact List.mem_cons_self | apply List.mem_cons_of_mem)); done) | (apply Has.read; (repeat (first | assumption | exact List.mem_cons_self | apply List.mem_cons_of_mem)); done)) ?_) | (refine w_store hw rfl 24 _ _ rfl _ rfl _ rfl agg_wide _ (by repeat (first | exact At.head _ | apply At.tail)) ?_; clear hw; intro w hw) | (refine ok_load_cell hw rfl 3 _ rfl k1 0 rfl one_int (stp (64 - (j : Int)) d l') (Has.own (List.Mem.head _)) (.int .i64 (64 - (j : Int))) (stp_get0 _ d l') ?_) | (refine ok_load_part hw rfl 24 _ rfl k1 2 rfl 8 agg_wide (stp (64 - (j : Int)) d l') (.inl (List.Mem.head _)) (by simp) _ (stp_left _ d l') ?_))
  go_ret
  exact ⟨rfl, _, rfl, hw.sub (List.Sublist.cons _ (List.Sublist.refl _)) (fun q h => h)⟩

theorem sl_in {X D : Int} (h0 : 2 ^ 127 ≤ D) (h1 : D < 2 ^ 128) {i : Nat} (hi : i ≤ 65) (h : SKept X D i) : -HM < sl X D i ∧ sl X D i < HM := by
  obtain ⟨k0, k1⟩ := h
  have hw := pow_pos2 (2 * (65 - i))
  have d1 := Int.mul_lt_mul_of_pos_right h1 hw
  rw [← Int.pow_add] at d1
  have h2 := pow_mono2 (show 128 + 2 * (65 - i) + 1 ≤ 511 by omega)
  rw [Int.pow_succ] at h2
  change _ ≤ HM at h2
  have := pow_pos2 (128 + 2 * (65 - i))
  omega

/-- What is left, without a sign, behind some steps. -/
def lv (n d : Int) (most : Nat) : Int := sl (n * 2 ^ sby d) (d * 2 ^ sby d) most

set_option maxRecDepth 100000 in
set_option maxHeartbeats 4000000 in
theorem sleft_some (n d : Int) (most : Nat) (hm : most ≤ 65) (hn0 : 0 ≤ n) (hn1 : n < M) (hd0 : 0 ≤ d) (hd1 : d < M) (hmv : mayv n d = 0) :
    Gives Tryd.prog 14 #[W n, W d, .int .i64 most] TR (.tuple #[W (if lv n d most < 0 then -lv n d most else lv n d most), .bool (decide (lv n d most < 0)), .int .i64 0]) := by
  refine .mk fun w0 w hw => ?_
  have hmay := may_gives n d hn0 hn1 hd0 hd1
  have hu := may_up hn0 hd0 hmv
  have hsh := shifted_gives n d hu.1 hu.2.1
  have hup := hu.2.2
  have hin := sl_in hup.1 hup.2.1 hm (skept_all hup.1 hup.2.1 hup.2.2.1 hup.2.2.2 most hm)
  rw [hmv] at hmay
  have hlv : lv n d most = sl (n * 2 ^ sby d) (d * 2 ^ sby d) most := rfl
  rw [hlv]
  clear hlv hu hn0 hn1 hd0 hd1 hmv
  generalize n * 2 ^ sby d = X at *
  generalize d * 2 ^ sby d = D at *
  generalize sby d = b at *
  have hst := fun ko km (S : Nat → Prop) w0 w H R hR => srun_calls X D hup.1 hup.2.1 hup.2.2.1 hup.2.2.2 42 body_sleft1 #[.pointer (some ⟨km, 0, none⟩), .pointer (some ⟨ko, 0, none⟩)] (SLKeep X D ko km most) most hm (fun j hj => sleft1_go X D ko km most j (by omega) (by omega)) (fun h => sleft1_no X D ko km most most (by omega) (by omega) _) S w0 w [(ko, limbs 8 (sl X D 0)), (km, #[.int .i64 most])] H R rfl hR
  rw [show sl X D 0 = X from rfl] at hst
  have hmi := minus_gives (sl X D most)
  rw [minusv_in (by omega) hin.2] at hmi
  have hng := neg_gives (sl X D most)
  have Hst := Lib.hid hst
  clear hst hup hin
  generalize hl : sl X D most = l at *
  have Hl := Lib.hid hl
  clear hl
  by_cases hneg : l < 0
  · rw [if_pos hneg, decide_eq_true hneg]
    rw [decide_eq_true hneg] at hmi
    clear hneg
    go_enter Tryd.func14, Tryd.ntmps14
    go_wp2_with (first | (refine w_box (H := []) hw rfl 24 _ rfl _ rfl ?_; clear hw; intro k1 w hw) | (refine w_box (H := [_]) hw rfl 24 _ rfl _ rfl ?_; clear hw; intro k2 w hw) | (refine int_box (H := []) hw rfl 3 _ rfl _ _ rfl ?_; clear hw; intro k1 w hw) | (refine int_box (H := [_]) hw rfl 3 _ rfl _ _ rfl ?_; clear hw; intro k2 w hw) | (refine int_box (H := [_, _]) hw rfl 3 _ rfl _ _ rfl ?_; clear hw; intro k3 w hw) | (refine ok_alloc (H := []) hw rfl 24 rfl _ zero_wide ?_; clear hw; intro k1 w hw) | (refine ok_alloc (H := [_]) hw rfl 24 rfl _ zero_wide ?_; clear hw; intro k2 w hw) | (refine ok_alloc (H := [_, _]) hw rfl 24 rfl _ zero_wide ?_; clear hw; intro k3 w hw) | (refine ok_alloc (H := [_, _, _]) hw rfl 24 rfl _ zero_wide ?_; clear hw; intro k4 w hw) | (refine ok_alloc (H := [_, _, _, _]) hw rfl 24 rfl _ zero_wide ?_; clear hw; intro k5 w hw) | (refine w_load hw rfl 24 _ rfl _ rfl agg_wide _ (by first | (apply Has.own; (repeat (first | assumption | exact List.mem_cons_self | apply List.mem_cons_of_mem)); done) | (apply Has.read; (repeat (first | assumption | exact List.mem_cons_self | apply List.mem_cons_of_mem)); done)) ?_) | (refine w_store hw rfl 24 _ _ rfl _ rfl _ rfl agg_wide _ (by repeat (first | exact At.head _ | apply At.tail)) ?_; clear hw; intro w hw) | (refine ok_load_one hw rfl 3 _ rfl _ rfl one_int _ (by first | (apply Has.own; (repeat (first | assumption | exact List.mem_cons_self | apply List.mem_cons_of_mem)); done) | (apply Has.read; (repeat (first | assumption | exact List.mem_cons_self | apply List.mem_cons_of_mem)); done)) ?_) | (refine unguard rfl ?_; refine ok_load_one hw rfl 3 _ rfl _ rfl one_int _ (by first | (apply Has.own; (repeat (first | assumption | exact List.mem_cons_self | apply List.mem_cons_of_mem)); done) | (apply Has.read; (repeat (first | assumption | exact List.mem_cons_self | apply List.mem_cons_of_mem)); done)) ?_) | (go_at_call 21; refine hmay.call0 hw ?_; clear hw; intro w hw) | (go_at_call 27; refine hsh.call0 hw ?_; clear hw; intro w hw))
    refine (Hst.out k5 k3 Non w0 _ [(k4, limbs 8 0), (k2, limbs 8 D), (k1, limbs 8 X)] TR (fun p hp => hp) (hw.perm (.cons _ (.swap _ _ _)))).mono ?_
    rintro e w ⟨rfl, T', rfl, hw'⟩
    clear hw
    simp only [List.cons_append, List.nil_append, Hl.out] at hw'
    have hw := hw'
    clear hw'
    go_wp2_with (first | (refine w_load hw rfl 24 _ rfl _ rfl agg_wide _ (by first | (apply Has.own; (repeat (first | assumption | exact List.mem_cons_self | apply List.mem_cons_of_mem)); done) | (apply Has.read; (repeat (first | assumption | exact List.mem_cons_self | apply List.mem_cons_of_mem)); done)) ?_) | (refine w_store hw rfl 24 _ _ rfl _ rfl _ rfl agg_wide _ (by repeat (first | exact At.head _ | apply At.tail)) ?_; clear hw; intro w hw) | (go_at_call 32; refine hmi.call0 hw ?_; clear hw; intro w hw) | (go_at_call 43; refine hng.call0 hw ?_; clear hw; intro w hw))
    refine ret_ctt rfl rfl rfl rfl agg_wide (hw.rows _ (.tail _ (.tail _ (.head _)))) (by simp) rfl ⟨rfl, hw.below⟩
  · rw [if_neg hneg, decide_eq_false hneg]
    rw [decide_eq_false hneg] at hmi
    clear hneg
    go_enter Tryd.func14, Tryd.ntmps14
    go_wp2_with (first | (refine w_box (H := []) hw rfl 24 _ rfl _ rfl ?_; clear hw; intro k1 w hw) | (refine w_box (H := [_]) hw rfl 24 _ rfl _ rfl ?_; clear hw; intro k2 w hw) | (refine int_box (H := []) hw rfl 3 _ rfl _ _ rfl ?_; clear hw; intro k1 w hw) | (refine int_box (H := [_]) hw rfl 3 _ rfl _ _ rfl ?_; clear hw; intro k2 w hw) | (refine int_box (H := [_, _]) hw rfl 3 _ rfl _ _ rfl ?_; clear hw; intro k3 w hw) | (refine ok_alloc (H := []) hw rfl 24 rfl _ zero_wide ?_; clear hw; intro k1 w hw) | (refine ok_alloc (H := [_]) hw rfl 24 rfl _ zero_wide ?_; clear hw; intro k2 w hw) | (refine ok_alloc (H := [_, _]) hw rfl 24 rfl _ zero_wide ?_; clear hw; intro k3 w hw) | (refine ok_alloc (H := [_, _, _]) hw rfl 24 rfl _ zero_wide ?_; clear hw; intro k4 w hw) | (refine ok_alloc (H := [_, _, _, _]) hw rfl 24 rfl _ zero_wide ?_; clear hw; intro k5 w hw) | (refine w_load hw rfl 24 _ rfl _ rfl agg_wide _ (by first | (apply Has.own; (repeat (first | assumption | exact List.mem_cons_self | apply List.mem_cons_of_mem)); done) | (apply Has.read; (repeat (first | assumption | exact List.mem_cons_self | apply List.mem_cons_of_mem)); done)) ?_) | (refine w_store hw rfl 24 _ _ rfl _ rfl _ rfl agg_wide _ (by repeat (first | exact At.head _ | apply At.tail)) ?_; clear hw; intro w hw) | (refine ok_load_one hw rfl 3 _ rfl _ rfl one_int _ (by first | (apply Has.own; (repeat (first | assumption | exact List.mem_cons_self | apply List.mem_cons_of_mem)); done) | (apply Has.read; (repeat (first | assumption | exact List.mem_cons_self | apply List.mem_cons_of_mem)); done)) ?_) | (refine unguard rfl ?_; refine ok_load_one hw rfl 3 _ rfl _ rfl one_int _ (by first | (apply Has.own; (repeat (first | assumption | exact List.mem_cons_self | apply List.mem_cons_of_mem)); done) | (apply Has.read; (repeat (first | assumption | exact List.mem_cons_self | apply List.mem_cons_of_mem)); done)) ?_) | (go_at_call 21; refine hmay.call0 hw ?_; clear hw; intro w hw) | (go_at_call 27; refine hsh.call0 hw ?_; clear hw; intro w hw))
    refine (Hst.out k5 k3 Non w0 _ [(k4, limbs 8 0), (k2, limbs 8 D), (k1, limbs 8 X)] TR (fun p hp => hp) (hw.perm (.cons _ (.swap _ _ _)))).mono ?_
    rintro e w ⟨rfl, T', rfl, hw'⟩
    clear hw
    simp only [List.cons_append, List.nil_append, Hl.out] at hw'
    have hw := hw'
    clear hw'
    go_wp2_with (first | (refine w_load hw rfl 24 _ rfl _ rfl agg_wide _ (by first | (apply Has.own; (repeat (first | assumption | exact List.mem_cons_self | apply List.mem_cons_of_mem)); done) | (apply Has.read; (repeat (first | assumption | exact List.mem_cons_self | apply List.mem_cons_of_mem)); done)) ?_) | (refine w_store hw rfl 24 _ _ rfl _ rfl _ rfl agg_wide _ (by repeat (first | exact At.head _ | apply At.tail)) ?_; clear hw; intro w hw) | (go_at_call 32; refine hmi.call0 hw ?_; clear hw; intro w hw) | (go_at_call 43; refine hng.call0 hw ?_; clear hw; intro w hw))
    refine ret_ctt rfl rfl rfl rfl agg_wide (hw.rows _ (.tail _ (.tail _ (.head _)))) (by simp) rfl ⟨rfl, hw.below⟩

set_option maxRecDepth 100000 in
set_option maxHeartbeats 1000000 in
theorem sleft_none (n d most : Int) (hm : 0 ≤ most ∧ most ≤ 65) (hn0 : 0 ≤ n) (hn1 : n < M) (hd0 : 0 ≤ d) (hd1 : d < M) (hmv : mayv n d ≠ 0) :
    Gives Tryd.prog 14 #[W n, W d, .int .i64 most] TR (.tuple #[W 0, .bool false, .int .i64 (mayv n d)]) := by
  refine .mk fun w0 w hw => ?_
  have hmay := may_gives n d hn0 hn1 hd0 hd1
  clear hn0 hn1 hd0 hd1
  generalize mayv n d = er at *
  have hne : (er != 0) = true := by simpa using hmv
  have hd1 : decide (most < 0) = false := decide_eq_false (by omega)
  have hd2 : decide (65 < most) = false := decide_eq_false (by omega)
  go_enter Tryd.func14, Tryd.ntmps14
  go_wp2_with (first | (refine w_box (H := []) hw rfl 24 _ rfl _ rfl ?_; clear hw; intro k1 w hw) | (refine w_box (H := [_]) hw rfl 24 _ rfl _ rfl ?_; clear hw; intro k2 w hw) | (refine int_box (H := []) hw rfl 3 _ rfl _ _ rfl ?_; clear hw; intro k1 w hw) | (refine int_box (H := [_]) hw rfl 3 _ rfl _ _ rfl ?_; clear hw; intro k2 w hw) | (refine int_box (H := [_, _]) hw rfl 3 _ rfl _ _ rfl ?_; clear hw; intro k3 w hw) | (refine ok_alloc (H := []) hw rfl 24 rfl _ zero_wide ?_; clear hw; intro k1 w hw) | (refine ok_alloc (H := [_]) hw rfl 24 rfl _ zero_wide ?_; clear hw; intro k2 w hw) | (refine ok_alloc (H := [_, _]) hw rfl 24 rfl _ zero_wide ?_; clear hw; intro k3 w hw) | (refine ok_alloc (H := [_, _, _]) hw rfl 24 rfl _ zero_wide ?_; clear hw; intro k4 w hw) | (refine ok_alloc (H := [_, _, _, _]) hw rfl 24 rfl _ zero_wide ?_; clear hw; intro k5 w hw) | (refine w_load hw rfl 24 _ rfl _ rfl agg_wide _ (by first | (apply Has.own; (repeat (first | assumption | exact List.mem_cons_self | apply List.mem_cons_of_mem)); done) | (apply Has.read; (repeat (first | assumption | exact List.mem_cons_self | apply List.mem_cons_of_mem)); done)) ?_) | (refine ok_buildz rfl rfl ?_) | (refine w_store hw rfl 24 _ _ rfl _ rfl _ rfl agg_wide _ (by repeat (first | exact At.head _ | apply At.tail)) ?_; clear hw; intro w hw) | (refine ok_load_one hw rfl 3 _ rfl _ rfl one_int _ (by first | (apply Has.own; (repeat (first | assumption | exact List.mem_cons_self | apply List.mem_cons_of_mem)); done) | (apply Has.read; (repeat (first | assumption | exact List.mem_cons_self | apply List.mem_cons_of_mem)); done)) ?_) | (refine unguard rfl ?_; refine ok_load_one hw rfl 3 _ rfl _ rfl one_int _ (by first | (apply Has.own; (repeat (first | assumption | exact List.mem_cons_self | apply List.mem_cons_of_mem)); done) | (apply Has.read; (repeat (first | assumption | exact List.mem_cons_self | apply List.mem_cons_of_mem)); done)) ?_) | (go_at_call 21; refine hmay.call0 hw ?_; clear hw; intro w hw))
  refine ret_ctt rfl rfl rfl rfl agg_wide (hw.rows _ (.head _)) (by simp) rfl ⟨rfl, hw.below⟩
set_option maxRecDepth 100000 in
set_option maxHeartbeats 1000000 in
theorem sleft_range (n d most : Int) (hm : most < 0 ∨ 65 < most) :
    Gives Tryd.prog 14 #[W n, W d, .int .i64 most] TR (.tuple #[W 0, .bool false, .int .i64 4]) := by
  refine .mk fun w0 w hw => ?_
  rcases hm with hm | hm
  · go_enter Tryd.func14, Tryd.ntmps14
    go_wp2_with (first | (refine w_box (H := []) hw rfl 24 _ rfl _ rfl ?_; clear hw; intro k1 w hw) | (refine w_box (H := [_]) hw rfl 24 _ rfl _ rfl ?_; clear hw; intro k2 w hw) | (refine int_box (H := []) hw rfl 3 _ rfl _ _ rfl ?_; clear hw; intro k1 w hw) | (refine int_box (H := [_]) hw rfl 3 _ rfl _ _ rfl ?_; clear hw; intro k2 w hw) | (refine int_box (H := [_, _]) hw rfl 3 _ rfl _ _ rfl ?_; clear hw; intro k3 w hw) | (refine ok_alloc (H := []) hw rfl 24 rfl _ zero_wide ?_; clear hw; intro k1 w hw) | (refine ok_alloc (H := [_]) hw rfl 24 rfl _ zero_wide ?_; clear hw; intro k2 w hw) | (refine ok_alloc (H := [_, _]) hw rfl 24 rfl _ zero_wide ?_; clear hw; intro k3 w hw) | (refine ok_alloc (H := [_, _, _]) hw rfl 24 rfl _ zero_wide ?_; clear hw; intro k4 w hw) | (refine ok_alloc (H := [_, _, _, _]) hw rfl 24 rfl _ zero_wide ?_; clear hw; intro k5 w hw) | (refine w_load hw rfl 24 _ rfl _ rfl agg_wide _ (by first | (apply Has.own; (repeat (first | assumption | exact List.mem_cons_self | apply List.mem_cons_of_mem)); done) | (apply Has.read; (repeat (first | assumption | exact List.mem_cons_self | apply List.mem_cons_of_mem)); done)) ?_) | (refine ok_buildz rfl rfl ?_) | (refine w_store hw rfl 24 _ _ rfl _ rfl _ rfl agg_wide _ (by repeat (first | exact At.head _ | apply At.tail)) ?_; clear hw; intro w hw) | (refine ok_load_one hw rfl 3 _ rfl _ rfl one_int _ (by first | (apply Has.own; (repeat (first | assumption | exact List.mem_cons_self | apply List.mem_cons_of_mem)); done) | (apply Has.read; (repeat (first | assumption | exact List.mem_cons_self | apply List.mem_cons_of_mem)); done)) ?_) | (refine unguard rfl ?_; refine ok_load_one hw rfl 3 _ rfl _ rfl one_int _ (by first | (apply Has.own; (repeat (first | assumption | exact List.mem_cons_self | apply List.mem_cons_of_mem)); done) | (apply Has.read; (repeat (first | assumption | exact List.mem_cons_self | apply List.mem_cons_of_mem)); done)) ?_))
    refine ret_ctt rfl rfl rfl rfl agg_wide (hw.rows _ (.head _)) (by simp) rfl ⟨rfl, hw.below⟩
  · have hd1 : decide (most < 0) = false := decide_eq_false (by omega)
    have hd2 : decide (65 < most) = true := decide_eq_true hm
    go_enter Tryd.func14, Tryd.ntmps14
    go_wp2_with (first | (refine w_box (H := []) hw rfl 24 _ rfl _ rfl ?_; clear hw; intro k1 w hw) | (refine w_box (H := [_]) hw rfl 24 _ rfl _ rfl ?_; clear hw; intro k2 w hw) | (refine int_box (H := []) hw rfl 3 _ rfl _ _ rfl ?_; clear hw; intro k1 w hw) | (refine int_box (H := [_]) hw rfl 3 _ rfl _ _ rfl ?_; clear hw; intro k2 w hw) | (refine int_box (H := [_, _]) hw rfl 3 _ rfl _ _ rfl ?_; clear hw; intro k3 w hw) | (refine ok_alloc (H := []) hw rfl 24 rfl _ zero_wide ?_; clear hw; intro k1 w hw) | (refine ok_alloc (H := [_]) hw rfl 24 rfl _ zero_wide ?_; clear hw; intro k2 w hw) | (refine ok_alloc (H := [_, _]) hw rfl 24 rfl _ zero_wide ?_; clear hw; intro k3 w hw) | (refine ok_alloc (H := [_, _, _]) hw rfl 24 rfl _ zero_wide ?_; clear hw; intro k4 w hw) | (refine ok_alloc (H := [_, _, _, _]) hw rfl 24 rfl _ zero_wide ?_; clear hw; intro k5 w hw) | (refine w_load hw rfl 24 _ rfl _ rfl agg_wide _ (by first | (apply Has.own; (repeat (first | assumption | exact List.mem_cons_self | apply List.mem_cons_of_mem)); done) | (apply Has.read; (repeat (first | assumption | exact List.mem_cons_self | apply List.mem_cons_of_mem)); done)) ?_) | (refine ok_buildz rfl rfl ?_) | (refine w_store hw rfl 24 _ _ rfl _ rfl _ rfl agg_wide _ (by repeat (first | exact At.head _ | apply At.tail)) ?_; clear hw; intro w hw) | (refine ok_load_one hw rfl 3 _ rfl _ rfl one_int _ (by first | (apply Has.own; (repeat (first | assumption | exact List.mem_cons_self | apply List.mem_cons_of_mem)); done) | (apply Has.read; (repeat (first | assumption | exact List.mem_cons_self | apply List.mem_cons_of_mem)); done)) ?_) | (refine unguard rfl ?_; refine ok_load_one hw rfl 3 _ rfl _ rfl one_int _ (by first | (apply Has.own; (repeat (first | assumption | exact List.mem_cons_self | apply List.mem_cons_of_mem)); done) | (apply Has.read; (repeat (first | assumption | exact List.mem_cons_self | apply List.mem_cons_of_mem)); done)) ?_))
    refine ret_ctt rfl rfl rfl rfl agg_wide (hw.rows _ (.head _)) (by simp) rfl ⟨rfl, hw.below⟩
end Go.Proofs.YtcodmeljjphoeaaDoor
