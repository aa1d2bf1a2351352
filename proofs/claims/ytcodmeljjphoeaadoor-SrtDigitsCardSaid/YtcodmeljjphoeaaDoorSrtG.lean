/-
  Layer 15: quotient and remainder.
-/
import Derived.Test.YtcodmeljjphoeaaDoorSrtF
namespace Go.Proofs.YtcodmeljjphoeaaDoor
open Go.RowKit
set_option exponentiation.threshold 600
set_option linter.unusedVariables false
set_option linter.unusedSimpArgs false

theorem body_sdiv1 : HasBody Tryd.prog 30 := ⟨_, Tryd.func30, by kernel_rfl, by kernel_rfl⟩
def SQKeep (X D : Int) (kq kl j : Nat) (T : List (Nat × Array Value)) : Prop := ∃ l, T = [(kl, limbs 8 l), (kq, two (sq X D j) (sq X D j - 1))] ∧ (0 < j → l = sl X D j)

set_option maxRecDepth 100000 in
theorem sdiv1_step (X D : Int) (kq kl j : Nat) (p : Int) (hj : j < 65) : StepD 30 #[.pointer (some ⟨kq, 0, none⟩), .pointer (some ⟨kl, 0, none⟩)] #[.agg (stp p (sd X D j) (sl X D (j + 1)))] (SQKeep X D kq kl j) (SQKeep X D kq kl (j + 1)) true := by
  intro S w0 w T H R hI hw
  obtain ⟨l0, rfl, _⟩ := hI
  have hdb : -2 ≤ sd X D j ∧ sd X D j ≤ 2 := pickv_bd' _ _
  have hnx := flynext_gives (sq X D j) (sd X D j) (by omega)
  rw [show 4 * sq X D j + sd X D j = sq X D (j + 1) from rfl] at hnx
  unfold SQKeep
  generalize hl : sl X D (j + 1) = l'
  generalize sd X D j = d at *
  generalize sq X D (j + 1) = q' at *
  generalize sq X D j = q at *
  show Calls _ _ #[.agg (stp p d l'), .pointer (some ⟨kq, 0, none⟩), .pointer (some ⟨kl, 0, none⟩)] _ _
  clear hl
  simp only [List.cons_append, List.nil_append] at hw
  go_enter Tryd.func30, Tryd.ntmps30
  go_wp2_with (first | (refine ok_box (H := ((_ :: _ :: H))) hw rfl 66 _ rfl _ rfl ?_; clear hw; intro k1 w hw) | (refine w_store hw rfl 24 _ _ rfl _ rfl _ rfl agg_wide _ (by repeat (first | exact At.head _ | apply At.tail)) ?_; clear hw; intro w hw) | (refine ok_load hw rfl 62 _ rfl _ rfl _ agg_state _ (by first | (apply Has.own; (repeat (first | assumption | exact List.mem_cons_self | apply List.mem_cons_of_mem)); done) | (apply Has.read; (repeat (first | assumption | exact List.mem_cons_self | apply List.mem_cons_of_mem)); done)) (by simp) ?_) | (refine ok_store hw rfl 62 _ _ rfl _ rfl _ rfl _ agg_state _ (by repeat (first | exact At.head _ | apply At.tail)) (by simp) (by simp) (ones_two _ _) ?_; clear hw; intro w hw) | (refine ok_load_cell hw rfl 3 _ rfl k1 1 rfl one_int (stp p d l') (Has.own (List.Mem.head _)) (.int .i64 d) (stp_get1 _ d l') ?_) | (refine ok_load_part hw rfl 24 _ rfl k1 2 rfl 8 agg_wide (stp p d l') (.inl (List.Mem.head _)) (by simp) _ (stp_left _ d l') ?_) | (go_at_call 31; refine hnx.call0 hw ?_; clear hw; intro w hw))
  go_ret
  exact ⟨rfl, _, ⟨l', rfl, fun _ => rfl⟩, hw.sub (List.Sublist.cons _ (List.Sublist.refl _)) (fun q h => h)⟩

theorem sqk0 (X D : Int) (kq kl : Nat) : SQKeep X D kq kl 0 [(kl, limbs 8 0), (kq, two 0 (-1))] := by
  have e : sq X D 0 = 0 := rfl
  refine ⟨0, ?_, fun h => absurd h (by omega)⟩
  rw [e]
  rfl

set_option maxRecDepth 100000 in
set_option maxHeartbeats 4000000 in
theorem sdivide_none (n d : Int) (hn0 : 0 ≤ n) (hn1 : n < M) (hd0 : 0 ≤ d) (hd1 : d < M) (hmv : mayv n d ≠ 0) :
    Gives Tryd.prog 7 #[W n, W d] TR (.tuple #[W 0, W 0, .int .i64 (mayv n d)]) := by
  refine .mk fun w0 w hw => ?_
  have hmay := may_gives n d hn0 hn1 hd0 hd1
  clear hn0 hn1 hd0 hd1
  generalize mayv n d = er at *
  have hne : (er != 0) = true := by simpa using hmv
  go_enter Tryd.func7, Tryd.ntmps7
  go_wp2_with (first | (refine w_box (H := []) hw rfl 24 _ rfl _ rfl ?_; clear hw; intro k1 w hw) | (refine w_box (H := [_]) hw rfl 24 _ rfl _ rfl ?_; clear hw; intro k2 w hw) | (refine ok_alloc (H := []) hw rfl 24 rfl _ zero_wide ?_; clear hw; intro k1 w hw) | (refine ok_alloc (H := [_]) hw rfl 24 rfl _ zero_wide ?_; clear hw; intro k2 w hw) | (refine ok_alloc (H := [_, _]) hw rfl 24 rfl _ zero_wide ?_; clear hw; intro k3 w hw) | (refine ok_alloc (H := [_, _, _]) hw rfl 24 rfl _ zero_wide ?_; clear hw; intro k4 w hw) | (refine w_load hw rfl 24 _ rfl _ rfl agg_wide _ (by first | (apply Has.own; (repeat (first | assumption | exact List.mem_cons_self | apply List.mem_cons_of_mem)); done) | (apply Has.read; (repeat (first | assumption | exact List.mem_cons_self | apply List.mem_cons_of_mem)); done)) ?_) | (refine ok_buildz rfl rfl ?_) | (refine w_store hw rfl 24 _ _ rfl _ rfl _ rfl agg_wide _ (by repeat (first | exact At.head _ | apply At.tail)) ?_; clear hw; intro w hw) | (go_at_call 21; refine hmay.call0 hw ?_; clear hw; intro w hw))
  refine ret_cct rfl rfl rfl rfl agg_wide agg_wide (hw.rows _ (.tail _ (.head _))) (hw.rows _ (.head _)) (by simp) (by simp) rfl ⟨rfl, hw.below⟩

set_option maxRecDepth 100000 in
set_option maxHeartbeats 4000000 in
theorem sdivide_some (n d : Int) (hn0 : 0 ≤ n) (hn1 : n < M) (hd0 : 0 ≤ d) (hd1 : d < M) (hmv : mayv n d = 0) :
    Gives Tryd.prog 7 #[W n, W d] TR (.tuple #[W (n / d), W (n % d), .int .i64 0]) := by
  refine .mk fun w0 w hw => ?_
  have hmay := may_gives n d hn0 hn1 hd0 hd1
  have hu := may_up hn0 hd0 hmv
  have hsh := shifted_gives n d hu.1 hu.2.1
  have hup := hu.2.2
  have hend := srt_end hu.1 hn0 rfl rfl hup.1 hup.2.1 hup.2.2.2
  have hby := (sby_bds hu.1 hu.2.1).2.2
  rw [hmv] at hmay
  have hd128 := hup.2.1
  have hnd : 0 ≤ n % d := Int.emod_nonneg n (by omega)
  generalize n / d = Q at *
  generalize n % d = r at *
  have hM256 := pow_in (show 129 < 512 by omega)
  have h129 : (2 : Int) ^ 129 = 2 * 2 ^ 128 := by rw [Int.pow_succ]; omega
  have hfly := flynew_gives 0
  clear hu hn0 hn1 hd0 hd1 hmv
  generalize n * 2 ^ sby d = X at *
  generalize d * 2 ^ sby d = D at *
  generalize sby d = b at *
  have hst := fun kq kl (S : Nat → Prop) w0 w H R hR => srun_calls X D hup.1 hup.2.1 hup.2.2.1 hup.2.2.2 30 body_sdiv1 #[.pointer (some ⟨kq, 0, none⟩), .pointer (some ⟨kl, 0, none⟩)] (SQKeep X D kq kl) 65 (by omega) (fun j hj => sdiv1_step X D kq kl j _ hj) (fun h => by omega) S w0 w [(kl, limbs 8 0), (kq, two 0 (-1))] H R (sqk0 X D kq kl) hR
  have hin := sl_in hup.1 hup.2.1 (Nat.le_refl 65) (skept_all hup.1 hup.2.1 hup.2.2.1 hup.2.2.2 65 (Nat.le_refl 65))
  have hmi := minus_gives (sl X D 65)
  rw [minusv_in (by omega) hin.2] at hmi
  have had := add_gives (sl X D 65) D
  have Hst := Lib.hid hst
  clear hst hin
  obtain ⟨hneg', hpos', hl1, hl2⟩ := hend
  generalize hl : sl X D 65 = l at *
  generalize hq : sq X D 65 = q at *
  have Hl := Lib.hid hl
  have Hq := Lib.hid hq
  clear hl hq
  have hb512 : (0 : Int) ≤ (b : Int) ∧ (b : Int) ≤ 512 := by omega
  by_cases hneg : l < 0
  · obtain ⟨hQ, hr, hr0⟩ := hneg' hneg
    rw [decide_eq_true hneg] at hmi
    have hsr := shr_gives (l + D) b hr0 (by omega) hb512
    rw [show ((b : Nat) : Int).toNat = b by omega, hr] at hsr
    rw [hQ]
    have Hq1 := Lib.hid (show sq X D 65 - 1 = q - 1 by rw [Hq.out])
    clear hneg hneg' hpos' hr hQ hup hl1 hl2 hr0 hd128 hM256 h129 hnd
    generalize (!decide (r * 2 ^ b % M = (l + D) % M)) = lost at *
    generalize (decide (M ≤ l % M + D % M)) = over at *
    generalize l + D = s at *
    generalize q - 1 = q1 at *
    go_enter Tryd.func7, Tryd.ntmps7
    go_wp2_with (first | (refine w_box (H := []) hw rfl 24 _ rfl _ rfl ?_; clear hw; intro k1 w hw) | (refine w_box (H := [_]) hw rfl 24 _ rfl _ rfl ?_; clear hw; intro k2 w hw) | (refine ok_alloc (H := []) hw rfl 24 rfl _ zero_wide ?_; clear hw; intro k1 w hw) | (refine ok_alloc (H := [_]) hw rfl 24 rfl _ zero_wide ?_; clear hw; intro k2 w hw) | (refine ok_alloc (H := [_, _]) hw rfl 24 rfl _ zero_wide ?_; clear hw; intro k3 w hw) | (refine ok_alloc (H := [_, _, _]) hw rfl 24 rfl _ zero_wide ?_; clear hw; intro k4 w hw) | (refine ok_alloc (H := []) hw rfl 62 rfl _ zero_state ?_; clear hw; intro k1 w hw) | (refine ok_alloc (H := [_]) hw rfl 62 rfl _ zero_state ?_; clear hw; intro k2 w hw) | (refine ok_alloc (H := [_, _]) hw rfl 62 rfl _ zero_state ?_; clear hw; intro k3 w hw) | (refine ok_alloc (H := [_, _, _]) hw rfl 62 rfl _ zero_state ?_; clear hw; intro k4 w hw) | (refine ok_alloc (H := [_, _, _, _]) hw rfl 62 rfl _ zero_state ?_; clear hw; intro k5 w hw) | (refine ok_alloc (H := []) hw rfl 24 rfl _ zero_wide ?_; clear hw; intro k1 w hw) | (refine ok_alloc (H := [_]) hw rfl 24 rfl _ zero_wide ?_; clear hw; intro k2 w hw) | (refine ok_alloc (H := [_, _]) hw rfl 24 rfl _ zero_wide ?_; clear hw; intro k3 w hw) | (refine ok_alloc (H := [_, _, _]) hw rfl 24 rfl _ zero_wide ?_; clear hw; intro k4 w hw) | (refine ok_alloc (H := [_, _, _, _]) hw rfl 24 rfl _ zero_wide ?_; clear hw; intro k5 w hw) | (refine ok_alloc (H := [_, _, _, _, _]) hw rfl 24 rfl _ zero_wide ?_; clear hw; intro k6 w hw) | (refine w_load hw rfl 24 _ rfl _ rfl agg_wide _ (by first | (apply Has.own; (repeat (first | assumption | exact List.mem_cons_self | apply List.mem_cons_of_mem)); done) | (apply Has.read; (repeat (first | assumption | exact List.mem_cons_self | apply List.mem_cons_of_mem)); done)) ?_) | (refine ok_buildz rfl rfl ?_) | (refine w_store hw rfl 24 _ _ rfl _ rfl _ rfl agg_wide _ (by repeat (first | exact At.head _ | apply At.tail)) ?_; clear hw; intro w hw) | (refine ok_store hw rfl 62 _ _ rfl _ rfl _ rfl _ agg_state _ (by repeat (first | exact At.head _ | apply At.tail)) (by simp) (by simp) (ones_two _ _) ?_; clear hw; intro w hw) | (go_at_call 21; refine hmay.call0 hw ?_; clear hw; intro w hw) | (go_at_call 27; refine hsh.call0 hw ?_; clear hw; intro w hw) | (go_at_call 28; refine hfly.call0 hw ?_; clear hw; intro w hw))
    refine (Hst.out k5 k6 Non w0 _ [(k4, limbs 8 0), (k3, limbs 8 0), (k2, limbs 8 D), (k1, limbs 8 X)] TR (fun p hp => hp) hw).mono ?_
    rintro e w ⟨rfl, T', ⟨l0, rfl, hl0⟩, hw'⟩
    have hl1 := (hl0 (by omega)).trans Hl.out
    clear hl0
    subst hl1
    clear Hl
    clear hw
    rw [Hq1.out, Hq.out] at hw'
    have hw : Ok Non w0 w [(k6, limbs 8 l0), (k5, two q q1), (k4, limbs 8 0), (k3, limbs 8 0), (k2, limbs 8 D), (k1, limbs 8 X)] TR := hw'
    clear hw'
    go_wp2_with (first | (refine ok_alloc (H := []) hw rfl 24 rfl _ zero_wide ?_; clear hw; intro k1 w hw) | (refine ok_alloc (H := [_]) hw rfl 24 rfl _ zero_wide ?_; clear hw; intro k2 w hw) | (refine ok_alloc (H := [_, _]) hw rfl 24 rfl _ zero_wide ?_; clear hw; intro k3 w hw) | (refine ok_alloc (H := [_, _, _]) hw rfl 24 rfl _ zero_wide ?_; clear hw; intro k4 w hw) | (refine ok_alloc (H := [_, _, _, _]) hw rfl 24 rfl _ zero_wide ?_; clear hw; intro k5 w hw) | (refine ok_alloc (H := [_, _, _, _, _]) hw rfl 24 rfl _ zero_wide ?_; clear hw; intro k6 w hw) | (refine ok_alloc (H := [_, _, _, _, _, _]) hw rfl 24 rfl _ zero_wide ?_; clear hw; intro k7 w hw) | (refine w_load hw rfl 24 _ rfl _ rfl agg_wide _ (by first | (apply Has.own; (repeat (first | assumption | exact List.mem_cons_self | apply List.mem_cons_of_mem)); done) | (apply Has.read; (repeat (first | assumption | exact List.mem_cons_self | apply List.mem_cons_of_mem)); done)) ?_) | (refine w_store hw rfl 24 _ _ rfl _ rfl _ rfl agg_wide _ (by repeat (first | exact At.head _ | apply At.tail)) ?_; clear hw; intro w hw) | (refine two_load_fst hw rfl 24 _ rfl _ rfl agg_wide _ _ (by first | (apply Has.own; (repeat (first | assumption | exact List.mem_cons_self | apply List.mem_cons_of_mem)); done) | (apply Has.read; (repeat (first | assumption | exact List.mem_cons_self | apply List.mem_cons_of_mem)); done)) ?_) | (refine two_load_snd hw rfl 24 _ rfl _ rfl agg_wide _ _ (by first | (apply Has.own; (repeat (first | assumption | exact List.mem_cons_self | apply List.mem_cons_of_mem)); done) | (apply Has.read; (repeat (first | assumption | exact List.mem_cons_self | apply List.mem_cons_of_mem)); done)) ?_) | (go_at_call 32; refine hmi.call0 hw ?_; clear hw; intro w hw) | (go_at_call 33; refine had.call0 hw ?_; clear hw; intro w hw) | (go_at_call 34; refine hsr.call0 hw ?_; clear hw; intro w hw))
    try simp only [Act.put, List.setIfInBounds_toArray, List.set_cons_succ, List.set_cons_zero]
    refine wp_region_draws_D [⟨[(11, none)], none, false, false⟩, ⟨[(10, none)], none, true, false⟩] 53 (fun w => Ok Non w0 w [(k7, limbs 8 q1), (k6, limbs 8 r), (k5, two q q1), (k4, limbs 8 0), (k3, limbs 8 0), (k2, limbs 8 D), (k1, limbs 8 X)] TR) (DRows [(k6, limbs 8 r)]) (by kernel_rfl) rfl (by kernel_rfl) (hw.grow (below_drew' _)) (fun _ _ h hb => h.grow hb) (fun w hw => dRows hw (by simp only [List.forall_mem_cons, List.not_mem_nil, false_implies, implies_true, and_true]; (repeat' (refine And.intro ?_ ?_)); all_goals (first | (apply Has.own; (repeat (first | assumption | exact List.mem_cons_self | apply List.mem_cons_of_mem)); done) | (apply Has.read; (repeat (first | assumption | exact List.mem_cons_self | apply List.mem_cons_of_mem)); done)))) (fun _ _ _ _ h => h) ?_
    clear hw
    refine ⟨_, stable_is _, ask_run rfl rfl rfl (fun a w hw hk => run_load_w rfl (eval_of (known_old hk 11 (.head _) rfl)) agg_wide (hw.has (by first | (apply Has.own; (repeat (first | assumption | exact List.mem_cons_self | apply List.mem_cons_of_mem)); done) | (apply Has.read; (repeat (first | assumption | exact List.mem_cons_self | apply List.mem_cons_of_mem)); done)))), ?_⟩
    refine ⟨_, stable_is _, ask_late rfl (fun a w w' hw hk hd => run_load_w rfl (eval_of (known_old hk 10 (.head _) rfl)) agg_wide (dHas hd (by (repeat (first | assumption | exact List.mem_cons_self | apply List.mem_cons_of_mem))))), ?_⟩
    intro w hw
    rintro _ rfl
    rintro _ rfl
    change wpListD _ _ _ _ _ _ _
    simp only [List.length_cons, List.length_nil, Nat.reduceAdd, Nat.zero_add, List.drop_succ_cons, List.drop_zero, Act.put, List.setIfInBounds_toArray, List.set_cons_succ, List.set_cons_zero]
    refine wD_store hw rfl _ _ _ rfl _ rfl _ rfl agg_wide _ (by repeat (first | exact At.head _ | apply At.tail)) (fun w hw => (dRows hw (by simp only [List.forall_mem_cons, List.not_mem_nil, false_implies, implies_true, and_true]; (repeat' (refine And.intro ?_ ?_)); all_goals (first | (apply Has.own; (repeat (first | assumption | exact List.mem_cons_self | apply List.mem_cons_of_mem)); done) | (apply Has.read; (repeat (first | assumption | exact List.mem_cons_self | apply List.mem_cons_of_mem)); done))))) ?_; clear hw; intro w hw
    refine wD_store hw rfl _ _ _ rfl _ rfl _ rfl agg_wide _ (by repeat (first | exact At.head _ | apply At.tail)) (fun w hw => (dRows hw (by simp only [List.forall_mem_cons, List.not_mem_nil, false_implies, implies_true, and_true]; (repeat' (refine And.intro ?_ ?_)); all_goals (first | (apply Has.own; (repeat (first | assumption | exact List.mem_cons_self | apply List.mem_cons_of_mem)); done) | (apply Has.read; (repeat (first | assumption | exact List.mem_cons_self | apply List.mem_cons_of_mem)); done))))) ?_; clear hw; intro w hw
    refine wD_assign hw rfl _ rfl (dRows hw (by simp only [List.forall_mem_cons, List.not_mem_nil, false_implies, implies_true, and_true]; (repeat' (refine And.intro ?_ ?_)); all_goals (first | (apply Has.own; (repeat (first | assumption | exact List.mem_cons_self | apply List.mem_cons_of_mem)); done) | (apply Has.read; (repeat (first | assumption | exact List.mem_cons_self | apply List.mem_cons_of_mem)); done)))) ?_
    refine wD_end ?_
    go_wp2_with fail
    refine ret_cct rfl rfl rfl rfl agg_wide agg_wide (hw.rows _ (.tail _ (.tail _ (.tail _ (.tail _ (.head _)))))) (hw.rows _ (.tail _ (.tail _ (.tail _ (.head _))))) (by simp) (by simp) rfl ⟨rfl, hw.below⟩
  · obtain ⟨hQ, hr⟩ := hpos' hneg
    rw [decide_eq_false hneg] at hmi
    have hsr := shr_gives l b (by omega) (by omega) hb512
    rw [show ((b : Nat) : Int).toNat = b by omega, hr] at hsr
    rw [hQ]
    have Hq1 := Lib.hid (show sq X D 65 - 1 = q - 1 by rw [Hq.out])
    clear hneg hneg' hpos' hr hQ hup hl1 hl2 hd128 hM256 h129 hnd
    generalize (!decide (r * 2 ^ b % M = l % M)) = lost at *
    generalize q - 1 = q1 at *
    go_enter Tryd.func7, Tryd.ntmps7
    go_wp2_with (first | (refine w_box (H := []) hw rfl 24 _ rfl _ rfl ?_; clear hw; intro k1 w hw) | (refine w_box (H := [_]) hw rfl 24 _ rfl _ rfl ?_; clear hw; intro k2 w hw) | (refine ok_alloc (H := []) hw rfl 24 rfl _ zero_wide ?_; clear hw; intro k1 w hw) | (refine ok_alloc (H := [_]) hw rfl 24 rfl _ zero_wide ?_; clear hw; intro k2 w hw) | (refine ok_alloc (H := [_, _]) hw rfl 24 rfl _ zero_wide ?_; clear hw; intro k3 w hw) | (refine ok_alloc (H := [_, _, _]) hw rfl 24 rfl _ zero_wide ?_; clear hw; intro k4 w hw) | (refine ok_alloc (H := []) hw rfl 62 rfl _ zero_state ?_; clear hw; intro k1 w hw) | (refine ok_alloc (H := [_]) hw rfl 62 rfl _ zero_state ?_; clear hw; intro k2 w hw) | (refine ok_alloc (H := [_, _]) hw rfl 62 rfl _ zero_state ?_; clear hw; intro k3 w hw) | (refine ok_alloc (H := [_, _, _]) hw rfl 62 rfl _ zero_state ?_; clear hw; intro k4 w hw) | (refine ok_alloc (H := [_, _, _, _]) hw rfl 62 rfl _ zero_state ?_; clear hw; intro k5 w hw) | (refine ok_alloc (H := []) hw rfl 24 rfl _ zero_wide ?_; clear hw; intro k1 w hw) | (refine ok_alloc (H := [_]) hw rfl 24 rfl _ zero_wide ?_; clear hw; intro k2 w hw) | (refine ok_alloc (H := [_, _]) hw rfl 24 rfl _ zero_wide ?_; clear hw; intro k3 w hw) | (refine ok_alloc (H := [_, _, _]) hw rfl 24 rfl _ zero_wide ?_; clear hw; intro k4 w hw) | (refine ok_alloc (H := [_, _, _, _]) hw rfl 24 rfl _ zero_wide ?_; clear hw; intro k5 w hw) | (refine ok_alloc (H := [_, _, _, _, _]) hw rfl 24 rfl _ zero_wide ?_; clear hw; intro k6 w hw) | (refine w_load hw rfl 24 _ rfl _ rfl agg_wide _ (by first | (apply Has.own; (repeat (first | assumption | exact List.mem_cons_self | apply List.mem_cons_of_mem)); done) | (apply Has.read; (repeat (first | assumption | exact List.mem_cons_self | apply List.mem_cons_of_mem)); done)) ?_) | (refine ok_buildz rfl rfl ?_) | (refine w_store hw rfl 24 _ _ rfl _ rfl _ rfl agg_wide _ (by repeat (first | exact At.head _ | apply At.tail)) ?_; clear hw; intro w hw) | (refine ok_store hw rfl 62 _ _ rfl _ rfl _ rfl _ agg_state _ (by repeat (first | exact At.head _ | apply At.tail)) (by simp) (by simp) (ones_two _ _) ?_; clear hw; intro w hw) | (go_at_call 21; refine hmay.call0 hw ?_; clear hw; intro w hw) | (go_at_call 27; refine hsh.call0 hw ?_; clear hw; intro w hw) | (go_at_call 28; refine hfly.call0 hw ?_; clear hw; intro w hw))
    refine (Hst.out k5 k6 Non w0 _ [(k4, limbs 8 0), (k3, limbs 8 0), (k2, limbs 8 D), (k1, limbs 8 X)] TR (fun p hp => hp) hw).mono ?_
    rintro e w ⟨rfl, T', ⟨l0, rfl, hl0⟩, hw'⟩
    have hl1 := (hl0 (by omega)).trans Hl.out
    clear hl0
    subst hl1
    clear Hl
    clear hw
    rw [Hq1.out, Hq.out] at hw'
    have hw : Ok Non w0 w [(k6, limbs 8 l0), (k5, two q q1), (k4, limbs 8 0), (k3, limbs 8 0), (k2, limbs 8 D), (k1, limbs 8 X)] TR := hw'
    clear hw'
    go_wp2_with (first | (refine ok_alloc (H := []) hw rfl 24 rfl _ zero_wide ?_; clear hw; intro k1 w hw) | (refine ok_alloc (H := [_]) hw rfl 24 rfl _ zero_wide ?_; clear hw; intro k2 w hw) | (refine ok_alloc (H := [_, _]) hw rfl 24 rfl _ zero_wide ?_; clear hw; intro k3 w hw) | (refine ok_alloc (H := [_, _, _]) hw rfl 24 rfl _ zero_wide ?_; clear hw; intro k4 w hw) | (refine ok_alloc (H := [_, _, _, _]) hw rfl 24 rfl _ zero_wide ?_; clear hw; intro k5 w hw) | (refine ok_alloc (H := [_, _, _, _, _]) hw rfl 24 rfl _ zero_wide ?_; clear hw; intro k6 w hw) | (refine ok_alloc (H := [_, _, _, _, _, _]) hw rfl 24 rfl _ zero_wide ?_; clear hw; intro k7 w hw) | (refine w_load hw rfl 24 _ rfl _ rfl agg_wide _ (by first | (apply Has.own; (repeat (first | assumption | exact List.mem_cons_self | apply List.mem_cons_of_mem)); done) | (apply Has.read; (repeat (first | assumption | exact List.mem_cons_self | apply List.mem_cons_of_mem)); done)) ?_) | (refine w_store hw rfl 24 _ _ rfl _ rfl _ rfl agg_wide _ (by repeat (first | exact At.head _ | apply At.tail)) ?_; clear hw; intro w hw) | (refine two_load_fst hw rfl 24 _ rfl _ rfl agg_wide _ _ (by first | (apply Has.own; (repeat (first | assumption | exact List.mem_cons_self | apply List.mem_cons_of_mem)); done) | (apply Has.read; (repeat (first | assumption | exact List.mem_cons_self | apply List.mem_cons_of_mem)); done)) ?_) | (refine two_load_snd hw rfl 24 _ rfl _ rfl agg_wide _ _ (by first | (apply Has.own; (repeat (first | assumption | exact List.mem_cons_self | apply List.mem_cons_of_mem)); done) | (apply Has.read; (repeat (first | assumption | exact List.mem_cons_self | apply List.mem_cons_of_mem)); done)) ?_) | (go_at_call 32; refine hmi.call0 hw ?_; clear hw; intro w hw) | (go_at_call 33; refine had.call0 hw ?_; clear hw; intro w hw) | (go_at_call 34; refine hsr.call0 hw ?_; clear hw; intro w hw))
    try simp only [Act.put, List.setIfInBounds_toArray, List.set_cons_succ, List.set_cons_zero]
    refine wp_region_draws_D [⟨[(11, none)], none, false, false⟩, ⟨[(10, none)], none, true, false⟩] 53 (fun w => Ok Non w0 w [(k7, limbs 8 q), (k6, limbs 8 r), (k5, two q q1), (k4, limbs 8 0), (k3, limbs 8 0), (k2, limbs 8 D), (k1, limbs 8 X)] TR) (DRows [(k6, limbs 8 r)]) (by kernel_rfl) rfl (by kernel_rfl) (hw.grow (below_drew' _)) (fun _ _ h hb => h.grow hb) (fun w hw => dRows hw (by simp only [List.forall_mem_cons, List.not_mem_nil, false_implies, implies_true, and_true]; (repeat' (refine And.intro ?_ ?_)); all_goals (first | (apply Has.own; (repeat (first | assumption | exact List.mem_cons_self | apply List.mem_cons_of_mem)); done) | (apply Has.read; (repeat (first | assumption | exact List.mem_cons_self | apply List.mem_cons_of_mem)); done)))) (fun _ _ _ _ h => h) ?_
    clear hw
    refine ⟨_, stable_is _, ask_run rfl rfl rfl (fun a w hw hk => run_load_w rfl (eval_of (known_old hk 11 (.head _) rfl)) agg_wide (hw.has (by first | (apply Has.own; (repeat (first | assumption | exact List.mem_cons_self | apply List.mem_cons_of_mem)); done) | (apply Has.read; (repeat (first | assumption | exact List.mem_cons_self | apply List.mem_cons_of_mem)); done)))), ?_⟩
    refine ⟨_, stable_is _, ask_late rfl (fun a w w' hw hk hd => run_load_w rfl (eval_of (known_old hk 10 (.head _) rfl)) agg_wide (dHas hd (by (repeat (first | assumption | exact List.mem_cons_self | apply List.mem_cons_of_mem))))), ?_⟩
    intro w hw
    rintro _ rfl
    rintro _ rfl
    change wpListD _ _ _ _ _ _ _
    simp only [List.length_cons, List.length_nil, Nat.reduceAdd, Nat.zero_add, List.drop_succ_cons, List.drop_zero, Act.put, List.setIfInBounds_toArray, List.set_cons_succ, List.set_cons_zero]
    refine wD_store hw rfl _ _ _ rfl _ rfl _ rfl agg_wide _ (by repeat (first | exact At.head _ | apply At.tail)) (fun w hw => (dRows hw (by simp only [List.forall_mem_cons, List.not_mem_nil, false_implies, implies_true, and_true]; (repeat' (refine And.intro ?_ ?_)); all_goals (first | (apply Has.own; (repeat (first | assumption | exact List.mem_cons_self | apply List.mem_cons_of_mem)); done) | (apply Has.read; (repeat (first | assumption | exact List.mem_cons_self | apply List.mem_cons_of_mem)); done))))) ?_; clear hw; intro w hw
    refine wD_store hw rfl _ _ _ rfl _ rfl _ rfl agg_wide _ (by repeat (first | exact At.head _ | apply At.tail)) (fun w hw => (dRows hw (by simp only [List.forall_mem_cons, List.not_mem_nil, false_implies, implies_true, and_true]; (repeat' (refine And.intro ?_ ?_)); all_goals (first | (apply Has.own; (repeat (first | assumption | exact List.mem_cons_self | apply List.mem_cons_of_mem)); done) | (apply Has.read; (repeat (first | assumption | exact List.mem_cons_self | apply List.mem_cons_of_mem)); done))))) ?_; clear hw; intro w hw
    refine wD_assign hw rfl _ rfl (dRows hw (by simp only [List.forall_mem_cons, List.not_mem_nil, false_implies, implies_true, and_true]; (repeat' (refine And.intro ?_ ?_)); all_goals (first | (apply Has.own; (repeat (first | assumption | exact List.mem_cons_self | apply List.mem_cons_of_mem)); done) | (apply Has.read; (repeat (first | assumption | exact List.mem_cons_self | apply List.mem_cons_of_mem)); done)))) ?_
    refine wD_end ?_
    go_wp2_with fail
    refine ret_cct rfl rfl rfl rfl agg_wide agg_wide (hw.rows _ (.tail _ (.tail _ (.tail _ (.tail _ (.head _)))))) (hw.rows _ (.tail _ (.tail _ (.tail _ (.head _))))) (by simp) (by simp) rfl ⟨rfl, hw.below⟩
end Go.Proofs.YtcodmeljjphoeaaDoor
