/-
  Layer 16: roots, and the root so far.
-/
import Derived.Test.YtcodmeljjphoeaaProdD
import Derived.Test.YtcodmeljjphoeaaRootC
namespace Go.Proofs.Ytcodmeljjphoeaa
open Go.RowKit
set_option linter.unusedVariables false
set_option linter.unusedSimpArgs false

/-- s is the root of n. -/
def IsRoot (n s : Int) : Prop := 0 ≤ s ∧ s * s ≤ n ∧ n < (s + 1) * (s + 1)
theorem isRoot_unique {n s t : Int} (h : IsRoot n s) (h' : IsRoot n t) : s = t := by
  have a := sq_lt (a := s) (b := t + 1) (by have := h'.1; omega) (Int.lt_of_le_of_lt h.2.1 h'.2.2)
  have b := sq_lt (a := t) (b := s + 1) (by have := h.1; omega) (Int.lt_of_le_of_lt h'.2.1 h.2.2)
  omega
theorem near_root {N p : Int} (hp : 1 ≤ p) (h : Near N p 1) : IsRoot N (if N - p * p < 0 then p - 1 else p) := by
  have h1 := h.lo
  have h2 := h.hi
  split
  · rename_i hl
    refine ⟨by omega, ?_, ?_⟩
    · have : 9 * ((p - 1) * (p - 1)) ≤ (3 * p - 2 * 1) * (3 * p - 2 * 1) := by
        rw [show (3 * p - 2 * 1) * (3 * p - 2 * 1) = 9 * ((p - 1) * (p - 1)) + (6 * p - 5) by grind]; omega
      omega
    · rw [show p - 1 + 1 = p by omega]; omega
  · rename_i hl
    refine ⟨by omega, by omega, ?_⟩
    have : (3 * p + 2 * 1) * (3 * p + 2 * 1) < 9 * ((p + 1) * (p + 1)) := by
      rw [show 9 * ((p + 1) * (p + 1)) = (3 * p + 2 * 1) * (3 * p + 2 * 1) + (6 * p + 5) by grind]; omega
    omega
theorem root_down {n q : Int} (h : Nat) (hq : IsRoot (n * 2 ^ (2 * h)) q) : IsRoot n (q / 2 ^ h) := by
  have hp := pow_pos2 h
  have hpp : (2 : Int) ^ (2 * h) = 2 ^ h * 2 ^ h := by rw [← Int.pow_add]; congr 1; omega
  obtain ⟨h0, h1, h2⟩ := hq
  rw [hpp] at h1 h2
  have e := Int.emod_add_mul_ediv q (2 ^ h)
  have b0 := Int.emod_nonneg q (show (2 : Int) ^ h ≠ 0 by omega)
  have b1 := Int.emod_lt_of_pos q hp
  have s0 := Int.ediv_nonneg h0 (show 0 ≤ (2 : Int) ^ h by omega)
  generalize (2 : Int) ^ h = P at *
  generalize q / P = s at *
  have hP2 : 0 < P * P := Int.mul_pos hp hp
  refine ⟨s0, ?_, ?_⟩
  · have : (P * s) * (P * s) ≤ q * q := Int.mul_le_mul (by omega) (by omega) (Int.mul_nonneg (by omega) s0) h0
    rw [show (P * s) * (P * s) = (s * s) * (P * P) by grind] at this
    exact Int.le_of_mul_le_mul_right (Int.le_trans this h1) hP2
  · have : (q + 1) * (q + 1) ≤ (P * (s + 1)) * (P * (s + 1)) := by
      have hle : q + 1 ≤ P * (s + 1) := by rw [Int.mul_add]; omega
      exact Int.mul_le_mul hle hle (by omega) (by omega)
    rw [show (P * (s + 1)) * (P * (s + 1)) = ((s + 1) * (s + 1)) * (P * P) by grind] at this
    exact Int.lt_of_mul_lt_mul_right (Int.lt_of_lt_of_le h2 this) (by omega)

theorem body_root1 : HasBody Try.prog 81 := ⟨_, Try.func81, by kernel_rfl, by kernel_rfl⟩
def EKeep (N : Int) (ke j : Nat) (T : List (Nat × Array Value)) : Prop := ∃ p l, T = [(ke, two p l)] ∧ (0 < j → p = rp N j ∧ l = N - rp N j * rp N j)

set_option maxRecDepth 10000 in
theorem root1_step (N : Int) (ke j : Nat) : StepC 81 #[.pointer (some ⟨ke, 0, none⟩)] #[.int .i64 j, .int .i64 (rd N j), .agg (two (rp N (j + 1)) (N - rp N (j + 1) * rp N (j + 1)))] (EKeep N ke j) (EKeep N ke (j + 1)) true := by
  intro S w0 w T H R hI hw
  obtain ⟨p, l, rfl, _⟩ := hI
  obtain ⟨d, hd⟩ : ∃ d, d = rd N j := ⟨_, rfl⟩
  obtain ⟨p', hp⟩ : ∃ p, p = rp N (j + 1) := ⟨_, rfl⟩
  rw [← hd, ← hp]
  have Hp := Lib.hid hp
  clear hd hp
  obtain ⟨l', hl⟩ : ∃ l', l' = N - p' * p' := ⟨_, rfl⟩
  rw [← hl]
  have Hl := Lib.hid hl
  clear hl
  show Calls _ _ #[.int .i64 j, .int .i64 d, .agg (two p' l'), .pointer (some ⟨ke, 0, none⟩)] _ _
  simp only [List.cons_append, List.nil_append] at hw
  go_enter Try.func81, Try.ntmps81
  go_wp2_with (first | (refine ok_box (H := ((_ :: H))) hw rfl 65 _ rfl _ rfl ?_; clear hw; intro k1 w hw) | (refine ok_load hw rfl 65 _ rfl _ rfl _ agg_far _ (by first | (apply Has.own; (repeat (first | assumption | exact List.mem_cons_self | apply List.mem_cons_of_mem)); done) | (apply Has.read; (repeat (first | assumption | exact List.mem_cons_self | apply List.mem_cons_of_mem)); done)) (by simp) ?_) | (refine ok_store hw rfl 65 _ _ rfl _ rfl _ rfl _ agg_far _ (by repeat (first | exact At.head _ | apply At.tail)) (by simp) (by simp) (ones_two _ _) ?_; clear hw; intro w hw))
  go_ret
  refine ⟨rfl, [(ke, two p' l')], ⟨p', l', rfl, fun _ => ⟨Hp.out, ?_⟩⟩, hw.sub (List.Sublist.cons _ (List.Sublist.refl _)) (fun q h => h)⟩
  rw [Hl.out, Hp.out]

set_option maxRecDepth 100000 in
set_option maxHeartbeats 1000000 in
theorem root_none (n : Int) (h0 : 0 ≤ n) (h1 : n < M) (h : n = 0 ∨ 2 ^ 256 ≤ n) : Gives Try.prog 43 #[W n] [] (.tuple #[W 0, W 0, .int .i64 (rerr n)]) := by
  have hz := z256
  by_cases hn : n = 0
  · subst hn
    have hno := norm_none 0 h0 h1 (.inl rfl)
    have e2 : rerr 0 = 0 := by unfold rerr; rw [if_neg (by omega)]
    rw [e2]
    refine .mk fun w0 w hw => ?_
    go_enter Try.func43, Try.ntmps43
    go_wp2_with (first | (refine w_box (H := []) hw rfl 24 _ rfl _ rfl ?_; clear hw; intro k1 w hw) | (refine ok_alloc (H := []) hw rfl 24 rfl _ zero_wide ?_; clear hw; intro k1 w hw) | (refine ok_alloc (H := [_]) hw rfl 24 rfl _ zero_wide ?_; clear hw; intro k2 w hw) | (refine ok_alloc (H := []) hw rfl 24 rfl _ zero_wide ?_; clear hw; intro k1 w hw) | (refine ok_alloc (H := [_]) hw rfl 24 rfl _ zero_wide ?_; clear hw; intro k2 w hw) | (refine ok_alloc (H := [_, _]) hw rfl 24 rfl _ zero_wide ?_; clear hw; intro k3 w hw) | (refine ok_alloc (H := []) hw rfl 24 rfl _ zero_wide ?_; clear hw; intro k1 w hw) | (refine ok_alloc (H := [_]) hw rfl 24 rfl _ zero_wide ?_; clear hw; intro k2 w hw) | (refine ok_alloc (H := [_, _]) hw rfl 24 rfl _ zero_wide ?_; clear hw; intro k3 w hw) | (refine ok_alloc (H := [_, _, _]) hw rfl 24 rfl _ zero_wide ?_; clear hw; intro k4 w hw) | (refine w_load hw rfl 24 _ rfl _ rfl agg_wide _ (by first | (apply Has.own; (repeat (first | assumption | exact List.mem_cons_self | apply List.mem_cons_of_mem)); done) | (apply Has.read; (repeat (first | assumption | exact List.mem_cons_self | apply List.mem_cons_of_mem)); done)) ?_) | (refine ok_buildz rfl rfl ?_) | (refine w_store hw rfl 24 _ _ rfl _ rfl _ rfl agg_wide _ (by repeat (first | exact At.head _ | apply At.tail)) ?_; clear hw; intro w hw) | (refine w_eql rfl _ _ _ rfl _ _ rfl rfl ?_) | (go_at_call 16; refine hno.call0 hw ?_; clear hw; intro w hw))
    try simp only [Act.put, List.setIfInBounds_toArray, List.set_cons_succ, List.set_cons_zero]
    refine wp_region_draws_D [⟨[(1, none)], none, false, false⟩, ⟨[(1, none)], none, true, false⟩] 68 (fun w => Ok Non w0 w [(k4, limbs 8 0), (k3, limbs 8 0), (k2, limbs 8 0), (k1, limbs 8 0)] []) (DRows [(k1, limbs 8 0)]) (by kernel_rfl) rfl (by kernel_rfl) (hw.grow (below_drew' _)) (fun _ _ h hb => h.grow hb) (fun w hw => dRows hw (by simp only [List.forall_mem_cons, List.not_mem_nil, false_implies, implies_true, and_true]; (repeat' (refine And.intro ?_ ?_)); all_goals (first | (apply Has.own; (repeat (first | assumption | exact List.mem_cons_self | apply List.mem_cons_of_mem)); done) | (apply Has.read; (repeat (first | assumption | exact List.mem_cons_self | apply List.mem_cons_of_mem)); done)))) (fun _ _ _ _ h => h) ?_
    clear hw
    refine ⟨_, stable_is _, ask_run rfl rfl rfl (fun a w hw hk => run_load_w rfl (eval_of (known_old hk 1 (.head _) rfl)) agg_wide (hw.has (by first | (apply Has.own; (repeat (first | assumption | exact List.mem_cons_self | apply List.mem_cons_of_mem)); done) | (apply Has.read; (repeat (first | assumption | exact List.mem_cons_self | apply List.mem_cons_of_mem)); done)))), ?_⟩
    refine ⟨_, stable_is _, ask_late rfl (fun a w w' hw hk hd => run_load_w rfl (eval_of (known_old hk 1 (.head _) rfl)) agg_wide (dHas hd (by (repeat (first | assumption | exact List.mem_cons_self | apply List.mem_cons_of_mem))))), ?_⟩
    intro w hw
    rintro _ rfl
    rintro _ rfl
    change wpListD _ _ _ _ _ _ _
    simp only [List.length_cons, List.length_nil, Nat.reduceAdd, Nat.zero_add, List.drop_succ_cons, List.drop_zero, Act.put, List.setIfInBounds_toArray, List.set_cons_succ, List.set_cons_zero]
    refine wD_store hw rfl _ _ _ rfl _ rfl _ rfl agg_wide _ (by repeat (first | exact At.head _ | apply At.tail)) (fun w hw => (dRows hw (by simp only [List.forall_mem_cons, List.not_mem_nil, false_implies, implies_true, and_true]; (repeat' (refine And.intro ?_ ?_)); all_goals (first | (apply Has.own; (repeat (first | assumption | exact List.mem_cons_self | apply List.mem_cons_of_mem)); done) | (apply Has.read; (repeat (first | assumption | exact List.mem_cons_self | apply List.mem_cons_of_mem)); done))))) ?_; clear hw; intro w hw
    refine wD_store hw rfl _ _ _ rfl _ rfl _ rfl agg_wide _ (by repeat (first | exact At.head _ | apply At.tail)) (fun w hw => (dRows hw (by simp only [List.forall_mem_cons, List.not_mem_nil, false_implies, implies_true, and_true]; (repeat' (refine And.intro ?_ ?_)); all_goals (first | (apply Has.own; (repeat (first | assumption | exact List.mem_cons_self | apply List.mem_cons_of_mem)); done) | (apply Has.read; (repeat (first | assumption | exact List.mem_cons_self | apply List.mem_cons_of_mem)); done))))) ?_; clear hw; intro w hw
    refine wD_assign hw rfl _ rfl (dRows hw (by simp only [List.forall_mem_cons, List.not_mem_nil, false_implies, implies_true, and_true]; (repeat' (refine And.intro ?_ ?_)); all_goals (first | (apply Has.own; (repeat (first | assumption | exact List.mem_cons_self | apply List.mem_cons_of_mem)); done) | (apply Has.read; (repeat (first | assumption | exact List.mem_cons_self | apply List.mem_cons_of_mem)); done)))) ?_
    refine wD_end ?_
    go_wp2_with (first | (refine w_store hw rfl 24 _ _ rfl _ rfl _ rfl agg_wide _ (by repeat (first | exact At.head _ | apply At.tail)) ?_; clear hw; intro w hw))
    refine ret_cct rfl rfl rfl rfl agg_wide agg_wide (hw.rows _ (.tail _ (.tail _ (.head _)))) (hw.rows _ (.tail _ (.head _))) (by simp) (by simp) rfl ⟨rfl, hw.below⟩
  · have hcond : ¬ n % M = 0 := by rw [Int.emod_eq_of_lt h0 h1]; exact hn
    have hbig : 2 ^ 256 ≤ n := by omega
    have hno := norm_none n h0 h1 (.inr hbig)
    have e2 : rerr n = 4 := by unfold rerr; rw [if_pos hbig]
    rw [e2]
    refine .mk fun w0 w hw => ?_
    go_enter Try.func43, Try.ntmps43
    go_wp2_with (first | (refine w_box (H := []) hw rfl 24 _ rfl _ rfl ?_; clear hw; intro k1 w hw) | (refine ok_alloc (H := []) hw rfl 24 rfl _ zero_wide ?_; clear hw; intro k1 w hw) | (refine ok_alloc (H := [_]) hw rfl 24 rfl _ zero_wide ?_; clear hw; intro k2 w hw) | (refine ok_alloc (H := []) hw rfl 24 rfl _ zero_wide ?_; clear hw; intro k1 w hw) | (refine ok_alloc (H := [_]) hw rfl 24 rfl _ zero_wide ?_; clear hw; intro k2 w hw) | (refine ok_alloc (H := [_, _]) hw rfl 24 rfl _ zero_wide ?_; clear hw; intro k3 w hw) | (refine ok_alloc (H := []) hw rfl 24 rfl _ zero_wide ?_; clear hw; intro k1 w hw) | (refine ok_alloc (H := [_]) hw rfl 24 rfl _ zero_wide ?_; clear hw; intro k2 w hw) | (refine ok_alloc (H := [_, _]) hw rfl 24 rfl _ zero_wide ?_; clear hw; intro k3 w hw) | (refine ok_alloc (H := [_, _, _]) hw rfl 24 rfl _ zero_wide ?_; clear hw; intro k4 w hw) | (refine w_load hw rfl 24 _ rfl _ rfl agg_wide _ (by first | (apply Has.own; (repeat (first | assumption | exact List.mem_cons_self | apply List.mem_cons_of_mem)); done) | (apply Has.read; (repeat (first | assumption | exact List.mem_cons_self | apply List.mem_cons_of_mem)); done)) ?_) | (refine ok_buildz rfl rfl ?_) | (refine w_store hw rfl 24 _ _ rfl _ rfl _ rfl agg_wide _ (by repeat (first | exact At.head _ | apply At.tail)) ?_; clear hw; intro w hw) | (refine w_eql rfl _ _ _ rfl _ _ rfl rfl ?_) | (go_at_call 16; refine hno.call0 hw ?_; clear hw; intro w hw))
    refine ret_cct rfl rfl rfl rfl agg_wide agg_wide (hw.rows _ (.tail _ (.tail _ (.head _)))) (hw.rows _ (.tail _ (.head _))) (by simp) (by simp) rfl ⟨rfl, hw.below⟩

theorem two_store_fst {P : Program} {ops : Array Oper} {Q : Exit → Act → World → Prop} {rest : List Oper} {o : Oper} {a : Act} {S : Nat → Prop} {w0 w : World} {H R : List (Nat × Array Value)}
    (h : Ok S w0 w H R) (hgd : o.guard = none) (t : TypeId) (x y : Operand) (ho : o.op = .store t x y) (k : Nat) (hx : a.eval x = .pointer (some ⟨k, 0, none⟩)) (z : Int) (hy : a.eval y = W z) (hg : Agg P t 8) (u v : Int) {H' : List (Nat × Array Value)} (hm : At k (two u v) (two z v) H H')
    (hk : ∀ w', Ok S w0 w' H' R → wpList P ops Q rest (a.put o.dst undef) w') : wpList P ops Q (o :: rest) a w :=
  w_store_fst h hgd t x y ho k hx z hy hg u (limbs 8 v) hm hk

set_option maxRecDepth 100000 in
set_option maxHeartbeats 8000000 in
theorem root_some (n : Int) (h0 : 0 < n) (h1 : n < 2 ^ 256) : ∃ s, IsRoot n s ∧ Gives Try.prog 43 #[W n] [] (.tuple #[W s, W (n - s * s), .int .i64 0]) := by
  have hM : n < M := Int.lt_trans h1 (pow_in (by omega))
  obtain ⟨hN0, hN1⟩ := nup_bds h0 h1
  have hk := kept_all hN0 hN1 64 (by omega)
  have hnear := hk.near
  have hlo := hk.lo
  have hhi := hk.hi
  have hleft := left_in hN0 hN1 hk
  have hp127 := pow_pos2 127
  have hrt := near_root (by omega) hnear
  have hno := norm_gives n h0 h1
  obtain ⟨h, hh⟩ : ∃ h, nby n = 2 * h := ⟨(256 - blen n) / 2, by unfold nby; omega⟩
  have hh128 : h ≤ 128 := by unfold nby at hh; omega
  have hup : nup n = n * 2 ^ (2 * h) := by unfold nup; rw [hh]
  rw [hh, show ((2 * h : Nat) : Int) = 2 * (h : Int) by omega] at hno
  have hm := minus_gives (nup n - rp (nup n) 64 * rp (nup n) 64)
  rw [minusv_in hleft.1 hleft.2] at hm
  have hst := fun k (S : Nat → Prop) w0 w H R => run_calls (nup n) hN0 hN1 81 body_root1 #[.pointer (some ⟨k, 0, none⟩)] (EKeep (nup n) k) 64 (by omega) (fun j hj => root1_step (nup n) k j) (fun h => by omega) S w0 w [(k, two 0 0)] H R ⟨0, 0, rfl, fun h => by omega⟩
  have hpM : rp (nup n) 64 < M := Int.lt_of_le_of_lt hhi (pow_in (by omega))
  generalize hq : (if nup n - rp (nup n) 64 * rp (nup n) 64 < 0 then rp (nup n) 64 - 1 else rp (nup n) 64) = q at *
  have hq0 : 0 ≤ q ∧ q < M := by rw [← hq]; split <;> omega
  have hroot : IsRoot n (q / 2 ^ h) := by rw [hup] at hrt; exact root_down h hrt
  refine ⟨q / 2 ^ h, hroot, ?_⟩
  have hs0 := hroot.1
  have hs1 : q / 2 ^ h < M := Int.lt_of_le_of_lt (Int.ediv_le_self _ hq0.1) hq0.2
  have hshr := shr_gives q h hq0.1 hq0.2 (by omega)
  rw [show ((h : Int)).toNat = h from rfl] at hshr
  have hsq := square_gives (q / 2 ^ h) hs0 hs1
  have hsub := sub_gives n (q / 2 ^ h * (q / 2 ^ h))
  have hdec := sub_gives (rp (nup n) 64) 1
  have Hst := Lib.hid hst
  clear hst hup hh hrt hnear hk hroot hs0 hs1 hq0 hleft hlo hhi hpM hp127 hN0 hN1
  generalize (!decide (q / 2 ^ h * 2 ^ h % M = q % M)) = lost at *
  generalize q / 2 ^ h = s at *
  generalize decide (s * s < M) = fits at *
  generalize n - s * s = r at *
  generalize s * s = ss at *
  have hcond : ¬ n % M = 0 := by rw [Int.emod_eq_of_lt (by omega) hM]; omega
  refine .mk fun w0 w hw => ?_
  by_cases hneg : nup n - rp (nup n) 64 * rp (nup n) 64 < 0
  · rw [if_pos hneg] at hq
    rw [decide_eq_true hneg] at hm
    rw [hq] at hdec
    clear hneg hq
    generalize hN : nup n = N at *
    clear hN
    generalize hP : rp N 64 = p at *
    have HP := Lib.hid hP
    clear hP
    go_enter Try.func43, Try.ntmps43
    go_wp2_with (first | (refine w_box (H := []) hw rfl 24 _ rfl _ rfl ?_; clear hw; intro k1 w hw) | (refine ok_alloc (H := []) hw rfl 24 rfl _ zero_wide ?_; clear hw; intro k1 w hw) | (refine ok_alloc (H := [_]) hw rfl 24 rfl _ zero_wide ?_; clear hw; intro k2 w hw) | (refine ok_alloc (H := []) hw rfl 24 rfl _ zero_wide ?_; clear hw; intro k1 w hw) | (refine ok_alloc (H := [_]) hw rfl 24 rfl _ zero_wide ?_; clear hw; intro k2 w hw) | (refine ok_alloc (H := [_, _]) hw rfl 24 rfl _ zero_wide ?_; clear hw; intro k3 w hw) | (refine ok_alloc (H := []) hw rfl 24 rfl _ zero_wide ?_; clear hw; intro k1 w hw) | (refine ok_alloc (H := [_]) hw rfl 24 rfl _ zero_wide ?_; clear hw; intro k2 w hw) | (refine ok_alloc (H := [_, _]) hw rfl 24 rfl _ zero_wide ?_; clear hw; intro k3 w hw) | (refine ok_alloc (H := [_, _, _]) hw rfl 24 rfl _ zero_wide ?_; clear hw; intro k4 w hw) | (refine ok_alloc (H := []) hw rfl 65 rfl _ zero_far ?_; clear hw; intro k1 w hw) | (refine ok_alloc (H := [_]) hw rfl 65 rfl _ zero_far ?_; clear hw; intro k2 w hw) | (refine ok_alloc (H := [_, _]) hw rfl 65 rfl _ zero_far ?_; clear hw; intro k3 w hw) | (refine ok_alloc (H := [_, _, _]) hw rfl 65 rfl _ zero_far ?_; clear hw; intro k4 w hw) | (refine ok_alloc (H := [_, _, _, _]) hw rfl 65 rfl _ zero_far ?_; clear hw; intro k5 w hw) | (refine w_load hw rfl 24 _ rfl _ rfl agg_wide _ (by first | (apply Has.own; (repeat (first | assumption | exact List.mem_cons_self | apply List.mem_cons_of_mem)); done) | (apply Has.read; (repeat (first | assumption | exact List.mem_cons_self | apply List.mem_cons_of_mem)); done)) ?_) | (refine ok_buildz rfl rfl ?_) | (refine w_store hw rfl 24 _ _ rfl _ rfl _ rfl agg_wide _ (by repeat (first | exact At.head _ | apply At.tail)) ?_; clear hw; intro w hw) | (refine w_eql rfl _ _ _ rfl _ _ rfl rfl ?_) | (refine two_load_fst hw rfl 24 _ rfl _ rfl agg_wide _ _ (by first | (apply Has.own; (repeat (first | assumption | exact List.mem_cons_self | apply List.mem_cons_of_mem)); done) | (apply Has.read; (repeat (first | assumption | exact List.mem_cons_self | apply List.mem_cons_of_mem)); done)) ?_) | (refine two_load_snd hw rfl 24 _ rfl _ rfl agg_wide _ _ (by first | (apply Has.own; (repeat (first | assumption | exact List.mem_cons_self | apply List.mem_cons_of_mem)); done) | (apply Has.read; (repeat (first | assumption | exact List.mem_cons_self | apply List.mem_cons_of_mem)); done)) ?_) | (go_at_call 16; refine hno.call0 hw ?_; clear hw; intro w hw) | (go_at_call 40; refine (Hst.out k5 Non w0 _ _ _ hw).mono ?_; rintro e w ⟨rfl, T', ⟨p1, l1, rfl, hpl⟩, hw'⟩; clear hw; obtain ⟨hp1, hl1⟩ := hpl (by omega); rw [HP.out] at hp1 hl1; rw [hp1, hl1] at hw'; clear hpl hp1 hl1 p1 l1; have hw := hw'; clear hw'; simp only [List.cons_append, List.nil_append] at hw) | (go_at_call 82; refine hm.call0 hw ?_; clear hw; intro w hw))
    try simp only [Act.put, List.setIfInBounds_toArray, List.set_cons_succ, List.set_cons_zero]
    refine wp_region_draws [⟨[(8, none)], none, false, false⟩, ⟨[(39, some 0)], none, false, false⟩, ⟨[], none, false, true⟩, ⟨[(41, some 2)], none, false, false⟩, ⟨[(40, some 1), (42, some 3)], none, false, false⟩, ⟨[(43, some 4)], none, false, false⟩, ⟨[(38, some 5)], none, false, false⟩, ⟨[(38, some 5)], none, true, false⟩, ⟨[(8, none)], none, false, false⟩] 68 (fun w => Ok Non w0 w [(k5, two p (N - p * p)), (k4, limbs 8 N), (k3, limbs 8 0), (k2, limbs 8 0), (k1, limbs 8 n)] []) (by kernel_rfl) rfl (by kernel_rfl) (hw.grow (below_drew' _)) (fun _ _ h hb => h.grow hb) (fun _ _ _ _ h => h) ?_
    clear hw
    refine ⟨_, stable_is _, ask_run rfl rfl rfl (fun a w hw hk => by
      have e8 := known_old hk 8 (.head _) (by simp only [List.getElem?_toArray, List.getElem?_cons_zero, List.getElem?_cons_succ, Option.getD_some]; rfl)
      go_simp
      (first | with_reducible rfl | exact ⟨rfl, rfl⟩)), ?_⟩
    refine ⟨_, stable_is _, ask_run rfl rfl rfl (fun a w hw hk => run_load_fst rfl (eval_of (known_op hk 39 0 0 (.head _) rfl rfl)) agg_wide (hw.has (by first | (apply Has.own; (repeat (first | assumption | exact List.mem_cons_self | apply List.mem_cons_of_mem)); done) | (apply Has.read; (repeat (first | assumption | exact List.mem_cons_self | apply List.mem_cons_of_mem)); done)))), ?_⟩
    refine ⟨_, stable_slice _ _, ask_build1 rfl rfl rfl Try.underlying83 one_u64 zero_u64' (fun a w hw hk => rfl), ?_⟩
    refine ⟨_, stable_is _, ask_callr rfl rfl rfl (fun a w hw hk => by
      obtain ⟨k41, e41, b41⟩ := known_rel hk 41 2 0 (.head _) rfl rfl
      exact ⟨_, run_call1 rfl ⟨_, Try.func83, by kernel_rfl, by kernel_rfl⟩ (eval_of e41), (of1 1 _ (by omega) (by omega)) w (by simp; exact b41)⟩), ?_⟩
    refine ⟨_, stable_is _, ask_gives rfl rfl rfl (fun a w hw hk => run_call2 rfl ⟨_, Try.func60, by kernel_rfl, by kernel_rfl⟩ (eval_of (known_op hk 40 1 2 (.head _) rfl rfl)) (eval_of (known_op hk 42 3 0 (.tail _ (.head _)) rfl rfl)))
    hdec (fun w hw => by simp), ?_⟩
    refine ⟨_, stable_is _, ask_run rfl rfl rfl (fun a w hw hk => run_move rfl (eval_of (known_op hk 43 4 0 (.head _) rfl rfl))), ?_⟩
    refine ⟨_, stable_is _, ask_run rfl rfl rfl (fun a w hw hk => run_extract rfl (eval_of (known_op hk 38 5 0 (.head _) rfl rfl)) rfl), ?_⟩
    refine ⟨_, stable_is _, ask_late rfl (fun a w w' hw hk hd => run_extract rfl (eval_of (known_op hk 38 5 1 (.head _) rfl rfl)) rfl), ?_⟩
    refine ⟨_, stable_is _, ask_run rfl rfl rfl (fun a w hw hk => by
      have e8 := known_old hk 8 (.head _) (by simp only [List.getElem?_toArray, List.getElem?_cons_zero, List.getElem?_cons_succ, Option.getD_some]; rfl)
      go_simp
      (first | with_reducible rfl | exact ⟨rfl, rfl⟩)), ?_⟩
    intro w hw
    rintro _ rfl
    rintro _ rfl
    rintro _ ⟨m2, rfl, hm2⟩
    intro hn2
    rintro _ rfl
    rintro _ rfl
    rintro _ rfl
    rintro _ rfl
    rintro _ rfl
    rintro _ rfl
    change wpList _ _ _ _ _ _
    simp only [List.length_cons, List.length_nil, Nat.reduceAdd, Nat.zero_add, List.drop_succ_cons, List.drop_zero, Act.put, List.setIfInBounds_toArray, List.set_cons_succ, List.set_cons_zero]
    go_wp2_with (first | (refine ok_alloc (H := []) hw rfl 24 rfl _ zero_wide ?_; clear hw; intro k1 w hw) | (refine ok_alloc (H := [_]) hw rfl 24 rfl _ zero_wide ?_; clear hw; intro k2 w hw) | (refine ok_alloc (H := [_, _]) hw rfl 24 rfl _ zero_wide ?_; clear hw; intro k3 w hw) | (refine ok_alloc (H := [_, _, _]) hw rfl 24 rfl _ zero_wide ?_; clear hw; intro k4 w hw) | (refine ok_alloc (H := [_, _, _, _]) hw rfl 24 rfl _ zero_wide ?_; clear hw; intro k5 w hw) | (refine ok_alloc (H := [_, _, _, _, _]) hw rfl 24 rfl _ zero_wide ?_; clear hw; intro k6 w hw) | (refine ok_alloc (H := [_, _, _, _, _, _]) hw rfl 24 rfl _ zero_wide ?_; clear hw; intro k7 w hw) | (refine ok_alloc (H := [_, _, _, _, _, _, _]) hw rfl 24 rfl _ zero_wide ?_; clear hw; intro k8 w hw) | (refine w_load hw rfl 24 _ rfl _ rfl agg_wide _ (by first | (apply Has.own; (repeat (first | assumption | exact List.mem_cons_self | apply List.mem_cons_of_mem)); done) | (apply Has.read; (repeat (first | assumption | exact List.mem_cons_self | apply List.mem_cons_of_mem)); done)) ?_) | (refine w_store hw rfl 24 _ _ rfl _ rfl _ rfl agg_wide _ (by repeat (first | exact At.head _ | apply At.tail)) ?_; clear hw; intro w hw) | (refine two_load_fst hw rfl 24 _ rfl _ rfl agg_wide _ _ (by first | (apply Has.own; (repeat (first | assumption | exact List.mem_cons_self | apply List.mem_cons_of_mem)); done) | (apply Has.read; (repeat (first | assumption | exact List.mem_cons_self | apply List.mem_cons_of_mem)); done)) ?_) | (refine two_store_fst hw rfl 24 _ _ rfl _ rfl _ rfl agg_wide _ _ (by repeat (first | exact At.head _ | apply At.tail)) ?_; clear hw; intro w hw) | (go_at_call 57; refine hshr.call0 hw ?_; clear hw; intro w hw) | (go_at_call 59; refine hsq.call0 hw ?_; clear hw; intro w hw) | (go_at_call 60; refine hsub.call0 hw ?_; clear hw; intro w hw))
    try simp only [Act.put, List.setIfInBounds_toArray, List.set_cons_succ, List.set_cons_zero]
    refine wp_region_draws_D [⟨[(9, none)], none, false, false⟩, ⟨[(13, none)], none, true, false⟩] 68 (fun w => Ok Non w0 w [(k8, limbs 8 r), (k7, limbs 8 ss), (k6, limbs 8 s), (k5, two q (N - p * p)), (k4, limbs 8 N), (k3, limbs 8 0), (k2, limbs 8 0), (k1, limbs 8 n)] []) (DRows [(k8, limbs 8 r)]) (by kernel_rfl) rfl (by kernel_rfl) (hw.grow (below_drew' _)) (fun _ _ h hb => h.grow hb) (fun w hw => dRows hw (by simp only [List.forall_mem_cons, List.not_mem_nil, false_implies, implies_true, and_true]; (repeat' (refine And.intro ?_ ?_)); all_goals (first | (apply Has.own; (repeat (first | assumption | exact List.mem_cons_self | apply List.mem_cons_of_mem)); done) | (apply Has.read; (repeat (first | assumption | exact List.mem_cons_self | apply List.mem_cons_of_mem)); done)))) (fun _ _ _ _ h => h) ?_
    clear hw
    refine ⟨_, stable_is _, ask_run rfl rfl rfl (fun a w hw hk => run_load_w rfl (eval_of (known_old hk 9 (.head _) rfl)) agg_wide (hw.has (by first | (apply Has.own; (repeat (first | assumption | exact List.mem_cons_self | apply List.mem_cons_of_mem)); done) | (apply Has.read; (repeat (first | assumption | exact List.mem_cons_self | apply List.mem_cons_of_mem)); done)))), ?_⟩
    refine ⟨_, stable_is _, ask_late rfl (fun a w w' hw hk hd => run_load_w rfl (eval_of (known_old hk 13 (.head _) rfl)) agg_wide (dHas hd (by (repeat (first | assumption | exact List.mem_cons_self | apply List.mem_cons_of_mem))))), ?_⟩
    intro w hw
    rintro _ rfl
    rintro _ rfl
    change wpListD _ _ _ _ _ _ _
    simp only [List.length_cons, List.length_nil, Nat.reduceAdd, Nat.zero_add, List.drop_succ_cons, List.drop_zero, Act.put, List.setIfInBounds_toArray, List.set_cons_succ, List.set_cons_zero]
    refine wD_store hw rfl _ _ _ rfl _ rfl _ rfl agg_wide _ (by repeat (first | exact At.head _ | apply At.tail)) (fun w hw => (dRows hw (by simp only [List.forall_mem_cons, List.not_mem_nil, false_implies, implies_true, and_true]; (repeat' (refine And.intro ?_ ?_)); all_goals (first | (apply Has.own; (repeat (first | assumption | exact List.mem_cons_self | apply List.mem_cons_of_mem)); done) | (apply Has.read; (repeat (first | assumption | exact List.mem_cons_self | apply List.mem_cons_of_mem)); done))))) ?_; clear hw; intro w hw
    refine wD_store hw rfl _ _ _ rfl _ rfl _ rfl agg_wide _ (by repeat (first | exact At.head _ | apply At.tail)) (fun w hw => (dRows hw (by simp only [List.forall_mem_cons, List.not_mem_nil, false_implies, implies_true, and_true]; (repeat' (refine And.intro ?_ ?_)); all_goals (first | (apply Has.own; (repeat (first | assumption | exact List.mem_cons_self | apply List.mem_cons_of_mem)); done) | (apply Has.read; (repeat (first | assumption | exact List.mem_cons_self | apply List.mem_cons_of_mem)); done))))) ?_; clear hw; intro w hw
    refine wD_assign hw rfl _ rfl (dRows hw (by simp only [List.forall_mem_cons, List.not_mem_nil, false_implies, implies_true, and_true]; (repeat' (refine And.intro ?_ ?_)); all_goals (first | (apply Has.own; (repeat (first | assumption | exact List.mem_cons_self | apply List.mem_cons_of_mem)); done) | (apply Has.read; (repeat (first | assumption | exact List.mem_cons_self | apply List.mem_cons_of_mem)); done)))) ?_
    refine wD_end ?_
    go_wp2_with (first | (refine w_store hw rfl 24 _ _ rfl _ rfl _ rfl agg_wide _ (by repeat (first | exact At.head _ | apply At.tail)) ?_; clear hw; intro w hw))
    refine ret_cct rfl rfl rfl rfl agg_wide agg_wide (hw.rows _ (.tail _ (.tail _ (.tail _ (.tail _ (.tail _ (.tail _ (.head _)))))))) (hw.rows _ (.tail _ (.tail _ (.tail _ (.tail _ (.tail _ (.head _))))))) (by simp) (by simp) rfl ⟨rfl, hw.below⟩
  · rw [if_neg hneg] at hq
    rw [decide_eq_false hneg] at hm
    clear hneg hdec
    generalize hN : nup n = N at *
    clear hN
    generalize hP : rp N 64 = p at *
    have HP := Lib.hid hP
    clear hP
    subst hq
    go_enter Try.func43, Try.ntmps43
    go_wp2_with (first | (refine w_box (H := []) hw rfl 24 _ rfl _ rfl ?_; clear hw; intro k1 w hw) | (refine ok_alloc (H := []) hw rfl 24 rfl _ zero_wide ?_; clear hw; intro k1 w hw) | (refine ok_alloc (H := [_]) hw rfl 24 rfl _ zero_wide ?_; clear hw; intro k2 w hw) | (refine ok_alloc (H := []) hw rfl 24 rfl _ zero_wide ?_; clear hw; intro k1 w hw) | (refine ok_alloc (H := [_]) hw rfl 24 rfl _ zero_wide ?_; clear hw; intro k2 w hw) | (refine ok_alloc (H := [_, _]) hw rfl 24 rfl _ zero_wide ?_; clear hw; intro k3 w hw) | (refine ok_alloc (H := []) hw rfl 24 rfl _ zero_wide ?_; clear hw; intro k1 w hw) | (refine ok_alloc (H := [_]) hw rfl 24 rfl _ zero_wide ?_; clear hw; intro k2 w hw) | (refine ok_alloc (H := [_, _]) hw rfl 24 rfl _ zero_wide ?_; clear hw; intro k3 w hw) | (refine ok_alloc (H := [_, _, _]) hw rfl 24 rfl _ zero_wide ?_; clear hw; intro k4 w hw) | (refine ok_alloc (H := []) hw rfl 65 rfl _ zero_far ?_; clear hw; intro k1 w hw) | (refine ok_alloc (H := [_]) hw rfl 65 rfl _ zero_far ?_; clear hw; intro k2 w hw) | (refine ok_alloc (H := [_, _]) hw rfl 65 rfl _ zero_far ?_; clear hw; intro k3 w hw) | (refine ok_alloc (H := [_, _, _]) hw rfl 65 rfl _ zero_far ?_; clear hw; intro k4 w hw) | (refine ok_alloc (H := [_, _, _, _]) hw rfl 65 rfl _ zero_far ?_; clear hw; intro k5 w hw) | (refine w_load hw rfl 24 _ rfl _ rfl agg_wide _ (by first | (apply Has.own; (repeat (first | assumption | exact List.mem_cons_self | apply List.mem_cons_of_mem)); done) | (apply Has.read; (repeat (first | assumption | exact List.mem_cons_self | apply List.mem_cons_of_mem)); done)) ?_) | (refine ok_buildz rfl rfl ?_) | (refine w_store hw rfl 24 _ _ rfl _ rfl _ rfl agg_wide _ (by repeat (first | exact At.head _ | apply At.tail)) ?_; clear hw; intro w hw) | (refine w_eql rfl _ _ _ rfl _ _ rfl rfl ?_) | (refine two_load_fst hw rfl 24 _ rfl _ rfl agg_wide _ _ (by first | (apply Has.own; (repeat (first | assumption | exact List.mem_cons_self | apply List.mem_cons_of_mem)); done) | (apply Has.read; (repeat (first | assumption | exact List.mem_cons_self | apply List.mem_cons_of_mem)); done)) ?_) | (refine two_load_snd hw rfl 24 _ rfl _ rfl agg_wide _ _ (by first | (apply Has.own; (repeat (first | assumption | exact List.mem_cons_self | apply List.mem_cons_of_mem)); done) | (apply Has.read; (repeat (first | assumption | exact List.mem_cons_self | apply List.mem_cons_of_mem)); done)) ?_) | (go_at_call 16; refine hno.call0 hw ?_; clear hw; intro w hw) | (go_at_call 40; refine (Hst.out k5 Non w0 _ _ _ hw).mono ?_; rintro e w ⟨rfl, T', ⟨p1, l1, rfl, hpl⟩, hw'⟩; clear hw; obtain ⟨hp1, hl1⟩ := hpl (by omega); rw [HP.out] at hp1 hl1; rw [hp1, hl1] at hw'; clear hpl hp1 hl1 p1 l1; have hw := hw'; clear hw'; simp only [List.cons_append, List.nil_append] at hw) | (go_at_call 82; refine hm.call0 hw ?_; clear hw; intro w hw))
    go_wp2_with (first | (refine ok_alloc (H := []) hw rfl 24 rfl _ zero_wide ?_; clear hw; intro k1 w hw) | (refine ok_alloc (H := [_]) hw rfl 24 rfl _ zero_wide ?_; clear hw; intro k2 w hw) | (refine ok_alloc (H := [_, _]) hw rfl 24 rfl _ zero_wide ?_; clear hw; intro k3 w hw) | (refine ok_alloc (H := [_, _, _]) hw rfl 24 rfl _ zero_wide ?_; clear hw; intro k4 w hw) | (refine ok_alloc (H := [_, _, _, _]) hw rfl 24 rfl _ zero_wide ?_; clear hw; intro k5 w hw) | (refine ok_alloc (H := [_, _, _, _, _]) hw rfl 24 rfl _ zero_wide ?_; clear hw; intro k6 w hw) | (refine ok_alloc (H := [_, _, _, _, _, _]) hw rfl 24 rfl _ zero_wide ?_; clear hw; intro k7 w hw) | (refine ok_alloc (H := [_, _, _, _, _, _, _]) hw rfl 24 rfl _ zero_wide ?_; clear hw; intro k8 w hw) | (refine w_load hw rfl 24 _ rfl _ rfl agg_wide _ (by first | (apply Has.own; (repeat (first | assumption | exact List.mem_cons_self | apply List.mem_cons_of_mem)); done) | (apply Has.read; (repeat (first | assumption | exact List.mem_cons_self | apply List.mem_cons_of_mem)); done)) ?_) | (refine w_store hw rfl 24 _ _ rfl _ rfl _ rfl agg_wide _ (by repeat (first | exact At.head _ | apply At.tail)) ?_; clear hw; intro w hw) | (refine two_load_fst hw rfl 24 _ rfl _ rfl agg_wide _ _ (by first | (apply Has.own; (repeat (first | assumption | exact List.mem_cons_self | apply List.mem_cons_of_mem)); done) | (apply Has.read; (repeat (first | assumption | exact List.mem_cons_self | apply List.mem_cons_of_mem)); done)) ?_) | (refine two_store_fst hw rfl 24 _ _ rfl _ rfl _ rfl agg_wide _ _ (by repeat (first | exact At.head _ | apply At.tail)) ?_; clear hw; intro w hw) | (go_at_call 57; refine hshr.call0 hw ?_; clear hw; intro w hw) | (go_at_call 59; refine hsq.call0 hw ?_; clear hw; intro w hw) | (go_at_call 60; refine hsub.call0 hw ?_; clear hw; intro w hw))
    try simp only [Act.put, List.setIfInBounds_toArray, List.set_cons_succ, List.set_cons_zero]
    refine wp_region_draws_D [⟨[(9, none)], none, false, false⟩, ⟨[(13, none)], none, true, false⟩] 68 (fun w => Ok Non w0 w [(k8, limbs 8 r), (k7, limbs 8 ss), (k6, limbs 8 s), (k5, two p (N - p * p)), (k4, limbs 8 N), (k3, limbs 8 0), (k2, limbs 8 0), (k1, limbs 8 n)] []) (DRows [(k8, limbs 8 r)]) (by kernel_rfl) rfl (by kernel_rfl) (hw.grow (below_drew' _)) (fun _ _ h hb => h.grow hb) (fun w hw => dRows hw (by simp only [List.forall_mem_cons, List.not_mem_nil, false_implies, implies_true, and_true]; (repeat' (refine And.intro ?_ ?_)); all_goals (first | (apply Has.own; (repeat (first | assumption | exact List.mem_cons_self | apply List.mem_cons_of_mem)); done) | (apply Has.read; (repeat (first | assumption | exact List.mem_cons_self | apply List.mem_cons_of_mem)); done)))) (fun _ _ _ _ h => h) ?_
    clear hw
    refine ⟨_, stable_is _, ask_run rfl rfl rfl (fun a w hw hk => run_load_w rfl (eval_of (known_old hk 9 (.head _) rfl)) agg_wide (hw.has (by first | (apply Has.own; (repeat (first | assumption | exact List.mem_cons_self | apply List.mem_cons_of_mem)); done) | (apply Has.read; (repeat (first | assumption | exact List.mem_cons_self | apply List.mem_cons_of_mem)); done)))), ?_⟩
    refine ⟨_, stable_is _, ask_late rfl (fun a w w' hw hk hd => run_load_w rfl (eval_of (known_old hk 13 (.head _) rfl)) agg_wide (dHas hd (by (repeat (first | assumption | exact List.mem_cons_self | apply List.mem_cons_of_mem))))), ?_⟩
    intro w hw
    rintro _ rfl
    rintro _ rfl
    change wpListD _ _ _ _ _ _ _
    simp only [List.length_cons, List.length_nil, Nat.reduceAdd, Nat.zero_add, List.drop_succ_cons, List.drop_zero, Act.put, List.setIfInBounds_toArray, List.set_cons_succ, List.set_cons_zero]
    refine wD_store hw rfl _ _ _ rfl _ rfl _ rfl agg_wide _ (by repeat (first | exact At.head _ | apply At.tail)) (fun w hw => (dRows hw (by simp only [List.forall_mem_cons, List.not_mem_nil, false_implies, implies_true, and_true]; (repeat' (refine And.intro ?_ ?_)); all_goals (first | (apply Has.own; (repeat (first | assumption | exact List.mem_cons_self | apply List.mem_cons_of_mem)); done) | (apply Has.read; (repeat (first | assumption | exact List.mem_cons_self | apply List.mem_cons_of_mem)); done))))) ?_; clear hw; intro w hw
    refine wD_store hw rfl _ _ _ rfl _ rfl _ rfl agg_wide _ (by repeat (first | exact At.head _ | apply At.tail)) (fun w hw => (dRows hw (by simp only [List.forall_mem_cons, List.not_mem_nil, false_implies, implies_true, and_true]; (repeat' (refine And.intro ?_ ?_)); all_goals (first | (apply Has.own; (repeat (first | assumption | exact List.mem_cons_self | apply List.mem_cons_of_mem)); done) | (apply Has.read; (repeat (first | assumption | exact List.mem_cons_self | apply List.mem_cons_of_mem)); done))))) ?_; clear hw; intro w hw
    refine wD_assign hw rfl _ rfl (dRows hw (by simp only [List.forall_mem_cons, List.not_mem_nil, false_implies, implies_true, and_true]; (repeat' (refine And.intro ?_ ?_)); all_goals (first | (apply Has.own; (repeat (first | assumption | exact List.mem_cons_self | apply List.mem_cons_of_mem)); done) | (apply Has.read; (repeat (first | assumption | exact List.mem_cons_self | apply List.mem_cons_of_mem)); done)))) ?_
    refine wD_end ?_
    go_wp2_with (first | (refine w_store hw rfl 24 _ _ rfl _ rfl _ rfl agg_wide _ (by repeat (first | exact At.head _ | apply At.tail)) ?_; clear hw; intro w hw))
    refine ret_cct rfl rfl rfl rfl agg_wide agg_wide (hw.rows _ (.tail _ (.tail _ (.tail _ (.tail _ (.tail _ (.tail _ (.head _)))))))) (hw.rows _ (.tail _ (.tail _ (.tail _ (.tail _ (.tail _ (.head _))))))) (by simp) (by simp) rfl ⟨rfl, hw.below⟩
end Go.Proofs.Ytcodmeljjphoeaa
