/-
  Layers 1 and 2: single digits, what is below, signs, shifts down.
-/
import Derived.Test.YtcodmeljjphoeaaDoorWideC
import Derived.Test.YtcodmeljjphoeaaDoorEq
namespace Go.Proofs.YtcodmeljjphoeaaDoor
open Go.RowKit
set_option exponentiation.threshold 600
set_option linter.unusedVariables false
set_option linter.unusedSimpArgs false

/-- A limb of a list of n; 0 beyond. -/
def latv (z : Int) (n : Nat) (i : Int) : Int := if i < 0 ∨ (n : Int) ≤ i then 0 else lim z i.toNat
theorem latv_in (z : Int) (n i : Nat) (h : i < n) : latv z n i = lim z i := by
  unfold latv; rw [if_neg (by omega)]; rfl
theorem latv_out (z : Int) (n : Nat) (i : Int) (h : i < 0 ∨ (n : Int) ≤ i) : latv z n i = 0 := by
  unfold latv; rw [if_pos h]
theorem latv_bd (z : Int) (n : Nat) (i : Int) : 0 ≤ latv z n i ∧ latv z n i < 18446744073709551616 := by
  unfold latv; split
  · omega
  · exact lim_bd _ _

/-- From cell o on a row's n cells are the limbs of z. -/
def Part (cs : Array Value) (o n : Nat) (z : Int) : Prop := ∀ i, i < n → cs[o + i]? = some (.int .u64 (lim z i))
theorem part_limbs {m n : Nat} (z : Int) (h : n ≤ m) : Part (limbs m z) 0 n z := fun i hi => by rw [Nat.zero_add]; exact limbs_get z (by omega)
theorem part_off {m o n : Nat} (z : Int) (h : o + n ≤ m) : Part (limbs m z) o n (z / 2 ^ (64 * o)) := fun i hi => by
  rw [limbs_get z (by omega)]
  congr 2
  rw [lim_pow, lim_pow, ediv_pow]; congr 2; congr 1; omega

theorem limbatP (z : Int) (cs : Array Value) (o n c k : Nat) (i : Int) (hp : Part cs o n z) : Gives Tryd.prog 90 #[.slice (some ⟨k, o, none⟩) n c, .int .i64 i] [(k, cs)] (.int .u64 (latv z n i)) := by
  refine .mk fun w0 w hw => ?_
  by_cases h : i < 0
  · rw [latv_out z n i (.inl h)]
    go_enter Tryd.func90, Tryd.ntmps90
    go_wp2
    go_ret
    exact ⟨rfl, hw.below⟩
  · by_cases h2 : (n : Int) ≤ i
    · rw [latv_out z n i (.inr h2)]
      go_enter Tryd.func90, Tryd.ntmps90
      go_wp2
      go_ret
      exact ⟨rfl, hw.below⟩
    · rw [show latv z n i = lim z i.toNat by unfold latv; rw [if_neg (by omega)]]
      go_enter Tryd.func90, Tryd.ntmps90
      go_wp2_with (first
        | (refine ok_load_cell hw rfl 22 _ rfl _ _ rfl one_u64 _ (Has.read (.head _)) _ (hp i.toNat (by omega)) ?_))
      go_ret
      exact ⟨rfl, hw.below⟩
theorem limbat_gives (z : Int) (m n c k : Nat) (i : Int) (hn : n ≤ m) : Gives Tryd.prog 90 #[.slice (some ⟨k, 0, none⟩) n c, .int .i64 i] [(k, limbs m z)] (.int .u64 (latv z n i)) :=
  limbatP z _ 0 n c k i (part_limbs z hn)

theorem and_one (x : Int) (h : 0 ≤ x) (h1 : x < 18446744073709551616) : bits .and .u64 x 1 = x % 2 := by
  obtain ⟨a, rfl⟩ := Int.eq_ofNat_of_zero_le h
  have h2 := bits_and_u64_nat a 1 (by omega) (by omega)
  have e : a &&& 1 = a % 2 := Nat.and_two_pow_sub_one_eq_mod a 1
  rw [e] at h2
  exact h2

theorem lim_bit (z : Int) (i : Nat) : lim z (i / 64) / 2 ^ (i % 64) % 2 = z / 2 ^ i % 2 := by
  rw [lim_pow]
  have e : (2 : Int) ^ 64 = 2 ^ (i % 64) * 2 ^ (64 - i % 64) := by rw [← Int.pow_add]; congr 1; omega
  have e2 : z / 2 ^ i = z / 2 ^ (64 * (i / 64)) / 2 ^ (i % 64) := by rw [ediv_pow]; congr 2; omega
  rw [e2, e]
  generalize z / 2 ^ (64 * (i / 64)) = y
  have hp := pow_pos2 (i % 64)
  rw [emod_mul' y _ _ hp (pow_pos2 _), Int.add_mul_ediv_right _ _ (by omega), Int.ediv_eq_zero_of_lt (Int.emod_nonneg _ (by omega)) (Int.emod_lt_of_pos _ hp), Int.zero_add]
  exact Int.emod_emod_of_dvd _ ⟨2 ^ (63 - i % 64), by rw [show 64 - i % 64 = (63 - i % 64) + 1 by omega, Int.pow_succ]; omega⟩

set_option maxRecDepth 10000 in
set_option maxHeartbeats 400000 in
theorem down_gives (z b c : Int) (hc : 0 ≤ c ∧ c ≤ 512) (hb0 : 0 ≤ b) (hb1 : b < 18446744073709551616) (hb : ∀ j, 8 ≤ j → lim z j = b) : Gives Tryd.prog 69 #[W z, .int .i64 c, .int .u64 b] [] (W (z / 2 ^ c.toNat)) := by
  refine .mk fun w0 w hw => ?_
  have Hb := Lib.hid hb
  clear hb
  go_enter Tryd.func69, Tryd.ntmps69
  have hq : c / 64 = ((c / 64).toNat : Int) := by omega
  have hr : c % 64 = ((c % 64).toNat : Int) := by omega
  have e : c.toNat = 64 * (c / 64).toNat + (c % 64).toNat := by omega
  have hq8 : (c / 64).toNat ≤ 8 := by omega
  have hr64 : (c % 64).toNat < 64 := by omega
  rw [e]
  generalize hQ : (c / 64).toNat = q at *
  generalize hR : (c % 64).toNat = r at *
  go_wp2_with (first | (refine w_box (H := []) hw rfl 24 _ rfl _ rfl ?_; clear hw; intro k1 w hw) | (refine w_box (H := [_]) hw rfl 24 _ rfl _ rfl ?_; clear hw; intro k2 w hw) | (refine int_box (H := []) hw rfl 22 _ rfl _ _ rfl ?_; clear hw; intro k1 w hw) | (refine int_box (H := [_]) hw rfl 22 _ rfl _ _ rfl ?_; clear hw; intro k2 w hw) | (refine ok_alloc (H := []) hw rfl 24 rfl _ zero_wide ?_; clear hw; intro k1 w hw) | (refine ok_alloc (H := [_]) hw rfl 24 rfl _ zero_wide ?_; clear hw; intro k2 w hw) | (refine ok_alloc (H := [_, _]) hw rfl 24 rfl _ zero_wide ?_; clear hw; intro k3 w hw) | (refine w_store hw rfl 24 _ _ rfl _ rfl _ rfl agg_wide _ (by repeat (first | exact At.head _ | apply At.tail)) ?_; clear hw; intro w hw) | (go_at_call 74; refine (made_gives (z / 2 ^ (64 * q + r)) _ _ [(k1, limbs 8 z), (w.heap.size, #[.int .i64 q]), (k2, #[.int .u64 b]), (w.heap.size + 1, #[.int .i64 r])] body_down1 (fun i hi => by simpa using down1_gives z b i q r k1 w.heap.size k2 (w.heap.size + 1) hi hq8 hr64 hb0 hb1 Hb.out)).call (hw.new2 _ _ _ _) (by simp only [List.forall_mem_cons, List.not_mem_nil, false_implies, implies_true, and_true]; (repeat' (refine And.intro ?_ ?_)); all_goals (first | (refine Has.own ?_; (repeat (first | assumption | exact List.mem_cons_self | apply List.mem_cons_of_mem)); done) | (refine Has.read ?_; (repeat (first | assumption | exact List.mem_cons_self | apply List.mem_cons_of_mem)); done))) ?_; clear hw; intro w hw))
  refine ret_c rfl rfl agg_wide (hw.rows _ (.tail _ (.tail _ (.head _)))) (by simp) rfl ⟨rfl, hw.below⟩

theorem lim_high0 {z : Int} (h0 : 0 ≤ z) (h1 : z < M) (j : Nat) (hj : 8 ≤ j) : lim z j = 0 := by
  unfold lim
  rw [Int.ediv_eq_zero_of_lt h0 (Int.lt_of_lt_of_le h1 (pow_mono2 (by omega)))]
  rfl
theorem lim_highm {z : Int} (h0 : -M ≤ z) (h1 : z < 0) (j : Nat) (hj : 8 ≤ j) : lim z j = 18446744073709551615 := by
  unfold lim
  have hp := pow_pos2 (64 * j)
  have : z / 2 ^ (64 * j) = -1 := by
    have hm : M ≤ 2 ^ (64 * j) := pow_mono2 (by omega)
    have e := Int.add_mul_ediv_right (z + 2 ^ (64 * j)) (-1) (show (2 : Int) ^ (64 * j) ≠ 0 by omega)
    rw [Int.ediv_eq_zero_of_lt (a := z + 2 ^ (64 * j)) (by omega) (by omega)] at e
    rw [show z + 2 ^ (64 * j) + -1 * 2 ^ (64 * j) = z by omega] at e
    omega
  rw [this]; rfl

theorem clampv_toNat {n : Int} (h : 0 ≤ n ∧ n ≤ 512) : (clampv n).toNat = n.toNat := by rw [clampv_in h]

set_option maxRecDepth 100000 in
set_option maxHeartbeats 400000 in
theorem shr_gives (z n : Int) (h0 : 0 ≤ z) (h1 : z < M) (hn : 0 ≤ n ∧ n ≤ 512) :
    Gives Tryd.prog 34 #[W z, .int .i64 n] [] (.tuple #[W (z / 2 ^ n.toNat), .bool (!decide (z / 2 ^ n.toNat * 2 ^ n.toNat % M = z % M))]) := by
  refine .mk fun w0 w hw => ?_
  have hcl := clamp_gives n
  rw [clampv_in hn] at hcl
  have hdn := down_gives z 0 n hn (by omega) (by omega) (lim_high0 h0 h1)
  have hsh := shl_gives (z / 2 ^ n.toNat) n
  rw [clampv_in hn] at hsh
  go_enter Tryd.func34, Tryd.ntmps34
  go_wp2_with (first | (refine w_box (H := []) hw rfl 24 _ rfl _ rfl ?_; clear hw; intro k1 w hw) | (refine ok_alloc (H := []) hw rfl 24 rfl _ zero_wide ?_; clear hw; intro k1 w hw) | (refine ok_alloc (H := [_]) hw rfl 24 rfl _ zero_wide ?_; clear hw; intro k2 w hw) | (refine ok_alloc (H := [_, _]) hw rfl 24 rfl _ zero_wide ?_; clear hw; intro k3 w hw) | (refine w_load hw rfl 24 _ rfl _ rfl agg_wide _ (by first | (apply Has.own; (repeat (first | assumption | exact List.mem_cons_self | apply List.mem_cons_of_mem)); done) | (apply Has.read; (repeat (first | assumption | exact List.mem_cons_self | apply List.mem_cons_of_mem)); done)) ?_) | (refine w_store hw rfl 24 _ _ rfl _ rfl _ rfl agg_wide _ (by repeat (first | exact At.head _ | apply At.tail)) ?_; clear hw; intro w hw) | (go_at_call 68; refine hcl.call0 hw ?_; clear hw; intro w hw) | (go_at_call 69; refine hdn.call0 hw ?_; clear hw; intro w hw))
  try simp only [Act.put, List.setIfInBounds_toArray, List.set_cons_succ, List.set_cons_zero]
  refine wp_region_draws_D [⟨[(6, none)], none, false, false⟩, ⟨[(6, none)], none, false, false⟩, ⟨[(1, none)], none, false, false⟩, ⟨[(13, some 1), (14, some 2)], none, false, false⟩, ⟨[(2, none)], none, true, false⟩, ⟨[(15, some 3), (16, some 4)], none, true, false⟩] 18 (fun w => Ok Non w0 w [(k3, limbs 8 (z / 2 ^ n.toNat)), (k2, limbs 8 0), (k1, limbs 8 z)] []) (DRows [(k1, limbs 8 z)]) (by kernel_rfl) rfl (by kernel_rfl) (hw.grow (below_drew' _)) (fun _ _ h hb => h.grow hb) (fun w hw => dRows hw (by simp only [List.forall_mem_cons, List.not_mem_nil, false_implies, implies_true, and_true]; (repeat' (refine And.intro ?_ ?_)); all_goals (first | (apply Has.own; (repeat (first | assumption | exact List.mem_cons_self | apply List.mem_cons_of_mem)); done) | (apply Has.read; (repeat (first | assumption | exact List.mem_cons_self | apply List.mem_cons_of_mem)); done)))) (fun _ _ _ _ h => h) ?_
  clear hw
  refine ⟨_, stable_is _, ask_run rfl rfl rfl (fun a w hw hk => run_load_w rfl (eval_of (known_old hk 6 (.head _) rfl)) agg_wide (hw.has (by first | (apply Has.own; (repeat (first | assumption | exact List.mem_cons_self | apply List.mem_cons_of_mem)); done) | (apply Has.read; (repeat (first | assumption | exact List.mem_cons_self | apply List.mem_cons_of_mem)); done)))), ?_⟩
  refine ⟨_, stable_is _, ask_run rfl rfl rfl (fun a w hw hk => run_load_w rfl (eval_of (known_old hk 6 (.head _) rfl)) agg_wide (hw.has (by first | (apply Has.own; (repeat (first | assumption | exact List.mem_cons_self | apply List.mem_cons_of_mem)); done) | (apply Has.read; (repeat (first | assumption | exact List.mem_cons_self | apply List.mem_cons_of_mem)); done)))), ?_⟩
  refine ⟨_, stable_is _, ask_run rfl rfl rfl (fun a w hw hk => run_move rfl (eval_of (known_old hk 1 (.head _) (by simp only [List.getElem?_toArray, List.getElem?_cons_zero, List.getElem?_cons_succ, Option.getD_some]; rfl)))), ?_⟩
  refine ⟨_, stable_is _, ask_gives rfl rfl rfl (fun a w hw hk => run_call2 rfl ⟨_, Tryd.func45, by kernel_rfl, by kernel_rfl⟩ (eval_of (known_op hk 13 1 1 (.head _) rfl rfl)) (eval_of (known_op hk 14 2 0 (.tail _ (.head _)) rfl rfl)))
    hsh (fun w hw => by simp), ?_⟩
  refine ⟨_, stable_is _, ask_late rfl (fun a w w' hw hk hd => run_load_w rfl (eval_of (known_old hk 2 (.head _) rfl)) agg_wide (dHas hd (by (repeat (first | assumption | exact List.mem_cons_self | apply List.mem_cons_of_mem))))), ?_⟩
  refine ⟨_, stable_is _, ask_late rfl (fun a w w' hw hk hd => run_neqW rfl (eval_of (known_op hk 15 3 1 (.head _) rfl rfl)) (eval_of (known_op hk 16 4 0 (.tail _ (.head _)) rfl rfl))), ?_⟩
  intro w hw
  rintro _ rfl
  rintro _ rfl
  rintro _ rfl
  rintro _ rfl
  rintro _ rfl
  rintro _ rfl
  change wpListD _ _ _ _ _ _ _
  simp only [List.length_cons, List.length_nil, Nat.reduceAdd, Nat.zero_add, List.drop_succ_cons, List.drop_zero, Act.put, List.setIfInBounds_toArray, List.set_cons_succ, List.set_cons_zero]
  refine wD_store hw rfl _ _ _ rfl _ rfl _ rfl agg_wide _ (by repeat (first | exact At.head _ | apply At.tail)) (fun w hw => (dRows hw (by simp only [List.forall_mem_cons, List.not_mem_nil, false_implies, implies_true, and_true]; (repeat' (refine And.intro ?_ ?_)); all_goals (first | (apply Has.own; (repeat (first | assumption | exact List.mem_cons_self | apply List.mem_cons_of_mem)); done) | (apply Has.read; (repeat (first | assumption | exact List.mem_cons_self | apply List.mem_cons_of_mem)); done))))) ?_; clear hw; intro w hw
  refine wD_assign hw rfl _ rfl (dRows hw (by simp only [List.forall_mem_cons, List.not_mem_nil, false_implies, implies_true, and_true]; (repeat' (refine And.intro ?_ ?_)); all_goals (first | (apply Has.own; (repeat (first | assumption | exact List.mem_cons_self | apply List.mem_cons_of_mem)); done) | (apply Has.read; (repeat (first | assumption | exact List.mem_cons_self | apply List.mem_cons_of_mem)); done)))) ?_
  refine wD_end ?_
  go_wp2_with (first | (refine w_store hw rfl 24 _ _ rfl _ rfl _ rfl agg_wide _ (by repeat (first | exact At.head _ | apply At.tail)) ?_; clear hw; intro w hw))
  refine ret_ct rfl rfl rfl agg_wide (hw.rows _ (.tail _ (.head _))) (by simp) rfl ⟨rfl, hw.below⟩

end Go.Proofs.YtcodmeljjphoeaaDoor
