/-
  Layer 3: products, cut and whole.
-/
import Derived.Test.YtcodmeljjphoeaaDoorProdB
import Derived.Great.BuildSlice
namespace Go.Proofs.YtcodmeljjphoeaaDoor
open Go.RowKit
set_option exponentiation.threshold 600
set_option linter.unusedVariables false
set_option linter.unusedSimpArgs false

section
variable {P : Program} {ops : Array Oper} {Q : Exit → Act → World → Prop} {rest : List Oper} {o : Oper} {a : Act} {S : Nat → Prop} {w0 w : World} {H R : List (Nat × Array Value)} {ρ : Operand → Value}
theorem set_one (A : Array Value) (v : Value) (h : A.size = 1) : A.setIfInBounds 0 v = #[v] := by
  apply Array.ext_getElem?
  intro i
  rw [Array.getElem?_setIfInBounds]
  by_cases hi : i = 0
  · subst hi; simp [h]
  · rw [if_neg (fun e => hi e.symm), Array.getElem?_eq_none (by omega), Array.getElem?_eq_none (by simp; omega)]
theorem run_build1 {t e : TypeId} {x : Operand} {kd : IntKind} {n : Int} (ho : o.op = .buildSlice t 1 #[(0, x)]) (hu : P.underlying t = some (.slice e)) (he : One P e) (hz : ((P.info? e).bind (·.zero)).isSome = true) (hx : ρ x = .int kd n) :
    (execOp ρ o).run P w = .ok (.value (.slice (some ⟨w.heap.size, 0, none⟩) 1 1)) (w.alloc (.cells #[.int kd n] e)) := by
  obtain ⟨_, h3⟩ := he
  cases hq : P.info? e with
  | none => simp [hq] at h3
  | some ie =>
    have hs : ie.size = 1 := by simpa [hq] using h3
    cases hzz : ie.zero with
    | none => simp [hq, hzz] at hz
    | some z =>
      have := run_buildSlice (P := P) w t e 1 #[(0, .int kd n)] #[.int kd n] ie z hu hq hzz (by rw [hs]; decide) (by rw [hs]; decide) (by
        rw [hs]; simp only [Instr.fill]; rw [if_neg (by simp [Value.cells])]; simp only [Value.cells]; congr 1; exact set_one _ _ (by simp))
      simp only [execOp, ho, List.map_toArray, List.map_cons, List.map_nil, hx, Sem.run_bind, this, Result.andThen_ok, Sem.run_pure]
theorem ok_build1 (h : Ok S w0 w H R) (hgd : o.guard = none) (t e : TypeId) (x : Operand) (ho : o.op = .buildSlice t 1 #[(0, x)]) (hu : P.underlying t = some (.slice e)) (he : One P e) (hz : ((P.info? e).bind (·.zero)).isSome = true) (kd : IntKind) (n : Int) (hx : a.eval x = .int kd n)
    (hk : ∀ k w', Ok S w0 w' ((k, #[.int kd n]) :: H) R → wpList P ops Q rest (a.put o.dst (.slice (some ⟨k, 0, none⟩) 1 1)) w') : wpList P ops Q (o :: rest) a w :=
  wpL_value hgd (run_build1 ho hu he hz hx) (hk _ _ (h.new _ _))
variable {C D : World → Prop} {a0 : Act} {hist : List Rel}
theorem ask_build1 {e : Entry} (hf : e.fl = false) (hg : e.gd = none) {t el : TypeId} {x : Operand} {kd : IntKind} {n : Int} (ho : o.op = .buildSlice t 1 #[(0, x)]) (hu : P.underlying t = some (.slice el)) (he : One P el) (hz : ((P.info? el).bind (·.zero)).isSome = true)
    (hx : ∀ a w, C w → Known hist a0 a w e.fs → a.eval x = .int kd n) : Ask P Q C D a0 hist o e (NewSlice 1 #[.int kd n]) :=
  ask_grow hf hg fun a w hw hk => ⟨_, _, run_build1 ho hu he hz (hx a w hw hk), below_alloc _ _, ⟨_, rfl, blk_alloc _ _ _⟩, Nat.le_refl _, by simp [blockOf]⟩
/-- A call whose arguments are known but for their places. -/
theorem ask_callr {e : Entry} {v : Value} {f : FuncId} (hf : e.fl = false) (hg : e.gd = none) (hn : e.nw = false)
    (h : ∀ a w, C w → Known hist a0 a w e.fs → ∃ args, (execOp a.eval o).run P w = .ok (.enter f args) w ∧ Calls P f args w fun e w' => e = .returned v ∧ Below w.heap.size w w') : Ask P Q C D a0 hist o e (Is v) := by
  unfold Ask
  rw [if_neg (by simp [hf])]
  intro a w hw _ _ hk
  rw [if_pos (by simp [hg, wantedB])]
  obtain ⟨args, h1, h2⟩ := h a w hw hk
  unfold Oper.wp
  rw [h1]
  exact h2.mono fun e w' ⟨he, hb⟩ => by subst he; exact ⟨v, rfl, hb, rfl, fun h => by rw [hn] at h; cases h⟩
end

theorem mul_nonneg_lt (x y : Int) (hx0 : 0 ≤ x) (hx1 : x < M) (hy0 : 0 ≤ y) (hy1 : y < M) : 0 ≤ x * y ∧ x * y < 2 ^ (64 * 16) := by
  have h := mul_lt_pow (m := 64 * 8) (n := 64 * 8) hx0 hx1 hy0 hy1
  rw [show 64 * 8 + 64 * 8 = 64 * 16 by rfl] at h
  exact ⟨Int.mul_nonneg hx0 hy0, h⟩
theorem blen_eq_zero (z : Int) (h : 0 ≤ z) : ((blen z : Int) == 0) = decide (z = 0) := by
  by_cases h0 : z = 0
  · subst h0; rfl
  · obtain ⟨h1, _⟩ := blen_spec (show 0 < z by omega)
    have : ¬ ((blen z : Int) = 0) := by omega
    rw [decide_eq_false h0]
    exact beq_eq_false_iff_ne.2 this
theorem over_iff (p : Int) (h : 0 ≤ p) : decide (p / 2 ^ (64 * 8) = 0) = decide (p < M) := by
  have hp := pow_pos2 (64 * 8)
  have e := Int.emod_add_mul_ediv p (2 ^ (64 * 8))
  have b0 := Int.emod_nonneg p (show (2 : Int) ^ (64 * 8) ≠ 0 by omega)
  have b1 := Int.emod_lt_of_pos p hp
  rw [decide_eq_decide]
  show p / M = 0 ↔ p < M
  change p % M + M * (p / M) = p at e
  change p % M < M at b1
  constructor
  · intro h1; rw [h1, Int.mul_zero, Int.add_zero] at e; omega
  · intro h1; exact Int.ediv_eq_zero_of_lt h h1

set_option maxRecDepth 100000 in
set_option maxHeartbeats 1000000 in
theorem mul_gives (x y : Int) (hx0 : 0 ≤ x) (hx1 : x < M) (hy0 : 0 ≤ y) (hy1 : y < M) :
    Gives Tryd.prog 91 #[W x, W y] [] (.tuple #[W (x * y), .bool (decide (x * y < M))]) := by
  refine .mk fun w0 w hw => ?_
  obtain ⟨hp0, hp1⟩ := mul_nonneg_lt x y hx0 hx1 hy0 hy1
  have hwh := whole_gives x y hx0 hx1 hy0 hy1
  have hd0 : 0 ≤ x * y / 2 ^ (64 * 8) := Int.ediv_nonneg hp0 (by have := pow_pos2 (64 * 8); omega)
  have hd1 : x * y / 2 ^ (64 * 8) < 2 ^ (64 * 9) := by
    refine Int.ediv_lt_of_lt_mul (pow_pos2 _) ?_
    rw [← Int.pow_add]
    exact Int.lt_of_lt_of_le hp1 (pow_mono2 (by omega))
  rw [← over_iff _ hp0, ← blen_eq_zero _ hd0, show W (x * y) = W (x * y % 2 ^ (64 * 8)) from (W_emod _).symm]
  have hof := fun k => ofP (x * y) (limbs 17 (x * y)) 0 8 17 k (part_limbs _ (by omega))
  have hln := fun k => limblenP (x * y / 2 ^ (64 * 8)) (limbs 17 (x * y)) 8 9 9 k (part_off _ (by omega)) (by omega) (by omega) hd0 hd1
  generalize x * y / 2 ^ (64 * 8) = hi at *
  generalize x * y = p at *
  go_enter Tryd.func91, Tryd.ntmps91
  go_wp2_with (first | (refine w_box (H := []) hw rfl 24 _ rfl _ rfl ?_; clear hw; intro k1 w hw) | (refine w_box (H := [_]) hw rfl 24 _ rfl _ rfl ?_; clear hw; intro k2 w hw) | (refine ok_alloc (H := []) hw rfl 24 rfl _ zero_wide ?_; clear hw; intro k1 w hw) | (refine ok_alloc (H := [_]) hw rfl 24 rfl _ zero_wide ?_; clear hw; intro k2 w hw) | (refine ok_alloc (H := [_, _]) hw rfl 24 rfl _ zero_wide ?_; clear hw; intro k3 w hw) | (refine ok_alloc (H := []) hw rfl 122 rfl _ zero_prod ?_; clear hw; intro k1 w hw) | (refine ok_alloc (H := [_]) hw rfl 122 rfl _ zero_prod ?_; clear hw; intro k2 w hw) | (refine ok_alloc (H := [_, _]) hw rfl 122 rfl _ zero_prod ?_; clear hw; intro k3 w hw) | (refine ok_alloc (H := [_, _, _]) hw rfl 122 rfl _ zero_prod ?_; clear hw; intro k4 w hw) | (refine w_load hw rfl 24 _ rfl _ rfl agg_wide _ (by first | (apply Has.own; (repeat (first | assumption | exact List.mem_cons_self | apply List.mem_cons_of_mem)); done) | (apply Has.read; (repeat (first | assumption | exact List.mem_cons_self | apply List.mem_cons_of_mem)); done)) ?_) | (refine ok_store hw rfl 122 _ _ rfl _ rfl _ rfl _ agg_prod _ (by repeat (first | exact At.head _ | apply At.tail)) (by simp) (by simp) (ones_limbs _ _) ?_; clear hw; intro w hw) | (go_at_call 92; refine hwh.call0 hw ?_; clear hw; intro w hw))
  try simp only [Act.put, List.setIfInBounds_toArray, List.set_cons_succ, List.set_cons_zero]
  refine wp_region_draws [⟨[(6, none)], none, false, false⟩, ⟨[(10, some 0)], none, false, false⟩, ⟨[(6, none)], none, false, false⟩, ⟨[(12, some 2)], none, false, false⟩, ⟨[(13, some 3)], none, true, false⟩] 15 (fun w => Ok Non w0 w [(k4, limbs 17 p), (k3, limbs 8 0), (k2, limbs 8 y), (k1, limbs 8 x)] []) (by kernel_rfl) rfl (by kernel_rfl) (hw.grow (below_drew' _)) (fun _ _ h hb => h.grow hb) (fun _ _ _ _ h => h) ?_
  clear hw
  refine ⟨_, stable_is _, ask_run rfl rfl rfl (fun a w hw hk => by
      have e6 := known_old hk 6 (.head _) (by simp only [List.getElem?_toArray, List.getElem?_cons_zero, List.getElem?_cons_succ, Option.getD_some]; rfl)
      go_simp
      (first | with_reducible rfl | exact ⟨rfl, rfl⟩)), ?_⟩
  refine ⟨_, stable_is _, ask_gives rfl rfl rfl (fun a w hw hk => run_call1 rfl ⟨_, Tryd.func54, by kernel_rfl, by kernel_rfl⟩ (eval_of (known_op hk 10 0 0 (.head _) rfl rfl)))
    (hof k4) (fun w hw => dRows hw (by simp only [List.forall_mem_cons, List.not_mem_nil, false_implies, implies_true, and_true]; (repeat' (refine And.intro ?_ ?_)); all_goals (first | (refine Has.own ?_; (repeat (first | assumption | exact List.mem_cons_self | apply List.mem_cons_of_mem)); done) | (refine Has.read ?_; (repeat (first | assumption | exact List.mem_cons_self | apply List.mem_cons_of_mem)); done)))), ?_⟩
  refine ⟨_, stable_is _, ask_run rfl rfl rfl (fun a w hw hk => by
      have e6 := known_old hk 6 (.head _) (by simp only [List.getElem?_toArray, List.getElem?_cons_zero, List.getElem?_cons_succ, Option.getD_some]; rfl)
      go_simp
      (first | with_reducible rfl | exact ⟨rfl, rfl⟩)), ?_⟩
  refine ⟨_, stable_is _, ask_gives rfl rfl rfl (fun a w hw hk => run_call1 rfl ⟨_, Tryd.func73, by kernel_rfl, by kernel_rfl⟩ (eval_of (known_op hk 12 2 0 (.head _) rfl rfl)))
    (hln k4) (fun w hw => dRows hw (by simp only [List.forall_mem_cons, List.not_mem_nil, false_implies, implies_true, and_true]; (repeat' (refine And.intro ?_ ?_)); all_goals (first | (refine Has.own ?_; (repeat (first | assumption | exact List.mem_cons_self | apply List.mem_cons_of_mem)); done) | (refine Has.read ?_; (repeat (first | assumption | exact List.mem_cons_self | apply List.mem_cons_of_mem)); done)))), ?_⟩
  refine ⟨_, stable_is _, ask_late rfl (fun a w w' hw hk hd => run_eql_i rfl (eval_of (known_op hk 13 3 0 (.head _) rfl rfl)) rfl), ?_⟩
  intro w hw
  rintro _ rfl
  rintro _ rfl
  rintro _ rfl
  rintro _ rfl
  rintro _ rfl
  change wpList _ _ _ _ _ _
  simp only [List.length_cons, List.length_nil, Nat.reduceAdd, Nat.zero_add, List.drop_succ_cons, List.drop_zero, Act.put, List.setIfInBounds_toArray, List.set_cons_succ, List.set_cons_zero]
  go_wp2_with (first | (refine w_store hw rfl 24 _ _ rfl _ rfl _ rfl agg_wide _ (by repeat (first | exact At.head _ | apply At.tail)) ?_; clear hw; intro w hw))
  refine ret_ct rfl rfl rfl agg_wide (hw.rows _ (.tail _ (.head _))) (by simp) rfl ⟨rfl, hw.below⟩

theorem part_one (n : Int) (h0 : 0 ≤ n) (h1 : n < 18446744073709551616) : Part #[.int .u64 n] 0 1 n := by
  intro i hi
  have : i = 0 := by omega
  subst this
  have : lim n 0 = n := by unfold lim; simp; omega
  rw [this]; rfl
/-- wide.Of of one limb. -/
theorem of1 (n : Int) (k : Nat) (h0 : 0 ≤ n) (h1 : n < 18446744073709551616) : Gives Tryd.prog 54 #[.slice (some ⟨k, 0, none⟩) 1 1] [(k, #[.int .u64 n])] (W n) := by
  have h := ofP n _ 0 1 1 k (part_one n h0 h1)
  rwa [Int.emod_eq_of_lt h0 (show n < 2 ^ (64 * 1) from h1)] at h
theorem zero_u64' : ((Tryd.prog.info? 22).bind (·.zero)).isSome = true := by kernel_rfl
theorem small_in {n : Int} (h : n < 18446744073709551616) : n < M := Int.lt_of_lt_of_le (show n < 2 ^ 64 from h) (pow_mono2 (by omega))

set_option maxRecDepth 100000 in
set_option maxHeartbeats 1000000 in
theorem small_gives (x n : Int) (hx0 : 0 ≤ x) (hx1 : x < M) (h0 : 0 ≤ n) (h1 : n < 18446744073709551616) : Gives Tryd.prog 83 #[W x, .int .u64 n] [] (.tuple #[W (x * n), .bool (decide (x * n < M))]) := by
  refine .mk fun w0 w hw => ?_
  have hm := mul_gives x n hx0 hx1 h0 (small_in h1)
  go_enter Tryd.func83, Tryd.ntmps83
  go_wp2_with (first | (refine w_box (H := []) hw rfl 24 _ rfl _ rfl ?_; clear hw; intro k1 w hw) | (refine ok_alloc (H := []) hw rfl 24 rfl _ zero_wide ?_; clear hw; intro k1 w hw) | (refine ok_alloc (H := [_]) hw rfl 24 rfl _ zero_wide ?_; clear hw; intro k2 w hw))
  try simp only [Act.put, List.setIfInBounds_toArray, List.set_cons_succ, List.set_cons_zero]
  refine wp_region_draws [⟨[(2, none)], none, false, false⟩, ⟨[(1, none)], none, false, false⟩, ⟨[(7, some 1)], none, false, true⟩, ⟨[(8, some 2)], none, false, false⟩, ⟨[(6, some 0), (9, some 3)], none, false, false⟩, ⟨[(10, some 4)], none, false, false⟩, ⟨[(10, some 4)], none, false, false⟩] 13 (fun w => Ok Non w0 w [(k2, limbs 8 0), (k1, limbs 8 x)] []) (by kernel_rfl) rfl (by kernel_rfl) (hw.grow (below_drew' _)) (fun _ _ h hb => h.grow hb) (fun _ _ _ _ h => h) ?_
  clear hw
  refine ⟨_, stable_is _, ask_run rfl rfl rfl (fun a w hw hk => run_load_w rfl (eval_of (known_old hk 2 (.head _) rfl)) agg_wide (hw.has (by first | (apply Has.own; (repeat (first | assumption | exact List.mem_cons_self | apply List.mem_cons_of_mem)); done) | (apply Has.read; (repeat (first | assumption | exact List.mem_cons_self | apply List.mem_cons_of_mem)); done)))), ?_⟩
  refine ⟨_, stable_is _, ask_run rfl rfl rfl (fun a w hw hk => run_move rfl (eval_of (known_old hk 1 (.head _) (by simp only [List.getElem?_toArray, List.getElem?_cons_zero, List.getElem?_cons_succ, Option.getD_some]; rfl)))), ?_⟩
  refine ⟨_, stable_slice _ _, ask_build1 rfl rfl rfl Tryd.underlying87 one_u64 zero_u64' (fun a w hw hk => (eval_of (known_op hk 7 1 0 (.head _) rfl rfl))), ?_⟩
  refine ⟨_, stable_is _, ask_callr rfl rfl rfl (fun a w hw hk => by
      obtain ⟨k8, e8, b8⟩ := known_rel hk 8 2 0 (.head _) rfl rfl
      exact ⟨_, run_call1 rfl ⟨_, Tryd.func54, by kernel_rfl, by kernel_rfl⟩ (eval_of e8), (of1 n _ h0 h1) w (by simp; exact b8)⟩), ?_⟩
  refine ⟨_, stable_is _, ask_gives rfl rfl rfl (fun a w hw hk => run_call2 rfl ⟨_, Tryd.func91, by kernel_rfl, by kernel_rfl⟩ (eval_of (known_op hk 6 0 3 (.head _) rfl rfl)) (eval_of (known_op hk 9 3 0 (.tail _ (.head _)) rfl rfl)))
    hm (fun w hw => by simp), ?_⟩
  refine ⟨_, stable_is _, ask_run rfl rfl rfl (fun a w hw hk => run_extract rfl (eval_of (known_op hk 10 4 0 (.head _) rfl rfl)) rfl), ?_⟩
  refine ⟨_, stable_is _, ask_run rfl rfl rfl (fun a w hw hk => run_extract rfl (eval_of (known_op hk 10 4 1 (.head _) rfl rfl)) rfl), ?_⟩
  intro w hw
  rintro _ rfl
  rintro _ rfl
  rintro _ ⟨m2, rfl, hm2⟩
  intro hn2
  rintro _ rfl
  rintro _ rfl
  rintro _ rfl
  rintro _ rfl
  change wpList _ _ _ _ _ _
  simp only [List.length_cons, List.length_nil, Nat.reduceAdd, Nat.zero_add, List.drop_succ_cons, List.drop_zero, Act.put, List.setIfInBounds_toArray, List.set_cons_succ, List.set_cons_zero]
  go_wp2_with (first | (refine w_store hw rfl 24 _ _ rfl _ rfl _ rfl agg_wide _ (by repeat (first | exact At.head _ | apply At.tail)) ?_; clear hw; intro w hw))
  refine ret_ct rfl rfl rfl agg_wide (hw.rows _ (.head _)) (by simp) rfl ⟨rfl, hw.below⟩
end Go.Proofs.YtcodmeljjphoeaaDoor
