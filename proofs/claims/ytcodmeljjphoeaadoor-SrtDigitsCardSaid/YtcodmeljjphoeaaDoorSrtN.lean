/-
  References 14 and 15: the bounds, the division by digits; the law on the digits, walked.
-/
import Derived.Test.YtcodmeljjphoeaaDoorSrtJ
import Derived.Test.YtcodmeljjphoeaaDoorBigP
namespace Go.Proofs.YtcodmeljjphoeaaDoor
open Go.RowKit
set_option exponentiation.threshold 600
set_option linter.unusedVariables false
set_option linter.unusedSimpArgs false

set_option maxRecDepth 10000 in
theorem least14_gives (x : Int) (h0 : -300 ≤ x) (h1 : x ≤ 300) : Gives Tryd.prog 72 #[.int .i64 x] [] (.int .i64 ((x + 2) / 3)) := by
  refine .mk fun w0 w hw => ?_
  obtain ⟨r, hr⟩ : ∃ r, (x + 2) / 3 = r := ⟨_, rfl⟩
  rw [hr]
  have hr1 : 3 * r < x + 3 := by omega
  have hr2 : x ≤ 3 * r := by omega
  clear hr
  go_enter Tryd.func72, Tryd.ntmps72
  go_wp2_with fail
  go_loopw [3] (fun v wr => ∃ i : Int, -100 ≤ i ∧ i ≤ r ∧ v = .int .i64 i ∧ Ok Non w0 wr [] []) (fun v _ => (r - intOf v).toNat)
  case atStart => exact ⟨-100, by omega, by omega, rfl, hw⟩
  case round =>
    clear hw
    obtain ⟨i, hi0, hi1, rfl, hw⟩ := hrel
    by_cases hlt : 3 * i < x
    · have hd : decide (3 * i < x) = true := decide_eq_true hlt
      go_wp2_with fail
      exact ⟨⟨i + 1, by omega, by omega, by go_num, hw⟩, by simp [intOf]; omega⟩
    · have hd : decide (3 * i < x) = false := decide_eq_false hlt
      have hir : i = r := by omega
      subst hir
      clear hlt
      go_wp2_with fail
      go_ret
      exact ⟨rfl, hw.below⟩

theorem built_ints4 (a b c d : Int) : Tryd.prog.built 76 [(0, .int .i64 a), (1, .int .i64 b), (2, .int .i64 c), (3, .int .i64 d)] = some #[.int .i64 a, .int .i64 b, .int .i64 c, .int .i64 d] := by kernel_rfl
theorem ok_buildints {ops : Array Oper} {Q : Exit → Act → World → Prop} {rest : List Oper} {o : Oper} {a : Act} {w : World} (hgd : o.guard = none) (x0 x1 x2 x3 : Operand) (ho : o.op = .build 76 #[(0, x0), (1, x1), (2, x2), (3, x3)]) (b : Nat → Int)
    (h0 : a.eval x0 = .int .i64 (b 0)) (h1 : a.eval x1 = .int .i64 (b 1)) (h2 : a.eval x2 = .int .i64 (b 2)) (h3 : a.eval x3 = .int .i64 (b 3))
    (hk : wpList Tryd.prog ops Q rest (a.put o.dst (.agg (ints4 b))) w) : wpList Tryd.prog ops Q (o :: rest) a w := by
  have := run_build (P := Tryd.prog) w 76 #[(0, .int .i64 (b 0)), (1, .int .i64 (b 1)), (2, .int .i64 (b 2)), (3, .int .i64 (b 3))] _ (built_ints4 (b 0) (b 1) (b 2) (b 3))
  exact wpL_value hgd (by simp only [execOp, ho, List.map_toArray, List.map_cons, List.map_nil, h0, h1, h2, h3, Sem.run_bind, this, Result.andThen_ok, Sem.run_pure]; rfl) hk

set_option maxRecDepth 10000 in
theorem bounds14_gives (y : Int) (h0 : 0 ≤ y) (h1 : y ≤ 40) : Gives Tryd.prog 39 #[.int .i64 y] [] (.agg (ints4 (tb y))) := by
  refine .mk fun w0 w hw => ?_
  have l0 := least14_gives (4 * (y + 1)) (by omega) (by omega)
  have l1 := least14_gives (y + 1) (by omega) (by omega)
  have l2 := least14_gives (-2 * y) (by omega) (by omega)
  have l3 := least14_gives (-5 * y) (by omega) (by omega)
  have t1 := True.intro
  have t2 := True.intro
  have t3 := True.intro
  go_enter Tryd.func39, Tryd.ntmps39
  go_wp2_with (first | (refine ok_alloc (H := []) hw rfl 76 rfl _ zero_ints4 ?_; clear hw; intro k1 w hw) | (refine ok_store hw rfl 76 _ _ rfl _ rfl _ rfl _ agg_ints4 _ (by repeat (first | exact At.head _ | apply At.tail)) (by simp) (by simp) (ones_ints4 _) ?_; clear hw; intro w hw) | (refine ok_buildints rfl _ _ _ _ rfl (tb y) rfl rfl rfl rfl ?_) | (clear t3; go_at_call 72; refine l0.call0 hw ?_; clear hw; intro w hw) | (clear t2; go_at_call 72; refine l1.call0 hw ?_; clear hw; intro w hw) | (clear t1; go_at_call 72; refine l2.call0 hw ?_; clear hw; intro w hw) | (go_at_call 72; refine l3.call0 hw ?_; clear hw; intro w hw))
  refine ret_c rfl rfl agg_ints4 (hw.rows _ (.head _)) (by simp) rfl ⟨rfl, hw.below⟩

theorem run_load_agg {P : Program} {o : Oper} {ρ : Operand → Value} {w : World} {t n : Nat} {x : Operand} (ho : o.op = .load t x) {k : Nat} {cs : Array Value} (hx : ρ x = .pointer (some ⟨k, 0, none⟩)) (hg : Agg P t n) (h : Blk w k cs) (hn : cs.size = n) : (execOp ρ o).run P w = .ok (.value (.agg cs)) w := by
  rw [run_load_part ho h hx hg (by omega), extract_all _ n hn]
theorem built_signed1 (p : Option Addr) (n c : Nat) : Tryd.prog.built 38 [(0, .slice p n c)] = some #[.slice p n c, .bool false] := by kernel_rfl
theorem ok_signed1 {ops : Array Oper} {Q : Exit → Act → World → Prop} {rest : List Oper} {o : Oper} {a : Act} {w : World} {R : List (Nat × Array Value)} {b : Int} (hgd : o.guard = none) (x : Operand) (ho : o.op = .build 38 #[(0, x)]) (v : Value) (hx : a.eval x = v) (hb : BigV R v b)
    (hk : ∀ p n c, SgnV R (.agg #[.slice p n c, .bool false]) b → wpList Tryd.prog ops Q rest (a.put o.dst (.agg #[.slice p n c, .bool false])) w) : wpList Tryd.prog ops Q (o :: rest) a w := by
  obtain ⟨p, n, c, rfl⟩ := hb.slice
  have := run_build (P := Tryd.prog) w 38 #[(0, .slice p n c)] #[.slice p n c, .bool false] (built_signed1 p n c)
  exact wpL_value hgd (by simp only [execOp, ho, List.map_toArray, List.map_cons, List.map_nil, hx, Sem.run_bind, this, Result.andThen_ok, Sem.run_pure]) (hk p n c (sgnv_of hb))
theorem ok_signed2 {ops : Array Oper} {Q : Exit → Act → World → Prop} {rest : List Oper} {o : Oper} {a : Act} {w : World} {R : List (Nat × Array Value)} {b z : Int} (hgd : o.guard = none) (x y : Operand) (ho : o.op = .build 38 #[(0, x), (1, y)]) (v : Value) (hx : a.eval x = v) (s : Bool) (hy : a.eval y = .bool s) (hb : BigV R v b) (hs : s = decide (z < 0)) (hz : b = if z < 0 then -z else z)
    (hk : ∀ p n c, SgnV R (.agg #[.slice p n c, .bool s]) z → wpList Tryd.prog ops Q rest (a.put o.dst (.agg #[.slice p n c, .bool s])) w) : wpList Tryd.prog ops Q (o :: rest) a w := by
  obtain ⟨p, n, c, rfl⟩ := hb.slice
  have := run_build (P := Tryd.prog) w 38 #[(0, .slice p n c), (1, .bool s)] #[.slice p n c, .bool s] (built_signed p n c s)
  subst hs hz
  exact wpL_value hgd (by simp only [execOp, ho, List.map_toArray, List.map_cons, List.map_nil, hx, hy, Sem.run_bind, this, Result.andThen_ok, Sem.run_pure]) (hk p n c ⟨p, n, c, rfl, hb⟩)

theorem run_max {P : Program} {o : Oper} {ρ : Operand → Value} {w : World} {x y : Operand} {ats : Array TypeId} {k : IntKind} {m n : Int} (ho : o.op = .call { callee := .builtin .max, args := #[x, y], argTypes := ats }) (hx : ρ x = .int k m) (hy : ρ y = .int k n) :
    (execOp ρ o).run P w = .ok (.value (.int k (if n > m then n else m))) w := by
  obtain ⟨dst, op, type, pos, after, guard⟩ := o
  subst ho
  rw [BigFrame.execOp_builtin, BigFrame.builtin_max]
  simp [Builtin.max_, Builtin.max2, hx, hy, Sem.run_bind, Sem.run_pure, Result.andThen_ok]
theorem ok_max {P : Program} {ops : Array Oper} {Q : Exit → Act → World → Prop} {rest : List Oper} {o : Oper} {a : Act} {w : World} (hgd : o.guard = none) (x y : Operand) (ats : Array TypeId) (ho : o.op = .call { callee := .builtin .max, args := #[x, y], argTypes := ats }) (k : IntKind) (m n r : Int) (hx : a.eval x = .int k m) (hy : a.eval y = .int k n) (hr : (if n > m then n else m) = r)
    (hk : wpList P ops Q rest (a.put o.dst (.int k r)) w) : wpList P ops Q (o :: rest) a w :=
  wpL_value hgd (by rw [run_max ho hx hy, hr]) hk
theorem ret_tc {P : Program} {fn : Func} {R : Ending → World → Prop} {a : Act} {w : World} {p q : Tmp} {ty : TypeId} {k n : Nat} {cs : Array Value} {v : Value} (h : fn.results = #[.tmp q, .cell p ty]) (hq : a.tmps.getD q undef = v) (hp : a.tmps.getD p undef = .pointer (some ⟨k, 0, none⟩)) (hg : Agg P ty n) (hb : Blk w k cs) (hn : cs.size = n) (hd : a.defers = [])
    (hR : R (.returned (.tuple #[v, .agg cs])) w) : bodyPost P fn R .ret a w := by
  refine ⟨hd, .tuple #[v, .agg cs], ?_, hR⟩
  have hp' : a.tmps[p]?.getD undef = .pointer (some ⟨k, 0, none⟩) := by simpa using hp
  have hq' : a.tmps[q]?.getD undef = v := by simpa using hq
  simp [results, h, hp', hq', asAddr, load_row (P := P) hb hg hn]
theorem run15_facts {X D : Int} (h0 : 2 ^ 127 ≤ D) (h1 : D < 2 ^ 128) (hX0 : 0 ≤ X) (hX1 : X < D * 2 ^ 128) {i : Nat} (hi : i < 65) :
    (-(4294967295 * 2 ^ (124 + 2 * (64 - i))) < sl X D i ∧ sl X D i < 4294967295 * 2 ^ (124 + 2 * (64 - i))) ∧ (-Cap < sl X D i ∧ sl X D i < Cap) ∧ (0 < D * 2 ^ (2 * (64 - i)) ∧ 2 * (D * 2 ^ (2 * (64 - i))) < Cap) := by
  obtain ⟨k0, k1⟩ := skept_all h0 h1 hX0 hX1 i (by omega)
  have e1 : (2 : Int) ^ (2 * (65 - i)) = 4 * 2 ^ (2 * (64 - i)) := by rw [show 2 * (65 - i) = 2 + 2 * (64 - i) by omega, Int.pow_add]; rfl
  have e2 : (2 : Int) ^ (124 + 2 * (64 - i)) = 2 ^ 124 * 2 ^ (2 * (64 - i)) := Int.pow_add _ _ _
  have e3 : (2 : Int) ^ 128 = 16 * 2 ^ 124 := by rw [show 128 = 4 + 124 by rfl, Int.pow_add]; rfl
  have hU : (2 : Int) ^ (124 + 2 * (64 - i)) ≤ 2 ^ 252 := pow_mono2 (by omega)
  have hp := pow_pos2 (2 * (64 - i))
  have hC : 256 * (2 : Int) ^ 252 < Cap := cap_of (k := 261) (by rw [show 261 = 9 + 252 by rfl, Int.pow_add]; have := pow_pos2 252; omega) (by omega)
  have hlt := Int.mul_lt_mul_of_pos_right h1 hp
  have hge := Int.mul_pos (show 0 < D by have := pow_pos2 127; omega) hp
  rw [e1] at k0 k1
  rw [e3, Int.mul_assoc, ← e2] at hlt
  have f1 : D * (4 * 2 ^ (2 * (64 - i))) = 4 * (D * 2 ^ (2 * (64 - i))) := by rw [← Int.mul_assoc, Int.mul_comm D 4, Int.mul_assoc]
  rw [f1] at k0 k1
  clear f1 e1 e2 e3 h0 h1 hX0 hX1 hp
  generalize D * 2 ^ (2 * (64 - i)) = E at *
  generalize (2 : Int) ^ (124 + 2 * (64 - i)) = U at *
  generalize (2 : Int) ^ 252 = V at *
  generalize sl X D i = L at *
  exact ⟨⟨by omega, by omega⟩, ⟨by omega, by omega⟩, hge, by omega⟩

set_option maxRecDepth 100000 in
set_option maxHeartbeats 4000000 in
theorem run15_calls (n d : Int) (hn0 : 0 ≤ n) (hn1 : n < M) (hd0 : 0 < d) (hd1 : d < 2 ^ 120) (hq : n < d * 2 ^ 128) (steps : Nat) (hst : steps ≤ 65) {w0 w : World} {R' : List (Nat × Array Value)} (hw : Ok Non w0 w [] R') :
    Calls Tryd.prog 12 #[W n, W d, .int .i64 steps] w fun e w' => ∃ v z T L, e = .returned (.tuple #[v, z]) ∧ Lst T v (scells (n * 2 ^ sby d) (d * 2 ^ sby d) steps) ∧ SgnV L z (sl (n * 2 ^ sby d) (d * 2 ^ sby d) steps) ∧ Fresh w0 T ∧ Fresh w0 L ∧ Ok Non w0 w' [] (T ++ (L ++ R')) := by
  have hdM : d < M := Int.lt_trans hd1 (pow_in (by omega))
  have hbn := big_calls n hn0 hn1
  have hbd := big_calls d (by omega) hdM
  have hby := sby_bds hd0 hd1
  have hlen := (blen_iff hd0 120).2 hd1
  have cn : n < Cap := cap_512 hn1
  have cd : d < Cap := cap_512 hdM
  have hbe : 128 - ((blen d : Nat) : Int) = (sby d : Int) := by unfold sby; omega
  obtain ⟨bl, hbl⟩ : ∃ bl : Int, ((blen d : Nat) : Int) = bl := ⟨_, rfl⟩
  rw [hbl] at hbe
  have Hbl := Lib.hid hbl
  have hb0 := hby.2.2
  have hX0 : 0 ≤ n * 2 ^ sby d := Int.mul_nonneg hn0 (by have := pow_pos2 (sby d); omega)
  have hX1 : n * 2 ^ sby d < d * 2 ^ sby d * 2 ^ 128 := by
    have := Int.mul_lt_mul_of_pos_right hq (pow_pos2 (sby d))
    rwa [Int.mul_assoc, Int.mul_comm (2 ^ 128), ← Int.mul_assoc] at this
  obtain ⟨hD0, hD1, _⟩ := hby
  have hdn0 := hn0
  have hfacts := fun i (hi : i < 65) => run15_facts hD0 hD1 hX0 hX1 hi
  have hrow := row_bd hD0 hD1
  have hsX : sl (n * 2 ^ sby d) (d * 2 ^ sby d) 0 = n * 2 ^ sby d := rfl
  have hshx : ∀ (R : List (Nat × Array Value)) (u : Value), BigV R u n → GivesB 19 #[u, .int .i64 (128 - bl)] R (n * 2 ^ sby d) := fun R u h => vshl h cn (sby d) hbe (by omega)
  have hshd : ∀ (R : List (Nat × Array Value)) (u : Value), BigV R u d → GivesB 19 #[u, .int .i64 (128 - bl)] R (d * 2 ^ sby d) := fun R u h => vshl h cd (sby d) hbe (by omega)
  have cD : d * 2 ^ sby d < Cap := cap_of hD1 (by omega)
  clear hbl hn0 hn1 hd0 hd1 hq hdM cn cd hlen hdn0
  generalize n * 2 ^ sby d = X at *
  generalize d * 2 ^ sby d = D at *
  have Hbe := Lib.hid hbe
  clear hbe
  generalize hsb : sby d = sb at *
  clear hsb
  have hy0 := hrow.1
  generalize hyy : D / 2 ^ 124 = y at *
  have Hyy := Lib.hid hyy
  clear hyy hrow
  have hblr : 0 < bl ∧ bl ≤ 128 := by have := Hbe.out; omega
  go_enter Tryd.func12, Tryd.ntmps12
  go_wp2_with (first | (refine w_box (H := []) hw rfl 24 _ rfl _ rfl ?_; clear hw; intro k1 w hw) | (refine w_box (H := [_]) hw rfl 24 _ rfl _ rfl ?_; clear hw; intro k2 w hw) | (refine ok_alloc (H := []) hw rfl 38 rfl _ zero_signed ?_; clear hw; intro k1 w hw) | (refine ok_alloc (H := [_]) hw rfl 38 rfl _ zero_signed ?_; clear hw; intro k2 w hw) | (refine ok_alloc (H := [_, _]) hw rfl 38 rfl _ zero_signed ?_; clear hw; intro k3 w hw))
  try simp only [Act.put, List.setIfInBounds_toArray, List.set_cons_succ, List.set_cons_zero]
  refine wp_region_draws [⟨[(3, none)], none, false, false⟩, ⟨[(18, some 0)], none, false, false⟩, ⟨[(4, none)], none, false, false⟩, ⟨[(20, some 2)], none, false, false⟩, ⟨[(19, some 1)], none, false, false⟩, ⟨[(21, some 3)], none, false, false⟩] 75 (fun w => Ok Non w0 w [(k3, #[.slice none 0 0, .bool false]), (k2, limbs 8 d), (k1, limbs 8 n)] R') (by kernel_rfl) rfl (by kernel_rfl) (hw.grow (below_drew' _)) (fun _ _ h hb => h.grow hb) (fun _ _ _ _ h => h) ?_
  clear hw
  refine ⟨_, stable_is _, ask_run rfl rfl rfl (fun a w hw hk => run_load_w rfl (eval_of (known_old hk 3 (.head _) rfl)) agg_wide (hw.has (by first | (apply Has.own; (repeat (first | assumption | exact List.mem_cons_self | apply List.mem_cons_of_mem)); done) | (apply Has.read; (repeat (first | assumption | exact List.mem_cons_self | apply List.mem_cons_of_mem)); done)))), ?_⟩
  refine ⟨_, stable_mineb _ _ _ _ _, ask_big rfl rfl rfl (fun a w hw hk => by
      exact ⟨_, _, run_call1 rfl ⟨_, Tryd.func16, by kernel_rfl, by kernel_rfl⟩ (eval_of (known_op hk 18 0 0 (.head _) rfl rfl)), hbn, (fun p hp => by simp at hp)⟩), ?_⟩
  refine ⟨_, stable_is _, ask_run rfl rfl rfl (fun a w hw hk => run_load_w rfl (eval_of (known_old hk 4 (.head _) rfl)) agg_wide (hw.has (by first | (apply Has.own; (repeat (first | assumption | exact List.mem_cons_self | apply List.mem_cons_of_mem)); done) | (apply Has.read; (repeat (first | assumption | exact List.mem_cons_self | apply List.mem_cons_of_mem)); done)))), ?_⟩
  refine ⟨_, stable_mineb _ _ _ _ _, ask_big rfl rfl rfl (fun a w hw hk => by
      exact ⟨_, _, run_call1 rfl ⟨_, Tryd.func16, by kernel_rfl, by kernel_rfl⟩ (eval_of (known_op hk 20 2 0 (.head _) rfl rfl)), hbd, (fun p hp => by simp at hp)⟩), ?_⟩
  refine ⟨_, stable_mineb _ _ _ _ _, ask_rel rfl rfl rfl (fun a w hw hk => ⟨_, run_assign rfl (eval_of rfl), known_rel hk 19 1 2 (.head _) rfl rfl⟩), ?_⟩
  refine ⟨_, stable_mineb _ _ _ _ _, ask_rel rfl rfl rfl (fun a w hw hk => ⟨_, run_assign rfl (eval_of rfl), known_rel hk 21 3 1 (.head _) rfl rfl⟩), ?_⟩
  intro w hw
  rintro _ rfl
  rintro v1 ⟨L1, hv1, hf1, hm1⟩
  rintro _ rfl
  rintro v3 ⟨L3, hv3, hf3, hm3⟩
  rintro v4 ⟨L4, hv4, hf4, hm4⟩
  rintro v5 ⟨L5, hv5, hf5, hm5⟩
  change wpList _ _ _ _ _ _
  simp only [List.length_cons, List.length_nil, Nat.reduceAdd, Nat.zero_add, List.drop_succ_cons, List.drop_zero, Act.put, List.setIfInBounds_toArray, List.set_cons_succ, List.set_cons_zero]
  have hw := Ok.both hm4 hm5
  have hz4 := hv4
  have hz5 := hv5
  clear hm1 hm3 hm4 hm5 hv4 hv5 hbn hbd hv1 hv3 hf1 hf3
  generalize v4 = z4 at *
  generalize v5 = z5 at *
  go_wp2_with (go_at_call 17; have hg := blen_gives (hz5.mono (R' := L4 ++ (L5 ++ R')) (by grind)); rw [Hbl.out] at hg; refine hg.of hw sub_all ?_; clear hw hg; intro w hw)
  clear hblr
  go_wp2_with (first | (have tk := hzD; clear tk; go_at_call 37; refine (vshr (hzD.mono (R' := LD ++ (Lx ++ (L4 ++ (L5 ++ R')))) (by grind)) cD (k := 124) 124 rfl (by omega)).use hw sub_all ?_; rw [Hyy.out]; clear hw; intro w zq Lq hzq hfq hw; obtain ⟨kq, cq, qs, hzqe, hmq, hcq⟩ := bigv_row hzq (by omega) (by omega); subst hzqe; have hcell := (hw.has (Has.read (List.mem_append_left _ hmq))).cell 0; rw [hcq] at hcell) | (have tk := hzx; clear tk; go_at_call 19; refine (hshd (Lx ++ (L4 ++ (L5 ++ R'))) _ (hz5.mono (by grind))).use hw sub_all ?_; clear hw; intro w zD LD hzD hfD hw) | (go_at_call 19; refine (hshx (L4 ++ (L5 ++ R')) _ (hz4.mono (by grind))).use hw sub_all ?_; clear hw; intro w zx Lx hzx hfx hw) | (refine ok_signed1 (R := Lx) rfl _ rfl _ rfl hzx ?_; intro px nx cx hsx) | (refine ok_alloc (H := [(k3, #[.slice none 0 0, .bool false]), (k2, limbs 8 d), (k1, limbs 8 n)]) hw rfl 38 rfl _ zero_signed ?_; clear hw; intro k4 w hw) | (refine ok_store hw rfl 38 _ _ rfl _ rfl _ rfl 2 agg_signed _ (.head _) rfl rfl (by simp [Ones, Value.oneCell']) ?_; clear hw; intro w hw))
  have hw2 : Ok Non w0 w ((k4, #[.slice px nx cx, .bool false]) :: ([] ++ [(k3, #[.slice none 0 0, .bool false]), (k2, limbs 8 d), (k1, limbs 8 n)])) (Lx ++ (LD ++ R')) := hw.sub (List.Sublist.refl _) (by grind)
  clear hw hcell hmq hcq hzq hfq hzx hz4 hz5 hf4 hf5 hshx hshd
  have hw := hw2
  clear hw2
  have hsx' : SgnV Lx (.agg #[.slice px nx cx, .bool false]) (sl X D 0) := hsx
  clear hsx
  go_loopw [14, 13] (fun a o wr => ∃ (j : Nat) (T L : List (Nat × Array Value)) (p : Option Addr) (m c : Nat) (s : Bool), j ≤ steps ∧ a = .int .i64 j ∧ Lst T o (scells X D j) ∧ SgnV L (.agg #[.slice p m c, .bool s]) (sl X D j) ∧ Fresh w0 L ∧ Ok Non w0 wr ((k4, #[.slice p m c, .bool s]) :: (T ++ [(k3, #[.slice none 0 0, .bool false]), (k2, limbs 8 d), (k1, limbs 8 n)])) (L ++ (LD ++ R'))) (fun a _ _ => steps - (intOf a).toNat)
  case atStart => exact ⟨0, [], Lx, px, nx, cx, false, by omega, rfl, .nil, hsx', hfx, hw⟩
  case round =>
    clear hw hsx' hfx
    obtain ⟨j, T, L, ps, ms, cs, ss, hj, rfl, hl, hs, hf, hw⟩ := hrel
    by_cases hlt : j < steps
    · obtain ⟨⟨f1, f2⟩, ⟨f3, f4⟩, f5, f6⟩ := hfacts j (by omega)
      have hrb := bounds14_gives y (by omega) (by omega)
      have hdn : ∀ (R : List (Nat × Array Value)) (u : Value), SgnV R u (sl X D j) → Gives Tryd.prog 40 #[u, .int .i64 (124 + 2 * (64 - (j : Int)))] R (.int .i64 (sl X D j / 2 ^ (124 + 2 * (64 - j)))) := fun R u h =>
        bdown_gives (124 + 2 * (64 - j)) (by omega) h (by omega) (by omega) (by omega) (by omega) (by omega)
      have hdg := digit14_gives (tb y) (sl X D j / 2 ^ (124 + 2 * (64 - j)))
      have hsd : pickv (tb y) (sl X D j / 2 ^ (124 + 2 * (64 - j))) = sd X D j := by rw [← Hyy.out]; rfl
      rw [hsd] at hdg
      have hdb : -2 ≤ sd X D j ∧ sd X D j ≤ 2 := pickv_bd' _ _
      have hshl : ∀ (R : List (Nat × Array Value)) (u : Value), BigV R u D → GivesB 19 #[u, .int .i64 (2 * (64 - (j : Int)))] R (D * 2 ^ (2 * (64 - j))) := fun R u h => vshl h cD (2 * (64 - j)) (by omega) (by omega)
      have hnx : sl X D (j + 1) = sl X D j - D * 2 ^ (2 * (64 - j)) * sd X D j := rfl
      have Hdc := Lib.hid (scells_succ X D j)
      have Hlen := Lib.hid (length_scells X D j)
      clear f1 f2 hsd hfacts
      generalize sl X D j / 2 ^ (124 + 2 * (64 - j)) = yy at *
      generalize D * 2 ^ (2 * (64 - j)) = E at *
      generalize sl X D j = l at *
      generalize sd X D j = dd at *
      have Hnx := Lib.hid hnx
      clear hnx
      generalize tb y = bnds at *
      have hdn' := hdn (L ++ (LD ++ R')) _ (hs.mono (by grind))
      clear hdn
      go_wp2_with fail
      try simp only [Act.put, List.setIfInBounds_toArray, List.set_cons_succ, List.set_cons_zero]
      refine wp_region_draws [⟨[(12, none)], none, false, false⟩, ⟨[(44, some 0)], none, false, false⟩, ⟨[(11, none)], none, false, false⟩, ⟨[(15, none)], none, false, false⟩, ⟨[(47, some 3)], none, false, false⟩, ⟨[(48, some 4)], none, false, false⟩, ⟨[(46, some 2), (49, some 5)], none, false, false⟩, ⟨[(45, some 1), (50, some 6)], none, false, false⟩, ⟨[(51, some 7)], none, false, false⟩] 75 (fun w => Ok Non w0 w ((k4, #[.slice ps ms cs, .bool ss]) :: (T ++ [(k3, #[.slice none 0 0, .bool false]), (k2, limbs 8 d), (k1, limbs 8 n)])) (L ++ (LD ++ R'))) (by kernel_rfl) rfl (by kernel_rfl) (hw.grow (below_drew' _)) (fun _ _ h hb => h.grow hb) (fun _ _ _ _ h => h) ?_
      clear hw
      refine ⟨_, stable_is _, ask_run rfl rfl rfl (fun a w hw hk => run_move rfl (eval_of (known_old hk 12 (.head _) (by simp only [List.getElem?_toArray, List.getElem?_cons_zero, List.getElem?_cons_succ, Option.getD_some]; rfl)))), ?_⟩
      refine ⟨_, stable_is _, ask_gives rfl rfl rfl (fun a w hw hk => run_call1 rfl ⟨_, Tryd.func39, by kernel_rfl, by kernel_rfl⟩ (eval_of (known_op hk 44 0 0 (.head _) rfl rfl)))
    hrb (fun w hw => by simp), ?_⟩
      refine ⟨_, stable_is _, ask_run rfl rfl rfl (fun a w hw hk => run_load_agg rfl (eval_of (known_old hk 11 (.head _) rfl)) agg_signed (hw.has (by first | (apply Has.own; (repeat (first | assumption | exact List.mem_cons_self | apply List.mem_cons_of_mem)); done) | (apply Has.read; (repeat (first | assumption | exact List.mem_cons_self | apply List.mem_cons_of_mem)); done))) rfl), ?_⟩
      refine ⟨_, stable_is _, ask_run rfl rfl rfl (fun a w hw hk => run_move rfl (eval_of (known_old hk 15 (.head _) (by simp only [List.getElem?_toArray, List.getElem?_cons_zero, List.getElem?_cons_succ, Option.getD_some]; rfl)))), ?_⟩
      refine ⟨_, stable_is _, ask_run rfl rfl rfl (fun a w hw hk => run_mul_i rfl rfl (eval_of (known_op hk 47 3 0 (.head _) rfl rfl)) (by omega)), ?_⟩
      refine ⟨_, stable_is _, ask_run rfl rfl rfl (fun a w hw hk => run_add_i rfl rfl (eval_of (known_op hk 48 4 0 (.head _) rfl rfl)) (by omega)), ?_⟩
      refine ⟨_, stable_is _, ask_gives rfl rfl rfl (fun a w hw hk => run_call2 rfl ⟨_, Tryd.func40, by kernel_rfl, by kernel_rfl⟩ (eval_of (known_op hk 46 2 3 (.head _) rfl rfl)) (eval_of (known_op hk 49 5 0 (.tail _ (.head _)) rfl rfl)))
    hdn' (fun w hw p hp => hw.reads p hp), ?_⟩
      refine ⟨_, stable_is _, ask_gives rfl rfl rfl (fun a w hw hk => run_call2 rfl ⟨_, Tryd.func38, by kernel_rfl, by kernel_rfl⟩ (eval_of (known_op hk 45 1 5 (.head _) rfl rfl)) (eval_of (known_op hk 50 6 0 (.tail _ (.head _)) rfl rfl)))
    hdg (fun w hw => by simp), ?_⟩
      refine ⟨_, stable_is _, ask_run rfl rfl rfl (fun a w hw hk => run_assign rfl (eval_of (known_op hk 51 7 0 (.head _) rfl rfl))), ?_⟩
      intro w hw
      rintro _ rfl
      rintro _ rfl
      rintro _ rfl
      rintro _ rfl
      rintro _ rfl
      rintro _ rfl
      rintro _ rfl
      rintro _ rfl
      rintro _ rfl
      change wpList _ _ _ _ _ _
      simp only [List.length_cons, List.length_nil, Nat.reduceAdd, Nat.zero_add, List.drop_succ_cons, List.drop_zero, Act.put, List.setIfInBounds_toArray, List.set_cons_succ, List.set_cons_zero]
      clear hdn' hrb hdg
      have : dd = -2 ∨ dd = -1 ∨ dd = 0 ∨ dd = 1 ∨ dd = 2 := by omega
      rcases this with rfl | rfl | rfl | rfl | rfl
      · have hsm := bsmall_calls (n := 2) (by omega) (by omega)
        have hac : (2 : Int) < Cap := cap_of (k := 3) (by omega) (by omega)
        have hEc : E < Cap := by omega
        have Hs := Lib.hid (show true = decide (E * -2 < 0) from (decide_eq_true (by omega)).symm)
        have Hz := Lib.hid (show 2 * E = if E * -2 < 0 then -(E * -2) else E * -2 by split <;> omega)
        have hsub : ∀ (R : List (Nat × Array Value)) (u v : Value), SgnV R u l → SgnV R v (E * -2) → GivesS 41 #[u, v] R (l - E * -2) := fun R u v h1 h2 => ssub_calls h1 h2 f3 f4 (by omega) (by omega)
        have Hac := Lib.hid hac
        have HEc := Lib.hid hEc
        clear f3 f4 f5 f6 hdb hac hEc cD hD0 hD1 hX0 hX1
        go_wp2_with (first | (refine ok_build1 (H := ((k4, #[.slice ps ms cs, .bool ss]) :: (T ++ [(k3, #[.slice none 0 0, .bool false]), (k2, limbs 8 d), (k1, limbs 8 n)]))) hw rfl _ _ _ rfl Tryd.underlying31 one_int zero_int' _ _ rfl ?_; clear hw; intro k6 w hw) | (refine ok_append (Ok.front [_, _] T [(k3, #[.slice none 0 0, .bool false]), (k2, limbs 8 d), (k1, limbs 8 n)] hw) rfl _ _ _ rfl _ Tryd.underlying31 elem_int _ rfl _ hl _ _ _ rfl _ (by apply Has.own; (repeat (first | exact List.mem_cons_self | apply List.mem_cons_of_mem | exact List.mem_append_right _ (List.mem_cons_self)))) rfl (by simp [Value.oneCell']) (by rw [Hlen.out]; omega) ?_; clear hw; intro w T' v' hl' hw'; have hw3 : Ok Non w0 w (T' ++ ((k4, #[.slice ps ms cs, .bool ss]) :: [(k3, #[.slice none 0 0, .bool false]), (k2, limbs 8 d), (k1, limbs 8 n)])) (L ++ (LD ++ R')) := hw'.sub (List.Sublist.append (List.Sublist.refl T') (List.Sublist.cons _ (List.Sublist.refl _))) (fun q h => h); have hw : Ok Non w0 w ((k4, #[.slice ps ms cs, .bool ss]) :: (T' ++ [(k3, #[.slice none 0 0, .bool false]), (k2, limbs 8 d), (k1, limbs 8 n)])) (L ++ (LD ++ R')) := hw3.perm List.perm_middle.symm; clear hw' hw3) | (refine ok_max rfl _ _ _ rfl .i64 (-2) (2) 2 rfl rfl rfl ?_) | (go_at_call 23; refine hsm.use hw (by simp) ?_; clear hw; intro w z0 L0 hz0 hf0 hw) | (go_at_call 19; refine (hshl (L0 ++ (L ++ (LD ++ R'))) _ (hzD.mono (by grind))).use hw sub_all ?_; clear hw; intro w z1 L1 hz1 hf1 hw) | (go_at_call 22; refine (vmul (hz0.mono (R' := L1 ++ (L0 ++ (L ++ (LD ++ R')))) (by grind)) (hz1.mono (by grind)) Hac.out HEc.out).use hw sub_all ?_; clear hw; intro w zx Lx hzx hfx hw) | (refine ok_signed2 (R := Lx) rfl _ _ rfl _ rfl _ rfl hzx Hs.out Hz.out ?_; intro px nx cx hsx) | (refine ok_alloc (H := ((k4, #[.slice ps ms cs, .bool ss]) :: (T' ++ [(k3, #[.slice none 0 0, .bool false]), (k2, limbs 8 d), (k1, limbs 8 n)]))) hw rfl 38 rfl _ zero_signed ?_; clear hw; intro k5 w hw) | (refine ok_store hw rfl 38 _ _ rfl _ rfl _ rfl 2 agg_signed _ (.head _) rfl rfl (by simp [Ones, Value.oneCell']) ?_; clear hw; intro w hw) | (refine ok_store hw rfl 38 _ _ rfl _ rfl _ rfl 2 agg_signed _ (.tail _ (.head _)) rfl rfl (by simp [Ones, Value.oneCell']) ?_; clear hw; intro w hw) | (refine ok_load hw rfl 38 _ rfl _ rfl _ agg_signed _ (Has.own (.head _)) rfl ?_) | (refine ok_load hw rfl 38 _ rfl _ rfl _ agg_signed _ (Has.own (.tail _ (.head _))) rfl ?_) | (go_at_call 41; refine (hsub (Lx ++ (L1 ++ (L0 ++ (L ++ (LD ++ R'))))) _ _ (hs.mono (by grind)) (hsx.mono (by grind))).use hw sub_all ?_; clear hw; intro w vr Lr hr hfr hw; rw [← Hnx.out] at hr; have hr2 := hr; obtain ⟨pr, nr, cr, rfl, _⟩ := hr2))
        rw [← Hdc.out] at hl'
        exact ⟨⟨j + 1, T', Lr, pr, nr, cr, _, by omega, by go_num, hl', hr, hfr, hw.sub (List.Sublist.cons _ (List.Sublist.refl _)) (by grind)⟩, by simp [intOf]; omega⟩
      · have hsm := bsmall_calls (n := 1) (by omega) (by omega)
        have hac : (1 : Int) < Cap := cap_of (k := 3) (by omega) (by omega)
        have hEc : E < Cap := by omega
        have Hs := Lib.hid (show true = decide (E * -1 < 0) from (decide_eq_true (by omega)).symm)
        have Hz := Lib.hid (show 1 * E = if E * -1 < 0 then -(E * -1) else E * -1 by split <;> omega)
        have hsub : ∀ (R : List (Nat × Array Value)) (u v : Value), SgnV R u l → SgnV R v (E * -1) → GivesS 41 #[u, v] R (l - E * -1) := fun R u v h1 h2 => ssub_calls h1 h2 f3 f4 (by omega) (by omega)
        have Hac := Lib.hid hac
        have HEc := Lib.hid hEc
        clear f3 f4 f5 f6 hdb hac hEc cD hD0 hD1 hX0 hX1
        go_wp2_with (first | (refine ok_build1 (H := ((k4, #[.slice ps ms cs, .bool ss]) :: (T ++ [(k3, #[.slice none 0 0, .bool false]), (k2, limbs 8 d), (k1, limbs 8 n)]))) hw rfl _ _ _ rfl Tryd.underlying31 one_int zero_int' _ _ rfl ?_; clear hw; intro k6 w hw) | (refine ok_append (Ok.front [_, _] T [(k3, #[.slice none 0 0, .bool false]), (k2, limbs 8 d), (k1, limbs 8 n)] hw) rfl _ _ _ rfl _ Tryd.underlying31 elem_int _ rfl _ hl _ _ _ rfl _ (by apply Has.own; (repeat (first | exact List.mem_cons_self | apply List.mem_cons_of_mem | exact List.mem_append_right _ (List.mem_cons_self)))) rfl (by simp [Value.oneCell']) (by rw [Hlen.out]; omega) ?_; clear hw; intro w T' v' hl' hw'; have hw3 : Ok Non w0 w (T' ++ ((k4, #[.slice ps ms cs, .bool ss]) :: [(k3, #[.slice none 0 0, .bool false]), (k2, limbs 8 d), (k1, limbs 8 n)])) (L ++ (LD ++ R')) := hw'.sub (List.Sublist.append (List.Sublist.refl T') (List.Sublist.cons _ (List.Sublist.refl _))) (fun q h => h); have hw : Ok Non w0 w ((k4, #[.slice ps ms cs, .bool ss]) :: (T' ++ [(k3, #[.slice none 0 0, .bool false]), (k2, limbs 8 d), (k1, limbs 8 n)])) (L ++ (LD ++ R')) := hw3.perm List.perm_middle.symm; clear hw' hw3) | (refine ok_max rfl _ _ _ rfl .i64 (-1) (1) 1 rfl rfl rfl ?_) | (go_at_call 23; refine hsm.use hw (by simp) ?_; clear hw; intro w z0 L0 hz0 hf0 hw) | (go_at_call 19; refine (hshl (L0 ++ (L ++ (LD ++ R'))) _ (hzD.mono (by grind))).use hw sub_all ?_; clear hw; intro w z1 L1 hz1 hf1 hw) | (go_at_call 22; refine (vmul (hz0.mono (R' := L1 ++ (L0 ++ (L ++ (LD ++ R')))) (by grind)) (hz1.mono (by grind)) Hac.out HEc.out).use hw sub_all ?_; clear hw; intro w zx Lx hzx hfx hw) | (refine ok_signed2 (R := Lx) rfl _ _ rfl _ rfl _ rfl hzx Hs.out Hz.out ?_; intro px nx cx hsx) | (refine ok_alloc (H := ((k4, #[.slice ps ms cs, .bool ss]) :: (T' ++ [(k3, #[.slice none 0 0, .bool false]), (k2, limbs 8 d), (k1, limbs 8 n)]))) hw rfl 38 rfl _ zero_signed ?_; clear hw; intro k5 w hw) | (refine ok_store hw rfl 38 _ _ rfl _ rfl _ rfl 2 agg_signed _ (.head _) rfl rfl (by simp [Ones, Value.oneCell']) ?_; clear hw; intro w hw) | (refine ok_store hw rfl 38 _ _ rfl _ rfl _ rfl 2 agg_signed _ (.tail _ (.head _)) rfl rfl (by simp [Ones, Value.oneCell']) ?_; clear hw; intro w hw) | (refine ok_load hw rfl 38 _ rfl _ rfl _ agg_signed _ (Has.own (.head _)) rfl ?_) | (refine ok_load hw rfl 38 _ rfl _ rfl _ agg_signed _ (Has.own (.tail _ (.head _))) rfl ?_) | (go_at_call 41; refine (hsub (Lx ++ (L1 ++ (L0 ++ (L ++ (LD ++ R'))))) _ _ (hs.mono (by grind)) (hsx.mono (by grind))).use hw sub_all ?_; clear hw; intro w vr Lr hr hfr hw; rw [← Hnx.out] at hr; have hr2 := hr; obtain ⟨pr, nr, cr, rfl, _⟩ := hr2))
        rw [← Hdc.out] at hl'
        exact ⟨⟨j + 1, T', Lr, pr, nr, cr, _, by omega, by go_num, hl', hr, hfr, hw.sub (List.Sublist.cons _ (List.Sublist.refl _)) (by grind)⟩, by simp [intOf]; omega⟩
      · have hsm := bsmall_calls (n := 0) (by omega) (by omega)
        have hac : (0 : Int) < Cap := cap_of (k := 3) (by omega) (by omega)
        have hEc : E < Cap := by omega
        have Hs := Lib.hid (show false = decide (E * 0 < 0) from (decide_eq_false (by omega)).symm)
        have Hz := Lib.hid (show 0 * E = if E * 0 < 0 then -(E * 0) else E * 0 by split <;> omega)
        have hsub : ∀ (R : List (Nat × Array Value)) (u v : Value), SgnV R u l → SgnV R v (E * 0) → GivesS 41 #[u, v] R (l - E * 0) := fun R u v h1 h2 => ssub_calls h1 h2 f3 f4 (by omega) (by omega)
        have Hac := Lib.hid hac
        have HEc := Lib.hid hEc
        clear f3 f4 f5 f6 hdb hac hEc cD hD0 hD1 hX0 hX1
        go_wp2_with (first | (refine ok_build1 (H := ((k4, #[.slice ps ms cs, .bool ss]) :: (T ++ [(k3, #[.slice none 0 0, .bool false]), (k2, limbs 8 d), (k1, limbs 8 n)]))) hw rfl _ _ _ rfl Tryd.underlying31 one_int zero_int' _ _ rfl ?_; clear hw; intro k6 w hw) | (refine ok_append (Ok.front [_, _] T [(k3, #[.slice none 0 0, .bool false]), (k2, limbs 8 d), (k1, limbs 8 n)] hw) rfl _ _ _ rfl _ Tryd.underlying31 elem_int _ rfl _ hl _ _ _ rfl _ (by apply Has.own; (repeat (first | exact List.mem_cons_self | apply List.mem_cons_of_mem | exact List.mem_append_right _ (List.mem_cons_self)))) rfl (by simp [Value.oneCell']) (by rw [Hlen.out]; omega) ?_; clear hw; intro w T' v' hl' hw'; have hw3 : Ok Non w0 w (T' ++ ((k4, #[.slice ps ms cs, .bool ss]) :: [(k3, #[.slice none 0 0, .bool false]), (k2, limbs 8 d), (k1, limbs 8 n)])) (L ++ (LD ++ R')) := hw'.sub (List.Sublist.append (List.Sublist.refl T') (List.Sublist.cons _ (List.Sublist.refl _))) (fun q h => h); have hw : Ok Non w0 w ((k4, #[.slice ps ms cs, .bool ss]) :: (T' ++ [(k3, #[.slice none 0 0, .bool false]), (k2, limbs 8 d), (k1, limbs 8 n)])) (L ++ (LD ++ R')) := hw3.perm List.perm_middle.symm; clear hw' hw3) | (refine ok_max rfl _ _ _ rfl .i64 (0) (0) 0 rfl rfl rfl ?_) | (go_at_call 23; refine hsm.use hw (by simp) ?_; clear hw; intro w z0 L0 hz0 hf0 hw) | (go_at_call 19; refine (hshl (L0 ++ (L ++ (LD ++ R'))) _ (hzD.mono (by grind))).use hw sub_all ?_; clear hw; intro w z1 L1 hz1 hf1 hw) | (go_at_call 22; refine (vmul (hz0.mono (R' := L1 ++ (L0 ++ (L ++ (LD ++ R')))) (by grind)) (hz1.mono (by grind)) Hac.out HEc.out).use hw sub_all ?_; clear hw; intro w zx Lx hzx hfx hw) | (refine ok_signed2 (R := Lx) rfl _ _ rfl _ rfl _ rfl hzx Hs.out Hz.out ?_; intro px nx cx hsx) | (refine ok_alloc (H := ((k4, #[.slice ps ms cs, .bool ss]) :: (T' ++ [(k3, #[.slice none 0 0, .bool false]), (k2, limbs 8 d), (k1, limbs 8 n)]))) hw rfl 38 rfl _ zero_signed ?_; clear hw; intro k5 w hw) | (refine ok_store hw rfl 38 _ _ rfl _ rfl _ rfl 2 agg_signed _ (.head _) rfl rfl (by simp [Ones, Value.oneCell']) ?_; clear hw; intro w hw) | (refine ok_store hw rfl 38 _ _ rfl _ rfl _ rfl 2 agg_signed _ (.tail _ (.head _)) rfl rfl (by simp [Ones, Value.oneCell']) ?_; clear hw; intro w hw) | (refine ok_load hw rfl 38 _ rfl _ rfl _ agg_signed _ (Has.own (.head _)) rfl ?_) | (refine ok_load hw rfl 38 _ rfl _ rfl _ agg_signed _ (Has.own (.tail _ (.head _))) rfl ?_) | (go_at_call 41; refine (hsub (Lx ++ (L1 ++ (L0 ++ (L ++ (LD ++ R'))))) _ _ (hs.mono (by grind)) (hsx.mono (by grind))).use hw sub_all ?_; clear hw; intro w vr Lr hr hfr hw; rw [← Hnx.out] at hr; have hr2 := hr; obtain ⟨pr, nr, cr, rfl, _⟩ := hr2))
        rw [← Hdc.out] at hl'
        exact ⟨⟨j + 1, T', Lr, pr, nr, cr, _, by omega, by go_num, hl', hr, hfr, hw.sub (List.Sublist.cons _ (List.Sublist.refl _)) (by grind)⟩, by simp [intOf]; omega⟩
      · have hsm := bsmall_calls (n := 1) (by omega) (by omega)
        have hac : (1 : Int) < Cap := cap_of (k := 3) (by omega) (by omega)
        have hEc : E < Cap := by omega
        have Hs := Lib.hid (show false = decide (E * 1 < 0) from (decide_eq_false (by omega)).symm)
        have Hz := Lib.hid (show 1 * E = if E * 1 < 0 then -(E * 1) else E * 1 by split <;> omega)
        have hsub : ∀ (R : List (Nat × Array Value)) (u v : Value), SgnV R u l → SgnV R v (E * 1) → GivesS 41 #[u, v] R (l - E * 1) := fun R u v h1 h2 => ssub_calls h1 h2 f3 f4 (by omega) (by omega)
        have Hac := Lib.hid hac
        have HEc := Lib.hid hEc
        clear f3 f4 f5 f6 hdb hac hEc cD hD0 hD1 hX0 hX1
        go_wp2_with (first | (refine ok_build1 (H := ((k4, #[.slice ps ms cs, .bool ss]) :: (T ++ [(k3, #[.slice none 0 0, .bool false]), (k2, limbs 8 d), (k1, limbs 8 n)]))) hw rfl _ _ _ rfl Tryd.underlying31 one_int zero_int' _ _ rfl ?_; clear hw; intro k6 w hw) | (refine ok_append (Ok.front [_, _] T [(k3, #[.slice none 0 0, .bool false]), (k2, limbs 8 d), (k1, limbs 8 n)] hw) rfl _ _ _ rfl _ Tryd.underlying31 elem_int _ rfl _ hl _ _ _ rfl _ (by apply Has.own; (repeat (first | exact List.mem_cons_self | apply List.mem_cons_of_mem | exact List.mem_append_right _ (List.mem_cons_self)))) rfl (by simp [Value.oneCell']) (by rw [Hlen.out]; omega) ?_; clear hw; intro w T' v' hl' hw'; have hw3 : Ok Non w0 w (T' ++ ((k4, #[.slice ps ms cs, .bool ss]) :: [(k3, #[.slice none 0 0, .bool false]), (k2, limbs 8 d), (k1, limbs 8 n)])) (L ++ (LD ++ R')) := hw'.sub (List.Sublist.append (List.Sublist.refl T') (List.Sublist.cons _ (List.Sublist.refl _))) (fun q h => h); have hw : Ok Non w0 w ((k4, #[.slice ps ms cs, .bool ss]) :: (T' ++ [(k3, #[.slice none 0 0, .bool false]), (k2, limbs 8 d), (k1, limbs 8 n)])) (L ++ (LD ++ R')) := hw3.perm List.perm_middle.symm; clear hw' hw3) | (refine ok_max rfl _ _ _ rfl .i64 (1) (-1) 1 rfl rfl rfl ?_) | (go_at_call 23; refine hsm.use hw (by simp) ?_; clear hw; intro w z0 L0 hz0 hf0 hw) | (go_at_call 19; refine (hshl (L0 ++ (L ++ (LD ++ R'))) _ (hzD.mono (by grind))).use hw sub_all ?_; clear hw; intro w z1 L1 hz1 hf1 hw) | (go_at_call 22; refine (vmul (hz0.mono (R' := L1 ++ (L0 ++ (L ++ (LD ++ R')))) (by grind)) (hz1.mono (by grind)) Hac.out HEc.out).use hw sub_all ?_; clear hw; intro w zx Lx hzx hfx hw) | (refine ok_signed2 (R := Lx) rfl _ _ rfl _ rfl _ rfl hzx Hs.out Hz.out ?_; intro px nx cx hsx) | (refine ok_alloc (H := ((k4, #[.slice ps ms cs, .bool ss]) :: (T' ++ [(k3, #[.slice none 0 0, .bool false]), (k2, limbs 8 d), (k1, limbs 8 n)]))) hw rfl 38 rfl _ zero_signed ?_; clear hw; intro k5 w hw) | (refine ok_store hw rfl 38 _ _ rfl _ rfl _ rfl 2 agg_signed _ (.head _) rfl rfl (by simp [Ones, Value.oneCell']) ?_; clear hw; intro w hw) | (refine ok_store hw rfl 38 _ _ rfl _ rfl _ rfl 2 agg_signed _ (.tail _ (.head _)) rfl rfl (by simp [Ones, Value.oneCell']) ?_; clear hw; intro w hw) | (refine ok_load hw rfl 38 _ rfl _ rfl _ agg_signed _ (Has.own (.head _)) rfl ?_) | (refine ok_load hw rfl 38 _ rfl _ rfl _ agg_signed _ (Has.own (.tail _ (.head _))) rfl ?_) | (go_at_call 41; refine (hsub (Lx ++ (L1 ++ (L0 ++ (L ++ (LD ++ R'))))) _ _ (hs.mono (by grind)) (hsx.mono (by grind))).use hw sub_all ?_; clear hw; intro w vr Lr hr hfr hw; rw [← Hnx.out] at hr; have hr2 := hr; obtain ⟨pr, nr, cr, rfl, _⟩ := hr2))
        rw [← Hdc.out] at hl'
        exact ⟨⟨j + 1, T', Lr, pr, nr, cr, _, by omega, by go_num, hl', hr, hfr, hw.sub (List.Sublist.cons _ (List.Sublist.refl _)) (by grind)⟩, by simp [intOf]; omega⟩
      · have hsm := bsmall_calls (n := 2) (by omega) (by omega)
        have hac : (2 : Int) < Cap := cap_of (k := 3) (by omega) (by omega)
        have hEc : E < Cap := by omega
        have Hs := Lib.hid (show false = decide (E * 2 < 0) from (decide_eq_false (by omega)).symm)
        have Hz := Lib.hid (show 2 * E = if E * 2 < 0 then -(E * 2) else E * 2 by split <;> omega)
        have hsub : ∀ (R : List (Nat × Array Value)) (u v : Value), SgnV R u l → SgnV R v (E * 2) → GivesS 41 #[u, v] R (l - E * 2) := fun R u v h1 h2 => ssub_calls h1 h2 f3 f4 (by omega) (by omega)
        have Hac := Lib.hid hac
        have HEc := Lib.hid hEc
        clear f3 f4 f5 f6 hdb hac hEc cD hD0 hD1 hX0 hX1
        go_wp2_with (first | (refine ok_build1 (H := ((k4, #[.slice ps ms cs, .bool ss]) :: (T ++ [(k3, #[.slice none 0 0, .bool false]), (k2, limbs 8 d), (k1, limbs 8 n)]))) hw rfl _ _ _ rfl Tryd.underlying31 one_int zero_int' _ _ rfl ?_; clear hw; intro k6 w hw) | (refine ok_append (Ok.front [_, _] T [(k3, #[.slice none 0 0, .bool false]), (k2, limbs 8 d), (k1, limbs 8 n)] hw) rfl _ _ _ rfl _ Tryd.underlying31 elem_int _ rfl _ hl _ _ _ rfl _ (by apply Has.own; (repeat (first | exact List.mem_cons_self | apply List.mem_cons_of_mem | exact List.mem_append_right _ (List.mem_cons_self)))) rfl (by simp [Value.oneCell']) (by rw [Hlen.out]; omega) ?_; clear hw; intro w T' v' hl' hw'; have hw3 : Ok Non w0 w (T' ++ ((k4, #[.slice ps ms cs, .bool ss]) :: [(k3, #[.slice none 0 0, .bool false]), (k2, limbs 8 d), (k1, limbs 8 n)])) (L ++ (LD ++ R')) := hw'.sub (List.Sublist.append (List.Sublist.refl T') (List.Sublist.cons _ (List.Sublist.refl _))) (fun q h => h); have hw : Ok Non w0 w ((k4, #[.slice ps ms cs, .bool ss]) :: (T' ++ [(k3, #[.slice none 0 0, .bool false]), (k2, limbs 8 d), (k1, limbs 8 n)])) (L ++ (LD ++ R')) := hw3.perm List.perm_middle.symm; clear hw' hw3) | (refine ok_max rfl _ _ _ rfl .i64 (2) (-2) 2 rfl rfl rfl ?_) | (go_at_call 23; refine hsm.use hw (by simp) ?_; clear hw; intro w z0 L0 hz0 hf0 hw) | (go_at_call 19; refine (hshl (L0 ++ (L ++ (LD ++ R'))) _ (hzD.mono (by grind))).use hw sub_all ?_; clear hw; intro w z1 L1 hz1 hf1 hw) | (go_at_call 22; refine (vmul (hz0.mono (R' := L1 ++ (L0 ++ (L ++ (LD ++ R')))) (by grind)) (hz1.mono (by grind)) Hac.out HEc.out).use hw sub_all ?_; clear hw; intro w zx Lx hzx hfx hw) | (refine ok_signed2 (R := Lx) rfl _ _ rfl _ rfl _ rfl hzx Hs.out Hz.out ?_; intro px nx cx hsx) | (refine ok_alloc (H := ((k4, #[.slice ps ms cs, .bool ss]) :: (T' ++ [(k3, #[.slice none 0 0, .bool false]), (k2, limbs 8 d), (k1, limbs 8 n)]))) hw rfl 38 rfl _ zero_signed ?_; clear hw; intro k5 w hw) | (refine ok_store hw rfl 38 _ _ rfl _ rfl _ rfl 2 agg_signed _ (.head _) rfl rfl (by simp [Ones, Value.oneCell']) ?_; clear hw; intro w hw) | (refine ok_store hw rfl 38 _ _ rfl _ rfl _ rfl 2 agg_signed _ (.tail _ (.head _)) rfl rfl (by simp [Ones, Value.oneCell']) ?_; clear hw; intro w hw) | (refine ok_load hw rfl 38 _ rfl _ rfl _ agg_signed _ (Has.own (.head _)) rfl ?_) | (refine ok_load hw rfl 38 _ rfl _ rfl _ agg_signed _ (Has.own (.tail _ (.head _))) rfl ?_) | (go_at_call 41; refine (hsub (Lx ++ (L1 ++ (L0 ++ (L ++ (LD ++ R'))))) _ _ (hs.mono (by grind)) (hsx.mono (by grind))).use hw sub_all ?_; clear hw; intro w vr Lr hr hfr hw; rw [← Hnx.out] at hr; have hr2 := hr; obtain ⟨pr, nr, cr, rfl, _⟩ := hr2))
        rw [← Hdc.out] at hl'
        exact ⟨⟨j + 1, T', Lr, pr, nr, cr, _, by omega, by go_num, hl', hr, hfr, hw.sub (List.Sublist.cons _ (List.Sublist.refl _)) (by grind)⟩, by simp [intOf]; omega⟩
    · have hj2 : j = steps := by omega
      subst hj2
      clear hfacts
      go_wp2_with fail
      try simp only [Act.put, List.setIfInBounds_toArray, List.set_cons_succ, List.set_cons_zero]
      refine wp_region_draws [⟨[(13, none)], none, false, false⟩, ⟨[(11, none)], none, false, false⟩, ⟨[(73, some 0)], none, false, false⟩] 75 (fun w => Ok Non w0 w ((k4, #[.slice ps ms cs, .bool ss]) :: (T ++ [(k3, #[.slice none 0 0, .bool false]), (k2, limbs 8 d), (k1, limbs 8 n)])) (L ++ (LD ++ R'))) (by kernel_rfl) rfl (by kernel_rfl) (hw.grow (below_drew' _)) (fun _ _ h hb => h.grow hb) (fun _ _ _ _ h => h) ?_
      clear hw
      refine ⟨_, stable_is _, ask_run rfl rfl rfl (fun a w hw hk => run_move rfl (eval_of (known_old hk 13 (.head _) (by simp only [List.getElem?_toArray, List.getElem?_cons_zero, List.getElem?_cons_succ, Option.getD_some]; rfl)))), ?_⟩
      refine ⟨_, stable_is _, ask_run rfl rfl rfl (fun a w hw hk => run_load_agg rfl (eval_of (known_old hk 11 (.head _) rfl)) agg_signed (hw.has (by first | (apply Has.own; (repeat (first | assumption | exact List.mem_cons_self | apply List.mem_cons_of_mem)); done) | (apply Has.read; (repeat (first | assumption | exact List.mem_cons_self | apply List.mem_cons_of_mem)); done))) rfl), ?_⟩
      refine ⟨_, stable_is _, ask_run rfl rfl rfl (fun a w hw hk => run_assign rfl (eval_of (known_op hk 73 0 1 (.head _) rfl rfl))), ?_⟩
      intro w hw
      rintro _ rfl
      rintro _ rfl
      rintro _ rfl
      change wpList _ _ _ _ _ _
      simp only [List.length_cons, List.length_nil, Nat.reduceAdd, Nat.zero_add, List.drop_succ_cons, List.drop_zero, Act.put, List.setIfInBounds_toArray, List.set_cons_succ, List.set_cons_zero]
      have hfT : Fresh w0 T := fun q hq => (hw.own q (List.mem_cons_of_mem _ (List.mem_append_left _ hq))).elim id (fun x => x.elim)
      have hw3 := Ok.freeze (H := [(k3, #[.slice none 0 0, .bool false]), (k2, limbs 8 d), (k1, limbs 8 n)]) (hw.sub (List.Sublist.cons _ (List.Sublist.refl _)) (fun q h => h))
      clear hw
      have hw := hw3
      clear hw3
      go_wp2_with (refine ok_store hw rfl 38 _ _ rfl _ rfl _ rfl 2 agg_signed _ (.head _) rfl rfl (by simp [Ones, Value.oneCell']) ?_; clear hw; intro w hw)
      refine ret_tc rfl rfl rfl agg_signed (hw.rows _ (.head _)) rfl rfl ⟨_, _, T, L, rfl, hl, hs, hfT, hf, hw.sub (List.nil_sublist _) (by grind)⟩

theorem run15_use (n d : Int) (hn0 : 0 ≤ n) (hn1 : n < M) (hd0 : 0 < d) (hd1 : d < 2 ^ 120) (hq : n < d * 2 ^ 128) (steps : Nat) (hst : steps ≤ 65) {S : Nat → Prop} {w0 w : World} {H R' : List (Nat × Array Value)} (hw : Ok S w0 w H R') {k : Int} (hk : k = (steps : Int)) {K : Ending → World → Prop}
    (h : ∀ w' v z T L, Lst T v (scells (n * 2 ^ sby d) (d * 2 ^ sby d) steps) → SgnV L z (sl (n * 2 ^ sby d) (d * 2 ^ sby d) steps) → Fresh w0 T → Fresh w0 L → Ok S w0 w' H (T ++ (L ++ R')) → K (.returned (.tuple #[v, z])) w') :
    Calls Tryd.prog 12 #[W n, W d, .int .i64 k] w K := by
  subst hk
  refine (run15_calls n d hn0 hn1 hd0 hd1 hq steps hst (w0 := w) (w := w) (R' := R') (Ok.read fun p hp => hw.reads p hp)).mono ?_
  rintro e w' ⟨v, z, T, L, rfl, hl, hz, hfT, hfL, hw'⟩
  refine h w' v z T L hl hz (fun q hq => Nat.le_trans hw.size (hfT q hq)) (fun q hq => Nat.le_trans hw.size (hfL q hq)) ?_
  rw [← List.append_assoc]
  refine hw.reads_new hw'.below fun q hq => ?_
  rcases List.mem_append.1 hq with hq | hq
  · exact ⟨hw'.reads q (List.mem_append_left _ hq), hfT q hq⟩
  · exact ⟨hw'.reads q (List.mem_append_right _ (List.mem_append_left _ hq)), hfL q hq⟩

set_option maxRecDepth 100000 in
set_option maxHeartbeats 2000000 in
theorem law15_digits_none (n d : Int) (hn0 : 0 ≤ n) (hn1 : n < M) (hd0 : 0 ≤ d) (hd1 : d < M) (hmv : mayv n d ≠ 0) : Gives Tryd.prog 4 #[W n, W d] TR (.bool true) := by
  refine .mk fun w0 w hw => ?_
  have hmay := may11_gives n d hn0 hn1 hd0 hd1
  have hd := fun H w R hR hw => sdigits_calls n d hn0 hn1 hd0 hd1 Non w0 w H R hR hw
  have e1 : sdigits n d = [] := by unfold sdigits; rw [if_neg hmv]
  rw [e1] at hd
  clear hn0 hn1 hd0 hd1 e1
  generalize mayv n d = er at *
  have hne : (er != 0) = true := by simpa using hmv
  go_enter Tryd.func4, Tryd.ntmps4
  go_wp2_with (first | (refine w_box (H := []) hw rfl 24 _ rfl _ rfl ?_; clear hw; intro k1 w hw) | (refine w_box (H := [_]) hw rfl 24 _ rfl _ rfl ?_; clear hw; intro k2 w hw) | (refine w_load hw rfl 24 _ rfl _ rfl agg_wide _ (by first | (apply Has.own; (repeat (first | assumption | exact List.mem_cons_self | apply List.mem_cons_of_mem)); done) | (apply Has.read; (repeat (first | assumption | exact List.mem_cons_self | apply List.mem_cons_of_mem)); done)) ?_) | (go_at_call 10; refine (hd _ _ _ sub_all hw).mono ?_; rintro e w ⟨v, T, hl, rfl, hw'⟩; clear hw; have hw := Ok.freeze (T := T) hw'; clear hw'; obtain ⟨p, c, rfl⟩ := hl.slice) | (go_at_call 11; refine hmay.call0 hw ?_; clear hw; intro w hw) | (go_at_call 9; refine awake15_gives.of hw (fun q h => List.mem_append_right _ h) ?_; clear hw; intro w hw))
  go_ret
  exact ⟨rfl, hw.below⟩

set_option maxRecDepth 100000 in
set_option maxHeartbeats 2000000 in
theorem law15_digits_some (n d : Int) (hn0 : 0 ≤ n) (hn1 : n < M) (hd0 : 0 ≤ d) (hd1 : d < M) (hmv : mayv n d = 0) : Gives Tryd.prog 4 #[W n, W d] TR (.bool true) := by
  refine .mk fun w0 w hw => ?_
  have hmay := may11_gives n d hn0 hn1 hd0 hd1
  have hd := fun H w R hR hw => sdigits_calls n d hn0 hn1 hd0 hd1 Non w0 w H R hR hw
  have e1 : sdigits n d = scells (n * 2 ^ sby d) (d * 2 ^ sby d) 65 := by unfold sdigits; rw [if_pos hmv]
  obtain ⟨h1, h2, h3⟩ := mayv_zero hd0 hmv
  have hrun := fun w H R hw K h => run15_use n d hn0 hn1 h1 h2 h3 65 (by omega) (S := Non) (w0 := w0) (w := w) (H := H) (R' := R) hw (k := 65) rfl (K := K) h
  rw [e1, hmv] at hd
  rw [hmv] at hmay
  clear hn0 hn1 hd0 hd1 h1 h2 h3 e1 hmv
  generalize n * 2 ^ sby d = X at *
  generalize d * 2 ^ sby d = D at *
  have hlen := Lib.hid (length_scells X D 65)
  have hget : ∀ i, i < 65 → (scells X D 65)[i]? = some (.int .i64 (sd X D i)) := fun i hi => by simp [scells, hi]
  have hnil : scells X D 65 ≠ [] := fun h => by have := hlen.out; rw [h] at this; cases this
  generalize sl X D 65 = lf at *
  generalize hds : scells X D 65 = ds at *
  clear hds
  generalize sd X D = sdn at *
  go_enter Tryd.func4, Tryd.ntmps4
  go_wp2_with (first | (refine w_box (H := []) hw rfl 24 _ rfl _ rfl ?_; clear hw; intro k1 w hw) | (refine w_box (H := [_]) hw rfl 24 _ rfl _ rfl ?_; clear hw; intro k2 w hw) | (refine w_load hw rfl 24 _ rfl _ rfl agg_wide _ (by first | (apply Has.own; (repeat (first | assumption | exact List.mem_cons_self | apply List.mem_cons_of_mem)); done) | (apply Has.read; (repeat (first | assumption | exact List.mem_cons_self | apply List.mem_cons_of_mem)); done)) ?_) | (go_at_call 10; refine (hd _ _ _ sub_all hw).mono ?_; rintro e w ⟨v, T, hl, rfl, hw'⟩; clear hw; have hw := Ok.freeze (T := T) hw'; clear hw'; obtain ⟨g, c, cs, rfl, rfl, hcs⟩ := hl.rows hnil; rw [hlen.out]) | (go_at_call 12; refine hrun _ _ _ hw _ ?_; clear hw; intro w v2 z2 T2 L2 hl2 hz2 hf2 hf3 hw; obtain ⟨g2, c2, cs2, rfl, rfl, hcs2⟩ := hl2.rows hnil; rw [hlen.out]; obtain ⟨pz, nz, cz, rfl, _⟩ := hz2) | (refine ok_alloc hw rfl 38 rfl _ zero_signed ?_; clear hw; intro k3 w hw) | (refine ok_store hw rfl 38 _ _ rfl _ rfl _ rfl 2 agg_signed _ (.head _) rfl rfl (by simp [Ones, Value.oneCell']) ?_; clear hw; intro w hw) | (go_at_call 13; refine (same_gives sdn (n := 65) (by omega) (fun i hi => (hcs i (by rw [hlen.out]; exact hi)).trans (hget i hi)) (fun i hi => (hcs2 i (by rw [hlen.out]; exact hi)).trans (hget i hi))).of hw (by grind) ?_; clear hw; intro w hw) | (go_at_call 11; refine hmay.call0 hw ?_; clear hw; intro w hw) | (go_at_call 9; refine awake15_gives.of hw (by grind) ?_; clear hw; intro w hw))
  go_ret
  exact ⟨rfl, hw.below⟩
theorem law15_digits (n d : Int) (hn0 : 0 ≤ n) (hn1 : n < M) (hd0 : 0 ≤ d) (hd1 : d < M) : Gives Tryd.prog 4 #[W n, W d] TR (.bool true) := by
  by_cases hmv : mayv n d = 0
  · exact law15_digits_some n d hn0 hn1 hd0 hd1 hmv
  · exact law15_digits_none n d hn0 hn1 hd0 hd1 hmv
end Go.Proofs.YtcodmeljjphoeaaDoor
