/-
  The references' root by digits: the run.
-/
import Derived.Test.YtcodmeljjphoeaaBigQ
import Derived.Test.YtcodmeljjphoeaaBigPr
import Derived.Test.YtcodmeljjphoeaaRootC
namespace Go.Proofs.Ytcodmeljjphoeaa
open Go.RowKit
set_option linter.unusedVariables false
set_option linter.unusedSimpArgs false

theorem run_load_agg {P : Program} {o : Oper} {ρ : Operand → Value} {w : World} {t n : Nat} {x : Operand} (ho : o.op = .load t x) {k : Nat} {cs : Array Value} (hx : ρ x = .pointer (some ⟨k, 0, none⟩)) (hg : Agg P t n) (h : Blk w k cs) (hn : cs.size = n) : (execOp ρ o).run P w = .ok (.value (.agg cs)) w := by
  rw [run_load_part ho h hx hg (by omega), extract_all _ n hn]
theorem built_signed1 (p : Option Addr) (n c : Nat) : Try.prog.built 69 [(0, .slice p n c)] = some #[.slice p n c, .bool false] := by kernel_rfl
theorem ok_signed1 {ops : Array Oper} {Q : Exit → Act → World → Prop} {rest : List Oper} {o : Oper} {a : Act} {w : World} {R : List (Nat × Array Value)} {b : Int} (hgd : o.guard = none) (x : Operand) (ho : o.op = .build 69 #[(0, x)]) (v : Value) (hx : a.eval x = v) (hb : BigV R v b)
    (hk : ∀ p n c, SgnV R (.agg #[.slice p n c, .bool false]) b → wpList Try.prog ops Q rest (a.put o.dst (.agg #[.slice p n c, .bool false])) w) : wpList Try.prog ops Q (o :: rest) a w := by
  obtain ⟨p, n, c, rfl⟩ := hb.slice
  have := run_build (P := Try.prog) w 69 #[(0, .slice p n c)] #[.slice p n c, .bool false] (built_signed1 p n c)
  exact wpL_value hgd (by simp only [execOp, ho, List.map_toArray, List.map_cons, List.map_nil, hx, Sem.run_bind, this, Result.andThen_ok, Sem.run_pure]) (hk p n c (sgnv_of hb))

theorem rp_cap {N p : Int} {j : Nat} (h : Kept N p j) : p < Cap := Int.lt_of_le_of_lt h.hi (cap_of (k := 129) (by have := pow_mono2 (show 129 ≤ 129 by omega); rw [Int.pow_succ] at this; have := pow_pos2 128; omega) (by omega))

set_option maxRecDepth 100000 in
set_option maxHeartbeats 4000000 in
theorem run16_calls (n : Int) (h0 : 0 < n) (h1 : n < 2 ^ 256) (steps : Nat) (hst : steps ≤ 64) {w0 w : World} {R' : List (Nat × Array Value)} (hw : Ok Non w0 w [] R') :
    Calls Try.prog 13 #[W n, .int .i64 steps] w fun e w' => ∃ v z T L, e = .returned (.tuple #[v, z]) ∧ Lst T v (dcells (nup n) steps) ∧ BigV L z (rp (nup n) steps) ∧ Fresh w0 T ∧ Fresh w0 L ∧ Ok Non w0 w' [] (T ++ (L ++ R')) := by
  have hno := norm16_calls n h0 h1
  obtain ⟨hN0, hN1⟩ := nup_bds h0 h1
  have hpw := bpower_calls (k := 128) 128 rfl (by omega)
  have hkept := kept_all hN0 hN1
  generalize nup n = N at *
  generalize nby n = by' at *
  go_enter Try.func13, Try.ntmps13
  go_wp2_with (first | (refine w_box (H := []) hw rfl 24 _ rfl _ rfl ?_; clear hw; intro k1 w hw) | (refine w_load hw rfl 24 _ rfl _ rfl agg_wide _ (by first | (apply Has.own; (repeat (first | assumption | exact List.mem_cons_self | apply List.mem_cons_of_mem)); done) | (apply Has.read; (repeat (first | assumption | exact List.mem_cons_self | apply List.mem_cons_of_mem)); done)) ?_) | (go_at_call 17; refine hno.use hw (by simp) ?_; clear hw; intro w zu Lu hu hfu hw) | (go_at_call 22; refine hpw.use hw (by simp) ?_; clear hw; intro w zp Lp hzp hfp hw))
  go_loopw [10, 9, 8] (fun a o b wr => ∃ (j : Nat) (T L : List (Nat × Array Value)), j ≤ steps ∧ a = .int .i64 j ∧ Lst T o (dcells N j) ∧ BigV L b (rp N j) ∧ Fresh w0 L ∧ Ok Non w0 wr (T ++ [(k1, limbs 8 n)]) (L ++ (Lu ++ R'))) (fun a _ _ _ => steps - (intOf a).toNat)
  case atStart => exact ⟨0, [], Lp, by omega, rfl, .nil, hzp, hfp, hw⟩
  case round =>
    clear hw hzp hfp
    obtain ⟨j, T, L, hj, rfl, hl, hb, hf, hw⟩ := hrel
    by_cases hlt : j < steps
    · have hk := hkept j (by omega)
      have hp0 : 0 ≤ rp N j := hb.pos
      have hpc := rp_cap hk
      have hmul := vmul hb hb hpc hpc
      have hys := kept_y (by omega) hk
      have hss := kept_s hk
      have hshr := vshr hb hpc (k := 122) 122 rfl (by omega)
      have hP := pow_pos2 (248 - 2 * j)
      have hdb := div_bds (a := 1001) (b := 1000) hP hys.1 hys.2
      have hpp0 : 0 ≤ rp N j * rp N j := Int.mul_nonneg hp0 hp0
      have hppc : rp N j * rp N j < Cap := by
        have h2 : rp N j < 2 ^ 129 := Int.lt_of_le_of_lt hk.hi (by have := pow_mono2 (show 128 + 1 ≤ 129 by omega); rw [Int.pow_succ] at this; have := pow_pos2 128; omega)
        exact cap_of (mul_lt_pow hp0 h2 hp0 h2) (by omega)
      have hNc : N < Cap := cap_of hN1 (by omega)
      have hCap : 0 < Cap := by omega
      have hrb := rootbounds14_gives j (rp N j / 2 ^ 122) (by omega) (by omega) (by omega)
      have hdg := digit14_gives (rb j (rp N j / 2 ^ 122)) ((N - rp N j * rp N j) / 2 ^ (248 - 2 * j))
      have hdn : ∀ (R : List (Nat × Array Value)) (u : Value), SgnV R u (N - rp N j * rp N j) → Gives Try.prog 48 #[u, .int .i64 (248 - 2 * (j : Int))] R (.int .i64 ((N - rp N j * rp N j) / 2 ^ (248 - 2 * j))) := fun R u h =>
        bdown_gives (248 - 2 * j) (by omega) h (by omega) (by omega) (by omega) (by omega) (by omega)
      have hrd : pickv (rb j (rp N j / 2 ^ 122)) ((N - rp N j * rp N j) / 2 ^ (248 - 2 * j)) = rd N j := rfl
      have hrb5 := pickv_bd (rb j (rp N j / 2 ^ 122)) ((N - rp N j * rp N j) / 2 ^ (248 - 2 * j))
      rw [hrd] at hdg hrb5
      clear hrd
      have hsub : ∀ (R : List (Nat × Array Value)) (u v : Value), SgnV R u N → SgnV R v (rp N j * rp N j) → GivesS 44 #[u, v] R (N - rp N j * rp N j) := fun R u v h1 h2 => ssub_calls h1 h2 (by omega) hNc (by omega) hppc
      have hnx : rp N (j + 1) = rp N j + 2 ^ (126 - 2 * j) * rd N j := rfl
      have hdc := dcells_succ N j
      have hlen : (dcells N j).length = j := by simp [dcells]
      have hk1 := (hkept (j + 1) (by omega)).lo
      have hk1p := pow_pos2 127
      rw [hnx] at hk1
      have Hnx := Lib.hid hnx
      have Hdc := Lib.hid hdc
      have Hlen := Lib.hid hlen
      clear hkept hys hdb hppc hNc hCap hnx hdc hlen
      have hw2 := pow_pos2 (126 - 2 * j)
      have hsl : rp N j / 2 ^ 122 < 4294967296 := by omega
      have hsp : 0 < rp N j / 2 ^ 122 := by omega
      clear hss hk hP
      generalize (N - rp N j * rp N j) / 2 ^ (248 - 2 * j) = y at *
      generalize N - rp N j * rp N j = left at *
      generalize rp N j * rp N j = pp at *
      generalize rp N j / 2 ^ 122 = s at *
      generalize rb j s = bnds at *
      go_wp2_with (first | (go_at_call 19; refine hmul.use hw (fun p hp => List.mem_append_left _ hp) ?_; clear hw; intro w zm Lm hzm hfm hw) | (refine ok_signed1 (R := Lu) rfl _ rfl _ rfl hu ?_; intro pu nu cu hsu) | (refine ok_signed1 (R := Lm) rfl _ rfl _ rfl hzm ?_; intro pm nm cm hsm) | (go_at_call 44; go_loud (refine (hsub (Lm ++ (L ++ (Lu ++ R'))) _ _ (hsu.mono (by grind)) (hsm.mono (by grind))).use hw sub_all ?_; clear hw; intro w vs Ls hs hfs hw; have hs' := hs; obtain ⟨ps, ns, cs, rfl, hbs⟩ := hs)) | (refine ok_alloc (H := (T ++ [(k1, limbs 8 n)])) hw rfl 69 rfl _ zero_signed ?_; clear hw; intro k2 w hw) | (refine ok_store hw rfl 69 _ _ rfl _ rfl _ rfl 2 agg_signed _ (.head _) rfl rfl (by simp [Ones, Value.oneCell']) ?_; clear hw; intro w hw) | (go_at_call 45; refine hshr.use hw (by grind) ?_; clear hw; intro w zq Lq hzq hfq hw; obtain ⟨kq, cq, qs, hzqe, hmq, hcq⟩ := bigv_row hzq hsl hsp; subst hzqe; have hcell := (hw.has (Has.read (List.mem_append_left _ hmq))).cell 0; rw [hcq] at hcell))
      clear hcell hshr hmul hsub
      have hdn' := hdn (Lq ++ (Ls ++ (Lm ++ (L ++ (Lu ++ R'))))) _ (hs'.mono (by grind))
      clear hdn
      try simp only [Act.put, List.setIfInBounds_toArray, List.set_cons_succ, List.set_cons_zero]
      refine wp_region_draws [⟨[(10, none)], none, false, false⟩, ⟨[(12, none)], none, false, false⟩, ⟨[(38, some 0), (39, some 1)], none, false, false⟩, ⟨[(11, none)], none, false, false⟩, ⟨[(10, none)], none, false, false⟩, ⟨[(42, some 4)], none, false, false⟩, ⟨[(43, some 5)], none, false, false⟩, ⟨[(41, some 3), (44, some 6)], none, false, false⟩, ⟨[(40, some 2), (45, some 7)], none, false, false⟩, ⟨[(46, some 8)], none, false, false⟩] 72 (fun w => Ok Non w0 w ((k2, #[.slice ps ns cs, .bool (decide (left < 0))]) :: (T ++ [(k1, limbs 8 n)])) (Lq ++ (Ls ++ (Lm ++ (L ++ (Lu ++ R')))))) (by kernel_rfl) rfl (by kernel_rfl) (hw.grow (below_drew' _)) (fun _ _ h hb => h.grow hb) (fun _ _ _ _ h => h) ?_
      clear hw
      refine ⟨_, stable_is _, ask_run rfl rfl rfl (fun a w hw hk => run_move rfl (eval_of (known_old hk 10 (.head _) (by simp only [List.getElem?_toArray, List.getElem?_cons_zero, List.getElem?_cons_succ, Option.getD_some]; rfl)))), ?_⟩
      refine ⟨_, stable_is _, ask_run rfl rfl rfl (fun a w hw hk => run_move rfl (eval_of (known_old hk 12 (.head _) (by simp only [List.getElem?_toArray, List.getElem?_cons_zero, List.getElem?_cons_succ, Option.getD_some]; rfl)))), ?_⟩
      refine ⟨_, stable_is _, ask_gives rfl rfl rfl (fun a w hw hk => run_call2 rfl ⟨_, Try.func47, by kernel_rfl, by kernel_rfl⟩ (eval_of (known_op hk 38 0 1 (.head _) rfl rfl)) (eval_of (known_op hk 39 1 0 (.tail _ (.head _)) rfl rfl)))
    hrb (fun w hw => by simp), ?_⟩
      refine ⟨_, stable_is _, ask_run rfl rfl rfl (fun a w hw hk => run_load_agg rfl (eval_of (known_old hk 11 (.head _) rfl)) agg_signed (hw.has (by first | (apply Has.own; (repeat (first | assumption | exact List.mem_cons_self | apply List.mem_cons_of_mem)); done) | (apply Has.read; (repeat (first | assumption | exact List.mem_cons_self | apply List.mem_cons_of_mem)); done))) rfl), ?_⟩
      refine ⟨_, stable_is _, ask_run rfl rfl rfl (fun a w hw hk => run_move rfl (eval_of (known_old hk 10 (.head _) (by simp only [List.getElem?_toArray, List.getElem?_cons_zero, List.getElem?_cons_succ, Option.getD_some]; rfl)))), ?_⟩
      refine ⟨_, stable_is _, ask_run rfl rfl rfl (fun a w hw hk => run_mul_i rfl rfl (eval_of (known_op hk 42 4 0 (.head _) rfl rfl)) (by omega)), ?_⟩
      refine ⟨_, stable_is _, ask_run rfl rfl rfl (fun a w hw hk => run_sub_i rfl rfl (eval_of (known_op hk 43 5 0 (.head _) rfl rfl)) (by omega)), ?_⟩
      refine ⟨_, stable_is _, ask_gives rfl rfl rfl (fun a w hw hk => run_call2 rfl ⟨_, Try.func48, by kernel_rfl, by kernel_rfl⟩ (eval_of (known_op hk 41 3 3 (.head _) rfl rfl)) (eval_of (known_op hk 44 6 0 (.tail _ (.head _)) rfl rfl)))
    hdn' (fun w hw p hp => hw.reads p hp), ?_⟩
      refine ⟨_, stable_is _, ask_gives rfl rfl rfl (fun a w hw hk => run_call2 rfl ⟨_, Try.func46, by kernel_rfl, by kernel_rfl⟩ (eval_of (known_op hk 40 2 5 (.head _) rfl rfl)) (eval_of (known_op hk 45 7 0 (.tail _ (.head _)) rfl rfl)))
    hdg (fun w hw => by simp), ?_⟩
      refine ⟨_, stable_is _, ask_run rfl rfl rfl (fun a w hw hk => run_assign rfl (eval_of (known_op hk 46 8 0 (.head _) rfl rfl))), ?_⟩
      intro w hw
      rintro _ rfl
      rintro _ rfl
      rintro _ rfl
      rintro _ rfl
      rintro _ rfl
      rintro _ rfl
      rintro _ rfl
      rintro _ rfl
      rintro _ rfl
      rintro _ rfl
      change wpList _ _ _ _ _ _
      simp only [List.length_cons, List.length_nil, Nat.reduceAdd, Nat.zero_add, List.drop_succ_cons, List.drop_zero, Act.put, List.setIfInBounds_toArray, List.set_cons_succ, List.set_cons_zero]
      clear hdn' hrb hdg
      have hp2 := bpower_calls (k := 126 - 2 * (j : Int)) (126 - 2 * j) (by omega) (by omega)
      have hp2c2 : 4 * (2 : Int) ^ (126 - 2 * j) < Cap := cap_of (k := 130) (by have := pow_mono2 (show 126 - 2 * j ≤ 126 by omega); have e := Int.pow_add (2 : Int) 126 4; have := pow_pos2 126; omega) (by omega)
      have hp2c : (2 : Int) ^ (126 - 2 * j) < Cap := cap_of (k := 127) (by have := pow_mono2 (show 126 - 2 * j ≤ 126 by omega); have e := Int.pow_succ (2 : Int) 126; have := pow_pos2 126; omega) (by omega)
      have hw3 : Ok Non w0 w (T ++ [(k1, limbs 8 n)]) (L ++ (Lu ++ R')) := hw.sub (List.sublist_cons_self _ _) (by grind)
      clear hw hs' hbs hzq hmq hcq hsm hsu hzm hfm hfs hfq hN0 hN1 hno hpw hsl hsp h0 h1
      have hw := hw3
      clear hw3
      generalize rd N j = d at *
      generalize (2 : Int) ^ (126 - 2 * j) = E at *
      have : d = -2 ∨ d = -1 ∨ d = 0 ∨ d = 1 ∨ d = 2 := by omega
      rcases this with rfl | rfl | rfl | rfl | rfl
      · have hsm := bsmall_calls (n := 2) (by omega) (by omega)
        have hac : (2 : Int) < Cap := cap_of (k := 3) (by omega) (by omega)
        have hxc : (2 : Int) * E < Cap := by omega
        have Heq := Lib.hid (show rp N j + E * -2 = rp N j - 2 * E by omega)
        have hle : 2 * E ≤ rp N j := by omega
        clear hk1 hk1p hw2 hp2c2
        go_wp2_with (first | (refine ok_build1 (H := (T ++ [(k1, limbs 8 n)])) hw rfl _ _ _ rfl Try.underlying25 one_int zero_int' _ _ rfl ?_; clear hw; intro k3 w hw) | (refine ok_append (Ok.front [_] T [(k1, limbs 8 n)] hw) rfl _ _ _ rfl _ Try.underlying25 elem_int _ rfl _ hl _ _ _ rfl _ (by apply Has.own; (repeat (first | exact List.mem_cons_self | apply List.mem_cons_of_mem | exact List.mem_append_right _ (List.mem_cons_self)))) rfl (by simp [Value.oneCell']) (by rw [Hlen.out]; omega) ?_; clear hw; intro w T' v' hl' hw'; have hw := hw'.sub (List.Sublist.append (List.Sublist.refl T') (List.Sublist.cons _ (List.Sublist.refl _))) (fun q h => h); clear hw') | (go_at_call 20; refine hsm.use hw (by simp) ?_; clear hw; intro w z0 L0 hz0 hf0 hw) | (go_at_call 22; refine hp2.use hw (by simp) ?_; clear hw; intro w z1 L1 hz1 hf1 hw) | (go_at_call 19; refine (vmul (hz0.mono (R' := L1 ++ (L0 ++ (L ++ (Lu ++ R')))) (by grind)) (hz1.mono (by grind)) hac hp2c).use hw (by grind) ?_; clear hw; intro w zx Lx hzx hfx hw) | (go_at_call 25; refine (vsub (hb.mono (R' := Lx ++ (L1 ++ (L0 ++ (L ++ (Lu ++ R'))))) (by grind)) (hzx.mono (by grind)) hle).use hw (by grind) ?_; clear hw; intro w z5 L5 hz5 hf5 hw))
        rw [← Heq.out, ← Hnx.out] at hz5
        rw [← Hdc.out] at hl'
        exact ⟨⟨j + 1, T', L5, by omega, by go_num, hl', hz5, hf5, hw.sub (List.Sublist.refl _) (by grind)⟩, by simp [intOf]; omega⟩
      · have hsm := bsmall_calls (n := 1) (by omega) (by omega)
        have hac : (1 : Int) < Cap := cap_of (k := 3) (by omega) (by omega)
        have hxc : (1 : Int) * E < Cap := by omega
        have Heq := Lib.hid (show rp N j + E * -1 = rp N j - 1 * E by omega)
        have hle : 1 * E ≤ rp N j := by omega
        clear hk1 hk1p hw2 hp2c2
        go_wp2_with (first | (refine ok_build1 (H := (T ++ [(k1, limbs 8 n)])) hw rfl _ _ _ rfl Try.underlying25 one_int zero_int' _ _ rfl ?_; clear hw; intro k3 w hw) | (refine ok_append (Ok.front [_] T [(k1, limbs 8 n)] hw) rfl _ _ _ rfl _ Try.underlying25 elem_int _ rfl _ hl _ _ _ rfl _ (by apply Has.own; (repeat (first | exact List.mem_cons_self | apply List.mem_cons_of_mem | exact List.mem_append_right _ (List.mem_cons_self)))) rfl (by simp [Value.oneCell']) (by rw [Hlen.out]; omega) ?_; clear hw; intro w T' v' hl' hw'; have hw := hw'.sub (List.Sublist.append (List.Sublist.refl T') (List.Sublist.cons _ (List.Sublist.refl _))) (fun q h => h); clear hw') | (go_at_call 20; refine hsm.use hw (by simp) ?_; clear hw; intro w z0 L0 hz0 hf0 hw) | (go_at_call 22; refine hp2.use hw (by simp) ?_; clear hw; intro w z1 L1 hz1 hf1 hw) | (go_at_call 19; refine (vmul (hz0.mono (R' := L1 ++ (L0 ++ (L ++ (Lu ++ R')))) (by grind)) (hz1.mono (by grind)) hac hp2c).use hw (by grind) ?_; clear hw; intro w zx Lx hzx hfx hw) | (go_at_call 25; refine (vsub (hb.mono (R' := Lx ++ (L1 ++ (L0 ++ (L ++ (Lu ++ R'))))) (by grind)) (hzx.mono (by grind)) hle).use hw (by grind) ?_; clear hw; intro w z5 L5 hz5 hf5 hw))
        rw [← Heq.out, ← Hnx.out] at hz5
        rw [← Hdc.out] at hl'
        exact ⟨⟨j + 1, T', L5, by omega, by go_num, hl', hz5, hf5, hw.sub (List.Sublist.refl _) (by grind)⟩, by simp [intOf]; omega⟩
      · have hsm := bsmall_calls (n := 0) (by omega) (by omega)
        have hac : (0 : Int) < Cap := cap_of (k := 3) (by omega) (by omega)
        have hxc : (0 : Int) * E < Cap := by omega
        have Heq := Lib.hid (show rp N j + E * 0 = rp N j + 0 * E by omega)
        clear hk1 hk1p hw2 hp2c2
        go_wp2_with (first | (refine ok_build1 (H := (T ++ [(k1, limbs 8 n)])) hw rfl _ _ _ rfl Try.underlying25 one_int zero_int' _ _ rfl ?_; clear hw; intro k3 w hw) | (refine ok_append (Ok.front [_] T [(k1, limbs 8 n)] hw) rfl _ _ _ rfl _ Try.underlying25 elem_int _ rfl _ hl _ _ _ rfl _ (by apply Has.own; (repeat (first | exact List.mem_cons_self | apply List.mem_cons_of_mem | exact List.mem_append_right _ (List.mem_cons_self)))) rfl (by simp [Value.oneCell']) (by rw [Hlen.out]; omega) ?_; clear hw; intro w T' v' hl' hw'; have hw := hw'.sub (List.Sublist.append (List.Sublist.refl T') (List.Sublist.cons _ (List.Sublist.refl _))) (fun q h => h); clear hw') | (go_at_call 20; refine hsm.use hw (by simp) ?_; clear hw; intro w z0 L0 hz0 hf0 hw) | (go_at_call 22; refine hp2.use hw (by simp) ?_; clear hw; intro w z1 L1 hz1 hf1 hw) | (go_at_call 19; refine (vmul (hz0.mono (R' := L1 ++ (L0 ++ (L ++ (Lu ++ R')))) (by grind)) (hz1.mono (by grind)) hac hp2c).use hw (by grind) ?_; clear hw; intro w zx Lx hzx hfx hw) | (go_at_call 23; refine (vadd (hb.mono (R' := Lx ++ (L1 ++ (L0 ++ (L ++ (Lu ++ R'))))) (by grind)) (hzx.mono (by grind)) hpc hxc).use hw (by grind) ?_; clear hw; intro w z5 L5 hz5 hf5 hw))
        rw [← Heq.out, ← Hnx.out] at hz5
        rw [← Hdc.out] at hl'
        exact ⟨⟨j + 1, T', L5, by omega, by go_num, hl', hz5, hf5, hw.sub (List.Sublist.refl _) (by grind)⟩, by simp [intOf]; omega⟩
      · have hsm := bsmall_calls (n := 1) (by omega) (by omega)
        have hac : (1 : Int) < Cap := cap_of (k := 3) (by omega) (by omega)
        have hxc : (1 : Int) * E < Cap := by omega
        have Heq := Lib.hid (show rp N j + E * 1 = rp N j + 1 * E by omega)
        clear hk1 hk1p hw2 hp2c2
        go_wp2_with (first | (refine ok_build1 (H := (T ++ [(k1, limbs 8 n)])) hw rfl _ _ _ rfl Try.underlying25 one_int zero_int' _ _ rfl ?_; clear hw; intro k3 w hw) | (refine ok_append (Ok.front [_] T [(k1, limbs 8 n)] hw) rfl _ _ _ rfl _ Try.underlying25 elem_int _ rfl _ hl _ _ _ rfl _ (by apply Has.own; (repeat (first | exact List.mem_cons_self | apply List.mem_cons_of_mem | exact List.mem_append_right _ (List.mem_cons_self)))) rfl (by simp [Value.oneCell']) (by rw [Hlen.out]; omega) ?_; clear hw; intro w T' v' hl' hw'; have hw := hw'.sub (List.Sublist.append (List.Sublist.refl T') (List.Sublist.cons _ (List.Sublist.refl _))) (fun q h => h); clear hw') | (go_at_call 20; refine hsm.use hw (by simp) ?_; clear hw; intro w z0 L0 hz0 hf0 hw) | (go_at_call 22; refine hp2.use hw (by simp) ?_; clear hw; intro w z1 L1 hz1 hf1 hw) | (go_at_call 19; refine (vmul (hz0.mono (R' := L1 ++ (L0 ++ (L ++ (Lu ++ R')))) (by grind)) (hz1.mono (by grind)) hac hp2c).use hw (by grind) ?_; clear hw; intro w zx Lx hzx hfx hw) | (go_at_call 23; refine (vadd (hb.mono (R' := Lx ++ (L1 ++ (L0 ++ (L ++ (Lu ++ R'))))) (by grind)) (hzx.mono (by grind)) hpc hxc).use hw (by grind) ?_; clear hw; intro w z5 L5 hz5 hf5 hw))
        rw [← Heq.out, ← Hnx.out] at hz5
        rw [← Hdc.out] at hl'
        exact ⟨⟨j + 1, T', L5, by omega, by go_num, hl', hz5, hf5, hw.sub (List.Sublist.refl _) (by grind)⟩, by simp [intOf]; omega⟩
      · have hsm := bsmall_calls (n := 2) (by omega) (by omega)
        have hac : (2 : Int) < Cap := cap_of (k := 3) (by omega) (by omega)
        have hxc : (2 : Int) * E < Cap := by omega
        have Heq := Lib.hid (show rp N j + E * 2 = rp N j + 2 * E by omega)
        clear hk1 hk1p hw2 hp2c2
        go_wp2_with (first | (refine ok_build1 (H := (T ++ [(k1, limbs 8 n)])) hw rfl _ _ _ rfl Try.underlying25 one_int zero_int' _ _ rfl ?_; clear hw; intro k3 w hw) | (refine ok_append (Ok.front [_] T [(k1, limbs 8 n)] hw) rfl _ _ _ rfl _ Try.underlying25 elem_int _ rfl _ hl _ _ _ rfl _ (by apply Has.own; (repeat (first | exact List.mem_cons_self | apply List.mem_cons_of_mem | exact List.mem_append_right _ (List.mem_cons_self)))) rfl (by simp [Value.oneCell']) (by rw [Hlen.out]; omega) ?_; clear hw; intro w T' v' hl' hw'; have hw := hw'.sub (List.Sublist.append (List.Sublist.refl T') (List.Sublist.cons _ (List.Sublist.refl _))) (fun q h => h); clear hw') | (go_at_call 20; refine hsm.use hw (by simp) ?_; clear hw; intro w z0 L0 hz0 hf0 hw) | (go_at_call 22; refine hp2.use hw (by simp) ?_; clear hw; intro w z1 L1 hz1 hf1 hw) | (go_at_call 19; refine (vmul (hz0.mono (R' := L1 ++ (L0 ++ (L ++ (Lu ++ R')))) (by grind)) (hz1.mono (by grind)) hac hp2c).use hw (by grind) ?_; clear hw; intro w zx Lx hzx hfx hw) | (go_at_call 23; refine (vadd (hb.mono (R' := Lx ++ (L1 ++ (L0 ++ (L ++ (Lu ++ R'))))) (by grind)) (hzx.mono (by grind)) hpc hxc).use hw (by grind) ?_; clear hw; intro w z5 L5 hz5 hf5 hw))
        rw [← Heq.out, ← Hnx.out] at hz5
        rw [← Hdc.out] at hl'
        exact ⟨⟨j + 1, T', L5, by omega, by go_num, hl', hz5, hf5, hw.sub (List.Sublist.refl _) (by grind)⟩, by simp [intOf]; omega⟩
    · have hj2 : j = steps := by omega
      subst hj2
      clear hpw hno hkept
      go_wp2_with fail
      go_ret2
      have hfT : Fresh w0 T := fun q hq => (hw.own q (List.mem_append_left _ hq)).elim id (fun x => x.elim)
      have hw2 := Ok.freeze (H := [(k1, limbs 8 n)]) hw
      exact ⟨_, _, T, L, rfl, hl, hb, hfT, hf, hw2.sub (List.nil_sublist _) (by grind)⟩
theorem run16_use (n : Int) (h0 : 0 < n) (h1 : n < 2 ^ 256) (steps : Nat) (hst : steps ≤ 64) {S : Nat → Prop} {w0 w : World} {H R' : List (Nat × Array Value)} (hw : Ok S w0 w H R') {k : Int} (hk : k = (steps : Int)) {K : Ending → World → Prop}
    (h : ∀ w' v z T L, Lst T v (dcells (nup n) steps) → BigV L z (rp (nup n) steps) → Fresh w0 T → Fresh w0 L → Ok S w0 w' H (T ++ (L ++ R')) → K (.returned (.tuple #[v, z])) w') :
    Calls Try.prog 13 #[W n, .int .i64 k] w K := by
  subst hk
  refine (run16_calls n h0 h1 steps hst (w0 := w) (w := w) (R' := R') (Ok.read fun p hp => hw.reads p hp)).mono ?_
  rintro e w' ⟨v, z, T, L, rfl, hl, hz, hfT, hfL, hw'⟩
  refine h w' v z T L hl hz (fun q hq => Nat.le_trans hw.size (hfT q hq)) (fun q hq => Nat.le_trans hw.size (hfL q hq)) ?_
  rw [← List.append_assoc]
  refine hw.reads_new hw'.below fun q hq => ?_
  rcases List.mem_append.1 hq with hq | hq
  · exact ⟨hw'.reads q (List.mem_append_left _ hq), hfT q hq⟩
  · exact ⟨hw'.reads q (List.mem_append_right _ (List.mem_append_left _ hq)), hfL q hq⟩
end Go.Proofs.Ytcodmeljjphoeaa
