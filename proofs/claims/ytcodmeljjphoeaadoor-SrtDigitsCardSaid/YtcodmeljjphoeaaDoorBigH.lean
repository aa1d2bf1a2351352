/-
  The references' products: the walk.
-/
import Derived.Test.YtcodmeljjphoeaaDoorBigG
import Derived.Deep.OwnRows
namespace Go.Proofs.YtcodmeljjphoeaaDoor
open Go.RowKit
set_option linter.unusedVariables false
set_option linter.unusedSimpArgs false

theorem ok_make {P : Program} {ops : Array Oper} {Q : Exit → Act → World → Prop} {rest : List Oper} {o : Oper} {a : Act} {S : Nat → Prop} {w0 w : World} {H R : List (Nat × Array Value)}
    (h : Ok S w0 w H R) (hgd : o.guard = none) (t e : TypeId) (x : Operand) (ho : o.op = .makeSlice t x x) (hu : P.underlying t = some (.slice e)) (z : Value) (bytes : Nat) (hinfo : (P.info? e).map (fun i => (i.zero, i.size, i.bytes)) = some (some z, 1, bytes)) (hz1 : z.cells = #[z])
    (N : Int) (hx : a.eval x = .int .i64 N) (n : Nat) (hN : N = (n : Int)) (hb : bytes * n ≤ 281474976710656) (hn : n ≤ 1000000)
    (hk : ∀ k w', Ok S w0 w' ((k, madeCells #[z] n) :: H) R → wpList P ops Q rest (a.put o.dst (.slice (some ⟨k, 0, none⟩) n n)) w') : wpList P ops Q (o :: rest) a w := by
  subst hN
  have hr := run_make_row' (P := P) t e z bytes hu hinfo hz1 .i64 .i64 n hb (by omega) w
  exact wpL_value (w' := w.alloc (.cells (madeCells #[z] n) e)) hgd (by simp only [execOp, ho, hx, Sem.run_bind, hr, Result.andThen_ok, Sem.run_pure]) (hk _ _ (h.new _ _))

theorem info_u32 : (Tryd.prog.info? 74).map (fun i => (i.zero, i.size, i.bytes)) = some (some (.int .u32 0), 1, 4) := by kernel_rfl
theorem made_ds (n : Nat) : madeCells #[.int .u32 0] n = ds n 0 := by
  apply Array.ext_getElem?
  intro i
  by_cases h : i < n
  · rw [ds_get _ h]
    have : dg 0 i = 0 := by unfold dg; simp
    rw [this]
    simp [madeCells, h, Nat.mod_one]
  · rw [Array.getElem?_eq_none (xs := madeCells #[.int .u32 0] n) (by rw [size_madeCells]; omega), Array.getElem?_eq_none (xs := ds n 0) (by rw [size_ds]; omega)]
theorem ds_at {n i off : Nat} (b : Int) (e : off = i) (h : i < n) : (ds n b)[off]? = some (.int .u32 (dg b i)) := by rw [e]; exact ds_get b h
theorem dig_at {cs : Array Value} {n i off : Nat} {b : Int} (hd : Dig cs n b) (e : off = i) (h : i < n) : cs[off]? = some (.int .u32 (dg b i)) := by rw [e]; exact hd i h

set_option maxRecDepth 100000 in
set_option maxHeartbeats 1000000 in
theorem bmul_calls {R : List (Nat × Array Value)} {u v : Value} {n m : Nat} {x y : Int} (hx : BigN R u n x) (hy : BigN R v m y) (hsm : n + m < 50000) : GivesB 22 #[u, v] R (x * y) := by
  refine GivesB.mk fun S w0 w H R' hR hw => ?_
  have hx0 := hx.pos
  have hx1 := hx.lt
  have hy0 := hy.pos
  have hy1 := hy.lt
  have hxy0 : 0 ≤ x * y := Int.mul_nonneg hx0 hy0
  have hxy1 : x * y < 2 ^ (32 * (n + m)) := by
    have := mul_lt_pow hx0 hx1 hy0 hy1
    rwa [← Nat.mul_add] at this
  obtain ⟨p, c, rfl, hc, hr⟩ := hx.shape
  obtain ⟨p', c', rfl, hc', hr'⟩ := hy.shape
  have HR := Lib.hid hR
  clear hx hy hR
  go_enter Tryd.func22, Tryd.ntmps22
  go_wp2_with (first | (refine ok_make hw rfl _ _ _ rfl Tryd.underlying36 _ _ info_u32 rfl _ rfl (n + m) (by omega) (by omega) (by omega) ?_; clear hw; intro ko w hw))
  rw [made_ds] at hw
  go_loopw [6] (fun a wr => ∃ (i : Nat), i ≤ n ∧ a = .int .i64 i ∧ Ok S w0 wr ((ko, ds (n + m) (x % 2 ^ (32 * i) * y)) :: H) R') (fun a _ => n - (intOf a).toNat)
  case atStart => exact ⟨0, by omega, rfl, by rw [show x % 2 ^ (32 * 0) * y = 0 by simp [Int.emod_one]]; exact hw⟩
  case round =>
    clear hw
    obtain ⟨i, hi, rfl, hw⟩ := hrel
    by_cases hlt : i < n
    · obtain ⟨kx, cx, rfl, hmx, hdx⟩ : ∃ k cs, p = some ⟨k, 0, none⟩ ∧ (k, cs) ∈ R' ∧ Dig cs n x := by
        rcases hr with h | ⟨k, cs, h1, h2, h3⟩
        · omega
        · exact ⟨k, cs, h1, HR.out _ h2, h3⟩
      clear hr
      have hxm0 := Int.emod_nonneg x (show (2 : Int) ^ (32 * i) ≠ 0 by have := pow_pos2 (32 * i); omega)
      have hV0 := Int.mul_nonneg hxm0 hy0
      have hV1 := mul_lt_pow hxm0 (Int.emod_lt_of_pos x (pow_pos2 (32 * i))) hy0 hy1
      rw [← Nat.mul_add] at hV1
      go_wp2_with fail
      go_loopw [8, 7] (fun b a wr => ∃ (j : Nat) (V c : Int), j ≤ m ∧ a = .int .u64 c ∧ b = .int .i64 j ∧ (0 ≤ c ∧ c < 4294967296) ∧ 0 ≤ V ∧ V < 2 ^ (32 * (i + m)) ∧ Hid (V + c * 2 ^ (32 * (i + j)) = x % 2 ^ (32 * i) * y + dg x i * 2 ^ (32 * i) * (y % 2 ^ (32 * j))) ∧ Ok S w0 wr ((ko, ds (n + m) V) :: H) R') (fun b _ _ => m - (intOf b).toNat)
      case atStart => exact ⟨0, _, 0, by omega, rfl, rfl, ⟨by omega, by omega⟩, hV0, hV1, Lib.hid (by simp [Int.emod_one]), hw⟩
      case round =>
        clear hw hV0 hV1 hxm0
        obtain ⟨j, V, c, hj, rfl, rfl, hcb, hV0, hV1, hI, hw⟩ := hrel
        by_cases hjlt : j < m
        · obtain ⟨ky, cy, rfl, hmy, hdy⟩ : ∃ k cs, p' = some ⟨k, 0, none⟩ ∧ (k, cs) ∈ R' ∧ Dig cs m y := by
            rcases hr' with h | ⟨k, cs, h1, h2, h3⟩
            · omega
            · exact ⟨k, cs, h1, HR.out _ h2, h3⟩
          clear hr'
          have hs := Lib.hid (bmul_step hI.out)
          have hbd := bmul_digit hcb (dg_bd V (i + j)) (dg_bd x i) (dg_bd y j)
          have hd0 := Int.emod_nonneg (c + dg V (i + j) + dg x i * dg y j) (show (4294967296 : Int) ≠ 0 by omega)
          have hd1 := Int.emod_lt_of_pos (c + dg V (i + j) + dg x i * dg y j) (show (0 : Int) < 4294967296 by omega)
          have hst := stuck_bd hd0 hd1 hV0 hV1 (show i + j < i + m by omega)
          have hset := Lib.hid (ds_set (n := n + m) V ((c + dg V (i + j) + dg x i * dg y j) % 4294967296) (show i + j < n + m by omega) hd0 hd1)
          have hbV := dg_bd V (i + j)
          have hbx := dg_bd x i
          have hby := dg_bd y j
          have f1 := Lib.hid (show (i : Int) + j = ((i + j : Nat) : Int) by omega)
          go_wp2_with fail
          try simp only [Act.put, List.setIfInBounds_toArray, List.set_cons_succ, List.set_cons_zero]
          refine wp_region_draws [⟨[(7, none)], none, false, false⟩, ⟨[(5, none)], none, false, false⟩, ⟨[(6, none)], none, false, false⟩, ⟨[(8, none)], none, false, false⟩, ⟨[(29, some 2), (30, some 3)], none, false, false⟩, ⟨[(28, some 1), (31, some 4)], none, false, false⟩, ⟨[(32, some 5)], none, false, false⟩, ⟨[(33, some 6)], none, false, false⟩, ⟨[(27, some 0), (34, some 7)], none, false, false⟩, ⟨[(0, none)], none, false, false⟩, ⟨[(6, none)], none, false, false⟩, ⟨[(36, some 9), (37, some 10)], none, false, false⟩, ⟨[(38, some 11)], none, false, false⟩, ⟨[(39, some 12)], none, false, false⟩, ⟨[(1, none)], none, false, false⟩, ⟨[(8, none)], none, false, false⟩, ⟨[(41, some 14), (42, some 15)], none, false, false⟩, ⟨[(43, some 16)], none, false, false⟩, ⟨[(44, some 17)], none, false, false⟩, ⟨[(40, some 13), (45, some 18)], none, false, false⟩, ⟨[(35, some 8), (46, some 19)], none, false, false⟩, ⟨[(47, some 20)], none, false, false⟩] 67 (fun w => Ok S w0 w ((ko, ds (n + m) V) :: H) R') (by kernel_rfl) rfl (by kernel_rfl) (hw.grow (below_drew' _)) (fun _ _ h hb => h.grow hb) (fun _ _ _ _ h => h) ?_
          clear hw
          refine ⟨_, stable_is _, ask_run rfl rfl rfl (fun a w hw hk => run_move rfl (eval_of (known_old hk 7 (.head _) (by simp only [List.getElem?_toArray, List.getElem?_cons_zero, List.getElem?_cons_succ, Option.getD_some]; rfl)))), ?_⟩
          refine ⟨_, stable_is _, ask_run rfl rfl rfl (fun a w hw hk => run_move rfl (eval_of (known_old hk 5 (.head _) (by simp only [List.getElem?_toArray, List.getElem?_cons_zero, List.getElem?_cons_succ, Option.getD_some]; rfl)))), ?_⟩
          refine ⟨_, stable_is _, ask_run rfl rfl rfl (fun a w hw hk => run_move rfl (eval_of (known_old hk 6 (.head _) (by simp only [List.getElem?_toArray, List.getElem?_cons_zero, List.getElem?_cons_succ, Option.getD_some]; rfl)))), ?_⟩
          refine ⟨_, stable_is _, ask_run rfl rfl rfl (fun a w hw hk => run_move rfl (eval_of (known_old hk 8 (.head _) (by simp only [List.getElem?_toArray, List.getElem?_cons_zero, List.getElem?_cons_succ, Option.getD_some]; rfl)))), ?_⟩
          refine ⟨_, stable_is _, ask_run rfl rfl rfl (fun a w hw hk => run_add_i rfl (eval_of (known_op hk 29 2 1 (.head _) rfl rfl)) (eval_of (known_op hk 30 3 0 (.tail _ (.head _)) rfl rfl)) (by omega)), ?_⟩
          refine ⟨_, stable_is _, ask_run rfl rfl rfl (fun a w hw hk => run_indexAddr_slice rfl Tryd.underlying36 (by kernel_rfl) (eval_of (known_op hk 28 1 3 (.head _) rfl rfl)) (eval_of (known_op hk 31 4 0 (.tail _ (.head _)) rfl rfl)) (by omega) (by omega)), ?_⟩
          refine ⟨_, stable_is _, ask_run rfl rfl rfl (fun a w hw hk => run_load_c rfl (eval_of (known_op hk 32 5 0 (.head _) rfl rfl)) one_u32 (hw.has (by first | (apply Has.own; (repeat (first | assumption | exact List.mem_cons_self | apply List.mem_cons_of_mem)); done) | (apply Has.read; (repeat (first | assumption | exact List.mem_cons_self | apply List.mem_cons_of_mem)); done))) (ds_at (i := i + j) _ (by omega) (by omega))), ?_⟩
          refine ⟨_, stable_is _, ask_run rfl rfl rfl (fun a w hw hk => by
      have e33 := known_op hk 33 6 0 (.head _) rfl rfl
      go_simp
      (first | with_reducible rfl | exact ⟨rfl, rfl⟩)), ?_⟩
          refine ⟨_, stable_is _, ask_run rfl rfl rfl (fun a w hw hk => run_add_u rfl (eval_of (known_op hk 27 0 7 (.head _) rfl rfl)) (eval_of (known_op hk 34 7 0 (.tail _ (.head _)) rfl rfl))), ?_⟩
          refine ⟨_, stable_is _, ask_run rfl rfl rfl (fun a w hw hk => run_move rfl (eval_of (known_old hk 0 (.head _) (by simp only [List.getElem?_toArray, List.getElem?_cons_zero, List.getElem?_cons_succ, Option.getD_some]; rfl)))), ?_⟩
          refine ⟨_, stable_is _, ask_run rfl rfl rfl (fun a w hw hk => run_move rfl (eval_of (known_old hk 6 (.head _) (by simp only [List.getElem?_toArray, List.getElem?_cons_zero, List.getElem?_cons_succ, Option.getD_some]; rfl)))), ?_⟩
          refine ⟨_, stable_is _, ask_run rfl rfl rfl (fun a w hw hk => run_indexAddr_slice rfl Tryd.underlying36 (by kernel_rfl) (eval_of (known_op hk 36 9 1 (.head _) rfl rfl)) (eval_of (known_op hk 37 10 0 (.tail _ (.head _)) rfl rfl)) (by omega) (by omega)), ?_⟩
          refine ⟨_, stable_is _, ask_run rfl rfl rfl (fun a w hw hk => run_load_c rfl (eval_of (known_op hk 38 11 0 (.head _) rfl rfl)) one_u32 (hw.has (by first | (apply Has.own; (repeat (first | assumption | exact List.mem_cons_self | apply List.mem_cons_of_mem)); done) | (apply Has.read; (repeat (first | assumption | exact List.mem_cons_self | apply List.mem_cons_of_mem)); done))) (dig_at (i := i) hdx (by omega) (by omega))), ?_⟩
          refine ⟨_, stable_is _, ask_run rfl rfl rfl (fun a w hw hk => by
      have e39 := known_op hk 39 12 0 (.head _) rfl rfl
      go_simp
      (first | with_reducible rfl | exact ⟨rfl, rfl⟩)), ?_⟩
          refine ⟨_, stable_is _, ask_run rfl rfl rfl (fun a w hw hk => run_move rfl (eval_of (known_old hk 1 (.head _) (by simp only [List.getElem?_toArray, List.getElem?_cons_zero, List.getElem?_cons_succ, Option.getD_some]; rfl)))), ?_⟩
          refine ⟨_, stable_is _, ask_run rfl rfl rfl (fun a w hw hk => run_move rfl (eval_of (known_old hk 8 (.head _) (by simp only [List.getElem?_toArray, List.getElem?_cons_zero, List.getElem?_cons_succ, Option.getD_some]; rfl)))), ?_⟩
          refine ⟨_, stable_is _, ask_run rfl rfl rfl (fun a w hw hk => run_indexAddr_slice rfl Tryd.underlying36 (by kernel_rfl) (eval_of (known_op hk 41 14 1 (.head _) rfl rfl)) (eval_of (known_op hk 42 15 0 (.tail _ (.head _)) rfl rfl)) (by omega) (by omega)), ?_⟩
          refine ⟨_, stable_is _, ask_run rfl rfl rfl (fun a w hw hk => run_load_c rfl (eval_of (known_op hk 43 16 0 (.head _) rfl rfl)) one_u32 (hw.has (by first | (apply Has.own; (repeat (first | assumption | exact List.mem_cons_self | apply List.mem_cons_of_mem)); done) | (apply Has.read; (repeat (first | assumption | exact List.mem_cons_self | apply List.mem_cons_of_mem)); done))) (dig_at (i := j) hdy (by omega) (by omega))), ?_⟩
          refine ⟨_, stable_is _, ask_run rfl rfl rfl (fun a w hw hk => by
      have e44 := known_op hk 44 17 0 (.head _) rfl rfl
      go_simp
      (first | with_reducible rfl | exact ⟨rfl, rfl⟩)), ?_⟩
          refine ⟨_, stable_is _, ask_run rfl rfl rfl (fun a w hw hk => run_mul_u rfl (eval_of (known_op hk 40 13 5 (.head _) rfl rfl)) (eval_of (known_op hk 45 18 0 (.tail _ (.head _)) rfl rfl))), ?_⟩
          refine ⟨_, stable_is _, ask_run rfl rfl rfl (fun a w hw hk => run_add_u rfl (eval_of (known_op hk 35 8 11 (.head _) rfl rfl)) (eval_of (known_op hk 46 19 0 (.tail _ (.head _)) rfl rfl))), ?_⟩
          refine ⟨_, stable_is _, ask_run rfl rfl rfl (fun a w hw hk => run_assign rfl (eval_of (known_op hk 47 20 0 (.head _) rfl rfl))), ?_⟩
          intro w hw
          rintro _ rfl
          rintro _ rfl
          rintro _ rfl
          rintro _ rfl
          rintro _ rfl
          rintro _ rfl
          rintro _ rfl
          rintro _ rfl
          rintro _ rfl
          rintro _ rfl
          rintro _ rfl
          rintro _ rfl
          rintro _ rfl
          rintro _ rfl
          rintro _ rfl
          rintro _ rfl
          rintro _ rfl
          rintro _ rfl
          rintro _ rfl
          rintro _ rfl
          rintro _ rfl
          rintro _ rfl
          change wpList _ _ _ _ _ _
          simp only [List.length_cons, List.length_nil, Nat.reduceAdd, Nat.zero_add, List.drop_succ_cons, List.drop_zero, Act.put, List.setIfInBounds_toArray, List.set_cons_succ, List.set_cons_zero]
          have hval : ((c + IntKind.u64.wrap (dg V (i + j))) % 18446744073709551616 + IntKind.u64.wrap (dg x i) * IntKind.u64.wrap (dg y j) % 18446744073709551616) % 18446744073709551616 = c + dg V (i + j) + dg x i * dg y j := by
            rw [wrap_u64, wrap_u64, wrap_u64, Int.emod_eq_of_lt hbV.1 (by omega), Int.emod_eq_of_lt hbx.1 (by omega), Int.emod_eq_of_lt hby.1 (by omega)]
            have := hbd.1
            have := hbd.2.1
            have := hbd.2.2.1
            have := hbd.2.2.2.1
            generalize dg x i * dg y j = z at *
            omega
          rw [hval]
          clear hval hI hV0 hV1 hcb
          have ht0 := hbd.2.2.1
          have ht1 := hbd.2.2.2.1
          have ht2 := hbd.2.2.2.2
          clear hbd
          generalize c + dg V (i + j) + dg x i * dg y j = t at *
          go_wp2_with (first | (refine int_store hw rfl 74 _ _ rfl ko _ rfl .u32 _ rfl one_u32 _ (.head _) (by simp; omega) ?_; clear hw; intro w hw))
          rw [hset.out] at hw
          exact ⟨⟨j + 1, _, _, by omega, rfl, by go_num, ht2, hst.1, hst.2, hs, hw⟩, by simp [intOf]; omega⟩
        · have hj2 : j = m := by omega
          subst hj2
          have he := Lib.hid (bmul_end hy0 hy1 hV0 hV1 hI.out)
          have hset := Lib.hid (ds_set (n := n + j) V c (show i + j < n + j by omega) hcb.1 hcb.2)
          have hcw := Lib.hid (show IntKind.u32.wrap c = c by rw [wrap_u32]; omega)
          clear hI
          go_wp2_with (first | (refine int_store hw rfl 74 _ _ rfl ko _ rfl .u32 _ rfl one_u32 _ (.head _) (by simp; omega) ?_; clear hw; intro w hw))
          rw [hset.out, he.out] at hw
          exact ⟨⟨i + 1, by omega, by go_num, hw⟩, by simp [intOf]; omega⟩
    · have hi2 : i = n := by omega
      subst hi2
      rw [Int.emod_eq_of_lt hx0 hx1] at hw
      have hbn : BigN [(ko, ds (i + m) (x * y))] (.slice (some ⟨ko, 0, none⟩) (i + m) (i + m)) (i + m) (x * y) := ⟨hxy0, hxy1, by omega, _, _, rfl, by omega, .inr ⟨ko, _, rfl, by simp, dig_ds _ _⟩⟩
      have hbv := big_trim hbn
      have htr := btrim_gives hbn
      have hw : Ok S w0 wr ([(ko, ds (i + m) (x * y))] ++ H) R' := hw
      go_wp2_with (first | (go_at_call 47; refine htr.call hw (fun p hp => Has.own (List.mem_append_left _ hp)) ?_; clear hw; intro w hw))
      go_ret
      exact ⟨_, _, rfl, hbv, hw⟩
end Go.Proofs.YtcodmeljjphoeaaDoor
