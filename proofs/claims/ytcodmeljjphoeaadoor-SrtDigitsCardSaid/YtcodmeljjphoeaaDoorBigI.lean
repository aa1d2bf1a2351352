/-
  The references' numbers: of limbs.
-/
import Derived.Test.YtcodmeljjphoeaaDoorBigH
namespace Go.Proofs.YtcodmeljjphoeaaDoor
open Go.RowKit
set_option linter.unusedVariables false
set_option linter.unusedSimpArgs false

theorem lim_lo (z : Int) (i : Nat) : lim z i % 4294967296 = dg z (2 * i) := by
  unfold lim dg
  rw [show 32 * (2 * i) = 64 * i by omega]
  omega
theorem lim_hi (z : Int) (i : Nat) : lim z i / 4294967296 = dg z (2 * i + 1) := by
  have h := emod_mul' (z / 2 ^ (64 * i)) 4294967296 4294967296 (by omega) (by omega)
  unfold lim dg
  rw [show 32 * (2 * i + 1) = 64 * i + 32 by omega, Int.pow_add, ← Int.ediv_ediv_of_nonneg (by have := pow_pos2 (64 * i); omega)]
  rw [show (2 : Int) ^ 32 = 4294967296 by rfl]
  rw [show (18446744073709551616 : Int) = 4294967296 * 4294967296 by rfl]
  generalize z / 2 ^ (64 * i) = q at *
  have e := Int.emod_nonneg (q / 4294967296) (show (4294967296 : Int) ≠ 0 by omega)
  have e2 := Int.emod_lt_of_pos q (show (0 : Int) < 4294967296 by omega)
  have e3 := Int.emod_nonneg q (show (4294967296 : Int) ≠ 0 by omega)
  rw [h]
  generalize q / 4294967296 % 4294967296 = s at *
  generalize q % 4294967296 = r at *
  omega

theorem limbs_at {n i off : Nat} (b : Int) (e : off = i) (h : i < n) : (limbs n b)[off]? = some (.int .u64 (lim b i)) := by rw [e]; exact limbs_get b h
theorem set_two (A : Array Value) (u v : Value) (h : A.size = 2) : (A.setIfInBounds 0 u).setIfInBounds 1 v = #[u, v] := by
  apply Array.ext_getElem?
  intro i
  rw [Array.getElem?_setIfInBounds, Array.getElem?_setIfInBounds]
  by_cases hi : i = 1
  · subst hi; simp [h]
  · by_cases h0 : i = 0
    · subst h0; simp [h]
    · rw [if_neg (fun e => hi e.symm), if_neg (fun e => h0 e.symm), Array.getElem?_eq_none (by omega), Array.getElem?_eq_none (by simp; omega)]
/-- A new row of the call's own, as a slice. -/
def MineS (S : Nat → Prop) (w0 : World) (H R : List (Nat × Array Value)) (n : Nat) (cs : Array Value) : Rel := fun w v => ∃ k, v = .slice (some ⟨k, 0, none⟩) n n ∧ Ok S w0 w ((k, cs) :: H) R
theorem stable_mines (S : Nat → Prop) (w0 : World) (H R : List (Nat × Array Value)) (n : Nat) (cs : Array Value) : Stable (MineS S w0 H R n cs) := fun _ _ _ hb ⟨k, h1, h2⟩ => ⟨k, h1, h2.grow hb⟩
section
variable {P : Program} {ops : Array Oper} {Q : Exit → Act → World → Prop} {rest : List Oper} {o : Oper} {a : Act} {S : Nat → Prop} {w0 w : World} {H R : List (Nat × Array Value)} {ρ : Operand → Value}
variable {D : World → Prop} {a0 : Act} {hist : List Rel}
theorem run_build2s {t e : TypeId} {x y : Operand} {kd kd' : IntKind} {n n' : Int} (ho : o.op = .buildSlice t 2 #[(0, x), (1, y)]) (hu : P.underlying t = some (.slice e)) (he : One P e) (hz : ((P.info? e).bind (·.zero)).isSome = true) (hx : ρ x = .int kd n) (hy : ρ y = .int kd' n') :
    (execOp ρ o).run P w = .ok (.value (.slice (some ⟨w.heap.size, 0, none⟩) 2 2)) (w.alloc (.cells #[.int kd n, .int kd' n'] e)) := by
  obtain ⟨⟨d, h1, h2⟩, h3⟩ := he
  cases hq : P.info? e with
  | none => simp [hq] at h3
  | some ie =>
    have hs : ie.size = 1 := by simpa [hq] using h3
    cases hzz : ie.zero with
    | none => simp [hq, hzz] at hz
    | some z =>
      have := run_buildSlice (P := P) w t e 2 #[(0, .int kd n), (1, .int kd' n')] #[.int kd n, .int kd' n'] ie z hu hq hzz (by rw [hs]; decide) (by rw [hs]; decide) (by
        rw [hs]; simp only [Instr.fill]; rw [if_neg (by simp [Value.cells]), if_neg (by simp [Value.cells])]; congr 1; exact set_two _ _ _ (by simp))
      simp only [execOp, ho, List.map_toArray, List.map_cons, List.map_nil, hx, hy, Sem.run_bind, this, Result.andThen_ok, Sem.run_pure]
theorem ask_build2m {oo : Oper} {e : Entry} (hf : e.fl = false) (hg : e.gd = none) {t el : TypeId} {x y : Operand} {kd kd' : IntKind} {n n' : Int} (ho : oo.op = .buildSlice t 2 #[(0, x), (1, y)]) (hu : P.underlying t = some (.slice el)) (he : One P el) (hz : ((P.info? el).bind (·.zero)).isSome = true)
    (hx : ∀ a w, Ok S w0 w H R → Known hist a0 a w e.fs → a.eval x = .int kd n) (hy : ∀ a w, Ok S w0 w H R → Known hist a0 a w e.fs → a.eval y = .int kd' n') : Ask P Q (fun w => Ok S w0 w H R) D a0 hist oo e (MineS S w0 H R 2 #[.int kd n, .int kd' n']) :=
  ask_grow hf hg fun a w hw hk => ⟨_, _, run_build2s ho hu he hz (hx a w hw hk) (hy a w hw hk), below_alloc _ _, ⟨_, rfl, hw.new _ _⟩, Nat.le_refl _, by simp [blockOf]⟩
end

set_option maxRecDepth 100000 in
set_option maxHeartbeats 1000000 in
theorem bof_calls {k m c : Nat} {b : Int} (h0 : 0 ≤ b) (h1 : b < 2 ^ (64 * m)) (hm : m ≤ 1000) (hc : m ≤ c) : GivesB 50 #[.slice (some ⟨k, 0, none⟩) m c] [(k, limbs m b)] b := by
  refine GivesB.mk fun S w0 w H R' hR hw => ?_
  have hmem := hR _ (.head _)
  clear hR
  have hs1 : b < 2 ^ (32 * (2 * m)) := by rw [show 32 * (2 * m) = 64 * m by omega]; exact h1
  go_enter Tryd.func50, Tryd.ntmps50
  go_wp2_with fail
  go_loopw [4, 3] (fun a o wr => ∃ (i : Nat) (T : List (Nat × Array Value)), i ≤ m ∧ a = .int .i64 i ∧ Lst T o (bcells b (2 * i)) ∧ Ok S w0 wr (T ++ H) R') (fun a _ _ => m - (intOf a).toNat)
  case atStart => exact ⟨0, [], by omega, rfl, .nil, hw⟩
  case round =>
    clear hw
    obtain ⟨i, T, hi, rfl, hl, hw⟩ := hrel
    by_cases hlt : i < m
    · have hbl := lim_bd b i
      have hlen := Lib.hid (length_bcells b (2 * i))
      go_wp2_with fail
      try simp only [Act.put, List.setIfInBounds_toArray, List.set_cons_succ, List.set_cons_zero]
      refine wp_region_draws [⟨[(3, none)], none, false, false⟩, ⟨[(0, none)], none, false, false⟩, ⟨[(4, none)], none, false, false⟩, ⟨[(12, some 1), (13, some 2)], none, false, false⟩, ⟨[(14, some 3)], none, false, false⟩, ⟨[(15, some 4)], none, false, false⟩, ⟨[(0, none)], none, false, false⟩, ⟨[(4, none)], none, false, false⟩, ⟨[(17, some 6), (18, some 7)], none, false, false⟩, ⟨[(19, some 8)], none, false, false⟩, ⟨[(20, some 9)], none, false, false⟩, ⟨[(21, some 10)], none, false, false⟩, ⟨[(16, some 5), (22, some 11)], none, false, true⟩] 27 (fun w => Ok S w0 w (T ++ H) R') (by kernel_rfl) rfl (by kernel_rfl) (hw.grow (below_drew' _)) (fun _ _ h hb => h.grow hb) (fun _ _ _ _ h => h) ?_
      clear hw
      refine ⟨_, stable_is _, ask_run rfl rfl rfl (fun a w hw hk => run_move rfl (eval_of (known_old hk 3 (.head _) (by simp only [List.getElem?_toArray, List.getElem?_cons_zero, List.getElem?_cons_succ, Option.getD_some]; rfl)))), ?_⟩
      refine ⟨_, stable_is _, ask_run rfl rfl rfl (fun a w hw hk => run_move rfl (eval_of (known_old hk 0 (.head _) (by simp only [List.getElem?_toArray, List.getElem?_cons_zero, List.getElem?_cons_succ, Option.getD_some]; rfl)))), ?_⟩
      refine ⟨_, stable_is _, ask_run rfl rfl rfl (fun a w hw hk => run_move rfl (eval_of (known_old hk 4 (.head _) (by simp only [List.getElem?_toArray, List.getElem?_cons_zero, List.getElem?_cons_succ, Option.getD_some]; rfl)))), ?_⟩
      refine ⟨_, stable_is _, ask_run rfl rfl rfl (fun a w hw hk => run_indexAddr_slice rfl Tryd.underlying87 (by kernel_rfl) (eval_of (known_op hk 12 1 1 (.head _) rfl rfl)) (eval_of (known_op hk 13 2 0 (.tail _ (.head _)) rfl rfl)) (by omega) (by omega)), ?_⟩
      refine ⟨_, stable_is _, ask_run rfl rfl rfl (fun a w hw hk => run_load_c rfl (eval_of (known_op hk 14 3 0 (.head _) rfl rfl)) one_u64 (hw.has (by first | (apply Has.own; (repeat (first | assumption | exact List.mem_cons_self | apply List.mem_cons_of_mem)); done) | (apply Has.read; (repeat (first | assumption | exact List.mem_cons_self | apply List.mem_cons_of_mem)); done))) (limbs_at (i := i) _ (by omega) (by omega))), ?_⟩
      refine ⟨_, stable_is _, ask_run rfl rfl rfl (fun a w hw hk => by
      have e15 := known_op hk 15 4 0 (.head _) rfl rfl
      go_simp
      (first | with_reducible rfl | exact ⟨rfl, rfl⟩)), ?_⟩
      refine ⟨_, stable_is _, ask_run rfl rfl rfl (fun a w hw hk => run_move rfl (eval_of (known_old hk 0 (.head _) (by simp only [List.getElem?_toArray, List.getElem?_cons_zero, List.getElem?_cons_succ, Option.getD_some]; rfl)))), ?_⟩
      refine ⟨_, stable_is _, ask_run rfl rfl rfl (fun a w hw hk => run_move rfl (eval_of (known_old hk 4 (.head _) (by simp only [List.getElem?_toArray, List.getElem?_cons_zero, List.getElem?_cons_succ, Option.getD_some]; rfl)))), ?_⟩
      refine ⟨_, stable_is _, ask_run rfl rfl rfl (fun a w hw hk => run_indexAddr_slice rfl Tryd.underlying87 (by kernel_rfl) (eval_of (known_op hk 17 6 1 (.head _) rfl rfl)) (eval_of (known_op hk 18 7 0 (.tail _ (.head _)) rfl rfl)) (by omega) (by omega)), ?_⟩
      refine ⟨_, stable_is _, ask_run rfl rfl rfl (fun a w hw hk => run_load_c rfl (eval_of (known_op hk 19 8 0 (.head _) rfl rfl)) one_u64 (hw.has (by first | (apply Has.own; (repeat (first | assumption | exact List.mem_cons_self | apply List.mem_cons_of_mem)); done) | (apply Has.read; (repeat (first | assumption | exact List.mem_cons_self | apply List.mem_cons_of_mem)); done))) (limbs_at (i := i) _ (by omega) (by omega))), ?_⟩
      refine ⟨_, stable_is _, ask_run rfl rfl rfl (fun a w hw hk => run_shr_u rfl (eval_of (known_op hk 20 9 0 (.head _) rfl rfl)) rfl (by omega)), ?_⟩
      refine ⟨_, stable_is _, ask_run rfl rfl rfl (fun a w hw hk => by
      have e21 := known_op hk 21 10 0 (.head _) rfl rfl
      go_simp
      (first | with_reducible rfl | exact ⟨rfl, rfl⟩)), ?_⟩
      refine ⟨_, stable_mines _ _ _ _ _ _, ask_build2m rfl rfl rfl Tryd.underlying36 one_u32 zero_u32' (fun a w hw hk => (eval_of (known_op hk 16 5 6 (.head _) rfl rfl))) (fun a w hw hk => (eval_of (known_op hk 22 11 0 (.tail _ (.head _)) rfl rfl))), ?_⟩
      intro w hw
      rintro _ rfl
      rintro _ rfl
      rintro _ rfl
      rintro _ rfl
      rintro _ rfl
      rintro _ rfl
      rintro _ rfl
      rintro _ rfl
      rintro _ rfl
      rintro _ rfl
      rintro _ rfl
      rintro _ rfl
      rintro _ ⟨m12, rfl, hm12⟩
      intro hn12
      change wpList _ _ _ _ _ _
      simp only [List.length_cons, List.length_nil, Nat.reduceAdd, Nat.zero_add, List.drop_succ_cons, List.drop_zero, Act.put, List.setIfInBounds_toArray, List.set_cons_succ, List.set_cons_zero]
      clear hw
      have hw := hm12
      clear hm12 hn12
      have e1 : IntKind.u32.wrap (lim b i) = dg b (2 * i) := by rw [wrap_u32, lim_lo]
      have e2 : IntKind.u32.wrap (shr64 (lim b i) 32) = dg b (2 * i + 1) := by
        have e3 : shr64 (lim b i) 32 = lim b i / 4294967296 := rfl
        rw [wrap_u32, e3, lim_hi]
        exact Int.emod_eq_of_lt (dg_bd _ _).1 (dg_bd _ _).2
      rw [e1, e2] at hw
      clear e1 e2
      go_wp2_with (first | (refine ok_append (Ok.front [_] T H hw) rfl _ _ _ rfl _ Tryd.underlying36 elem_u32 _ rfl _ hl _ _ _ rfl _ (by apply Has.own; (repeat (first | exact List.mem_cons_self | apply List.mem_cons_of_mem | exact List.mem_append_right _ (List.mem_cons_self)))) rfl (by simp [Value.oneCell']) (by rw [hlen.out]; omega) ?_; clear hw; intro w T' v' hl' hw'; have hw := hw'.sub (List.Sublist.append (List.Sublist.refl T') (List.Sublist.cons _ (List.Sublist.refl H))) (fun q h => h); clear hw'))
      refine ⟨⟨i + 1, T', by omega, by go_num, ?_, hw⟩, by simp [intOf]; omega⟩
      rw [show 2 * (i + 1) = 2 * i + 1 + 1 by omega, bcells_succ, bcells_succ, List.append_assoc]
      exact hl'
    · have hi2 : i = m := by omega
      subst hi2
      obtain ⟨q, cc, rfl, hbn⟩ := bign_of_lst hl h0 hs1 (by omega)
      have hbv := big_trim hbn
      have htr := btrim_gives hbn
      go_wp2_with (first | (go_at_call 47; refine htr.call hw (fun p hp => Has.own (List.mem_append_left _ hp)) ?_; clear hw; intro w hw))
      go_ret
      exact ⟨_, _, rfl, hbv, hw⟩

theorem lim_self {n : Int} (h0 : 0 ≤ n) (h1 : n < 18446744073709551616) : lim n 0 = n := by
  unfold lim
  simp only [Nat.mul_zero, Int.pow_zero, Int.ediv_one]
  exact Int.emod_eq_of_lt h0 h1
theorem limbs_one' {n : Int} (h0 : 0 ≤ n) (h1 : n < 18446744073709551616) : limbs 1 n = #[.int .u64 n] := by
  have : limbs 1 n = #[.int .u64 (lim n 0)] := rfl
  rw [this, lim_self h0 h1]

set_option maxRecDepth 100000 in
theorem bsmall_calls {n : Int} (h0 : 0 ≤ n) (h1 : n < 18446744073709551616) : GivesB 23 #[.int .u64 n] [] n := by
  intro w0 w R' hR hw
  have hof := fun k => bof_calls (k := k) (m := 1) (c := 1) h0 (by simpa using h1) (by omega) (by omega)
  rw [limbs_one' h0 h1] at hof
  have Hof := Lib.hid hof
  clear hof
  go_enter Tryd.func23, Tryd.ntmps23
  go_wp2_with (first | (refine ok_build1 (H := []) hw rfl _ _ _ rfl Tryd.underlying87 one_u64 zero_u64' _ _ rfl ?_; clear hw; intro k2 w hw'; have hw := Ok.freeze (T := [_]) hw'; clear hw') | (go_at_call 50; refine (Hof.out _).use hw (by simp) ?_; clear hw; intro w z L hz hf hw))
  go_ret
  exact ⟨z, L, rfl, hz, hf, hw.sub (List.Sublist.refl _) (by grind)⟩
end Go.Proofs.YtcodmeljjphoeaaDoor
