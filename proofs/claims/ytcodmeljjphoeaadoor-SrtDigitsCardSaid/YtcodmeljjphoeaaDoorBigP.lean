/-
  Are lists the same? The references' digits.
-/
import Derived.Test.YtcodmeljjphoeaaDoorBigO
import Derived.Test.YtcodmeljjphoeaaDoorTableA
namespace Go.Proofs.YtcodmeljjphoeaaDoor
open Go.RowKit
set_option linter.unusedVariables false
set_option linter.unusedSimpArgs false

set_option maxRecDepth 100000 in
set_option maxHeartbeats 1000000 in
theorem same_gives {k k' n c c' : Nat} {cs cs' : Array Value} (f : Nat → Int) (hn : n ≤ 1000) (h1 : ∀ i, i < n → cs[i]? = some (.int .i64 (f i))) (h2 : ∀ i, i < n → cs'[i]? = some (.int .i64 (f i))) :
    Gives Tryd.prog 13 #[.slice (some ⟨k, 0, none⟩) n c, .slice (some ⟨k', 0, none⟩) n c'] [(k, cs), (k', cs')] (.bool true) := by
  refine .mk fun w0 w hw => ?_
  go_enter Tryd.func13, Tryd.ntmps13
  go_wp2_with fail
  go_loopw [5] (fun v wr => ∃ i : Nat, i ≤ n ∧ v = .int .i64 i ∧ Ok Non w0 wr [] [(k, cs), (k', cs')]) (fun v _ => n - (intOf v).toNat)
  case atStart => exact ⟨0, by omega, rfl, hw⟩
  case round =>
    clear hw
    obtain ⟨i, hi, rfl, hw⟩ := hrel
    by_cases hlt : i < n
    · have e1 := h1 i hlt
      have e2 := h2 i hlt
      generalize f i = d at *
      go_wp2_with fail
      try simp only [Act.put, List.setIfInBounds_toArray, List.set_cons_succ, List.set_cons_zero]
      refine wp_region_draws [⟨[(0, none)], none, false, false⟩, ⟨[(5, none)], none, false, false⟩, ⟨[(17, some 0), (18, some 1)], none, false, false⟩, ⟨[(19, some 2)], none, false, false⟩, ⟨[(1, none)], none, false, false⟩, ⟨[(5, none)], none, false, false⟩, ⟨[(21, some 4), (22, some 5)], none, false, false⟩, ⟨[(23, some 6)], none, false, false⟩, ⟨[(20, some 3), (24, some 7)], none, false, false⟩] 26 (fun w => Ok Non w0 w [] [(k, cs), (k', cs')]) (by kernel_rfl) rfl (by kernel_rfl) (hw.grow (below_drew' _)) (fun _ _ h hb => h.grow hb) (fun _ _ _ _ h => h) ?_
      clear hw
      refine ⟨_, stable_is _, ask_run rfl rfl rfl (fun a w hw hk => run_move rfl (eval_of (known_old hk 0 (.head _) (by simp only [List.getElem?_toArray, List.getElem?_cons_zero, List.getElem?_cons_succ, Option.getD_some]; rfl)))), ?_⟩
      refine ⟨_, stable_is _, ask_run rfl rfl rfl (fun a w hw hk => run_move rfl (eval_of (known_old hk 5 (.head _) (by simp only [List.getElem?_toArray, List.getElem?_cons_zero, List.getElem?_cons_succ, Option.getD_some]; rfl)))), ?_⟩
      refine ⟨_, stable_is _, ask_run rfl rfl rfl (fun a w hw hk => run_indexAddr_slice rfl Tryd.underlying31 (by kernel_rfl) (eval_of (known_op hk 17 0 1 (.head _) rfl rfl)) (eval_of (known_op hk 18 1 0 (.tail _ (.head _)) rfl rfl)) (by omega) (by omega)), ?_⟩
      refine ⟨_, stable_is _, ask_run rfl rfl rfl (fun a w hw hk => run_load_c rfl (eval_of (known_op hk 19 2 0 (.head _) rfl rfl)) one_int (hw.has (by first | (apply Has.own; (repeat (first | assumption | exact List.mem_cons_self | apply List.mem_cons_of_mem)); done) | (apply Has.read; (repeat (first | assumption | exact List.mem_cons_self | apply List.mem_cons_of_mem)); done))) (by simpa using e1)), ?_⟩
      refine ⟨_, stable_is _, ask_run rfl rfl rfl (fun a w hw hk => run_move rfl (eval_of (known_old hk 1 (.head _) (by simp only [List.getElem?_toArray, List.getElem?_cons_zero, List.getElem?_cons_succ, Option.getD_some]; rfl)))), ?_⟩
      refine ⟨_, stable_is _, ask_run rfl rfl rfl (fun a w hw hk => run_move rfl (eval_of (known_old hk 5 (.head _) (by simp only [List.getElem?_toArray, List.getElem?_cons_zero, List.getElem?_cons_succ, Option.getD_some]; rfl)))), ?_⟩
      refine ⟨_, stable_is _, ask_run rfl rfl rfl (fun a w hw hk => run_indexAddr_slice rfl Tryd.underlying31 (by kernel_rfl) (eval_of (known_op hk 21 4 1 (.head _) rfl rfl)) (eval_of (known_op hk 22 5 0 (.tail _ (.head _)) rfl rfl)) (by omega) (by omega)), ?_⟩
      refine ⟨_, stable_is _, ask_run rfl rfl rfl (fun a w hw hk => run_load_c rfl (eval_of (known_op hk 23 6 0 (.head _) rfl rfl)) one_int (hw.has (by first | (apply Has.own; (repeat (first | assumption | exact List.mem_cons_self | apply List.mem_cons_of_mem)); done) | (apply Has.read; (repeat (first | assumption | exact List.mem_cons_self | apply List.mem_cons_of_mem)); done))) (by simpa using e2)), ?_⟩
      refine ⟨_, stable_is _, ask_run rfl rfl rfl (fun a w hw hk => run_neq_i rfl (eval_of (known_op hk 20 3 4 (.head _) rfl rfl)) (eval_of (known_op hk 24 7 0 (.tail _ (.head _)) rfl rfl))), ?_⟩
      intro w hw
      rintro _ rfl
      rintro _ rfl
      rintro _ rfl
      rintro _ rfl
      rintro _ rfl
      rintro _ rfl
      rintro _ rfl
      rintro _ rfl
      rintro _ rfl
      change wpList _ _ _ _ _ _
      simp only [List.length_cons, List.length_nil, Nat.reduceAdd, Nat.zero_add, List.drop_succ_cons, List.drop_zero, Act.put, List.setIfInBounds_toArray, List.set_cons_succ, List.set_cons_zero]
      go_wp2_with fail
      exact ⟨⟨i + 1, by omega, by go_num, hw⟩, by simp [intOf]; omega⟩
    · have hi2 : i = n := by omega
      subst hi2
      go_wp2_with fail
      go_ret
      exact ⟨rfl, hw.below⟩

set_option maxRecDepth 100000 in
theorem digit14_gives (b : Nat → Int) (y : Int) : Gives Tryd.prog 38 #[.agg (ints4 b), .int .i64 y] [] (.int .i64 (pickv b y)) := by
  refine .mk fun w0 w hw => ?_
  obtain ⟨r, hr⟩ : ∃ r, r = pickv b y := ⟨_, rfl⟩
  rw [← hr]
  have Hr := Lib.hid hr
  clear hr
  go_enter Tryd.func38, Tryd.ntmps38
  go_wp2_with (first | (refine ok_box (H := []) hw rfl 76 _ rfl _ rfl ?_; clear hw; intro k1 w hw))
  go_loopw [5] (fun v wr => ∃ i : Nat, i ≤ 4 ∧ v = .int .i64 i ∧ Hid (pickv b y = pickf b y (4 - i)) ∧ Ok Non w0 wr [(k1, ints4 b)] []) (fun v _ => 4 - (intOf v).toNat)
  case atStart => exact ⟨0, by omega, rfl, Lib.hid rfl, hw⟩
  case round =>
    clear hw
    obtain ⟨i, hi, rfl, hp, hw⟩ := hrel
    by_cases hlt : i < 4
    · have hst : pickf b y (4 - i) = if b i ≤ y then (2 : Int) - i else pickf b y (4 - (i + 1)) := by
        rw [show 4 - i = (3 - i) + 1 by omega, pickf, show 3 - (3 - i) = i by omega, show 4 - (i + 1) = 3 - i by omega]
        congr 1; omega
      have hcell := (hw.has (Has.own (.head _))).cell i
      rw [ints4_get b hlt] at hcell
      by_cases hb : b i ≤ y
      · rw [if_pos hb] at hst
        have hst2 := Lib.hid hst
        clear hst
        go_wp2_with fail
        go_ret
        exact ⟨by rw [Hr.out, hp.out, hst2.out]; go_num, hw.below⟩
      · rw [if_neg hb] at hst
        have hst2 := Lib.hid hst
        clear hst
        go_wp2_with fail
        exact ⟨⟨i + 1, by omega, by go_num, Lib.hid (hp.out.trans hst2.out), hw⟩, by simp [intOf]; omega⟩
    · have h4 : i = 4 := by omega
      subst h4
      go_wp2_with fail
      go_ret
      exact ⟨by rw [Hr.out, hp.out]; rfl, hw.below⟩

end Go.Proofs.YtcodmeljjphoeaaDoor
