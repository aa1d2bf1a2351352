/-
  Numbers with a sign: one without another one.
-/
import Derived.Test.YtcodmeljjphoeaaDoorDrawB
namespace Go.Proofs.YtcodmeljjphoeaaDoor
open Go.RowKit
set_option linter.unusedVariables false
set_option linter.unusedSimpArgs false

/-- A number with a sign, in two cells. -/
def SgnR (S : Nat → Prop) (w0 : World) (H R : List (Nat × Array Value)) (b : Int) (s : Bool) : Rel := fun w v => ∃ p n c L, v = .agg #[.slice p n c, .bool s] ∧ BigV L (.slice p n c) b ∧ Fresh w0 L ∧ Ok S w0 w H (L ++ R)
theorem stable_sgn (S : Nat → Prop) (w0 : World) (H R : List (Nat × Array Value)) (b : Int) (s : Bool) : Stable (SgnR S w0 H R b s) := fun _ _ _ hb ⟨p, n, c, L, h0, h1, h2, h3⟩ => ⟨p, n, c, L, h0, h1, h2, h3.grow hb⟩
section
variable {P : Program} {ops : Array Oper} {Q : Exit → Act → World → Prop} {o : Oper} {a : Act} {S : Nat → Prop} {w0 w : World} {H R : List (Nat × Array Value)} {D : World → Prop} {a0 : Act} {hist : List Rel}
theorem ask_sgn {e : Entry} {b : Int} {s : Bool} (hf : e.fl = false) (hg : e.gd = none) (hn : e.nw = false)
    (h : ∀ a w, Ok S w0 w H R → Known hist a0 a w e.fs → ∃ v, (execOp a.eval o).run P w = .ok (.value v) w ∧ SgnR S w0 H R b s w v) :
    Ask P Q (fun w => Ok S w0 w H R) D a0 hist o e (SgnR S w0 H R b s) := ask_rel hf hg hn h
end
theorem built_signed (p : Option Addr) (n c : Nat) (s : Bool) : Tryd.prog.built 38 [(0, .slice p n c), (1, .bool s)] = some #[.slice p n c, .bool s] := by kernel_rfl
theorem run_sgn {o : Oper} {ρ : Operand → Value} {S : Nat → Prop} {w0 w : World} {H R L : List (Nat × Array Value)} {x y : Operand} {v : Value} {b : Int} {s : Bool}
    (hb : BigV L v b) (hw : Fresh w0 L ∧ Ok S w0 w H (L ++ R)) (ho : o.op = .build 38 #[(0, x), (1, y)]) (hx : ρ x = v) (hy : ρ y = .bool s) :
    ∃ v, (execOp ρ o).run Tryd.prog w = .ok (.value v) w ∧ SgnR S w0 H R b s w v := by
  obtain ⟨p, n, c, rfl⟩ := hb.slice
  have := run_build (P := Tryd.prog) w 38 #[(0, .slice p n c), (1, .bool s)] #[.slice p n c, .bool s] (built_signed p n c s)
  exact ⟨_, by simp only [execOp, ho, List.map_toArray, List.map_cons, List.map_nil, hx, hy, Sem.run_bind, this, Result.andThen_ok, Sem.run_pure], p, n, c, L, rfl, hb, hw.1, hw.2⟩
theorem agg_signed : Agg Tryd.prog 38 2 := .mk _ Tryd.underlying38 rfl (by kernel_rfl)
theorem zero_signed : Zero Tryd.prog 38 #[.slice none 0 0, .bool false] := ⟨.agg #[.slice none 0 0, .bool false], by kernel_rfl, rfl⟩

/-- A call that returns a number with a sign. -/
def GivesG (f : FuncId) (args : Array Value) (R : List (Nat × Array Value)) (b : Int) (s : Bool) : Prop :=
  ∀ (w0 w : World) (R' : List (Nat × Array Value)), (∀ p ∈ R, p ∈ R') → Ok Non w0 w [] R' →
    Calls Tryd.prog f args w fun e w' => ∃ p n c L, e = .returned (.agg #[.slice p n c, .bool s]) ∧ BigV L (.slice p n c) b ∧ Fresh w0 L ∧ Ok Non w0 w' [] (L ++ R')

set_option maxRecDepth 100000 in
set_option maxHeartbeats 1000000 in
theorem ssub_other {R : List (Nat × Array Value)} {p q : Option Addr} {i j c d : Nat} {x y : Int} {s t : Bool} (hx : BigV R (.slice p i c) x) (hy : BigV R (.slice q j d) y) (h1 : x < Cap) (h2 : y < Cap) (hst : s = !t) :
    GivesG 41 #[.agg #[.slice p i c, .bool s], .agg #[.slice q j d, .bool t]] R (x + y) (s) := by
  intro w0 w R' hR hw
  have hadd := vadd (hx.mono hR) (hy.mono hR) h1 h2
  have hne : (s == t) = false := by subst hst; cases t <;> rfl
  clear hst hx hy
  go_enter Tryd.func41, Tryd.ntmps41
  go_wp2_with (first | (refine ok_box (H := []) hw rfl 38 _ rfl _ rfl ?_; clear hw; intro k1 w hw) | (refine ok_box (H := [_]) hw rfl 38 _ rfl _ rfl ?_; clear hw; intro k2 w hw) | (refine ok_alloc (H := []) hw rfl 38 rfl _ zero_signed ?_; clear hw; intro k1 w hw) | (refine ok_alloc (H := [_]) hw rfl 38 rfl _ zero_signed ?_; clear hw; intro k2 w hw) | (refine ok_alloc (H := [_, _]) hw rfl 38 rfl _ zero_signed ?_; clear hw; intro k3 w hw) | (refine ok_load_cell hw rfl 4 _ rfl _ _ rfl one_bool _ (by first | (apply Has.own; (repeat (first | assumption | exact List.mem_cons_self | apply List.mem_cons_of_mem)); done) | (apply Has.read; (repeat (first | assumption | exact List.mem_cons_self | apply List.mem_cons_of_mem)); done)) _ rfl ?_))
  try simp only [Act.put, List.setIfInBounds_toArray, List.set_cons_succ, List.set_cons_zero]
  refine wp_region_draws [⟨[(2, none)], none, false, false⟩, ⟨[(10, some 0)], none, false, false⟩, ⟨[(3, none)], none, false, false⟩, ⟨[(12, some 2)], none, false, false⟩, ⟨[(11, some 1), (13, some 3)], none, false, false⟩, ⟨[(2, none)], none, false, false⟩, ⟨[(15, some 5)], none, false, false⟩, ⟨[(14, some 4), (16, some 6)], none, false, false⟩] 49 (fun w => Ok Non w0 w [(k3, #[.slice none 0 0, .bool false]), (k2, #[.slice q j d, .bool t]), (k1, #[.slice p i c, .bool s])] R') (by kernel_rfl) rfl (by kernel_rfl) (hw.grow (below_drew' _)) (fun _ _ h hb => h.grow hb) (fun _ _ _ _ h => h) ?_
  clear hw
  refine ⟨_, stable_is _, ask_run rfl rfl rfl (fun a w hw hk => by
      have e2 := known_old hk 2 (.head _) (by simp only [List.getElem?_toArray, List.getElem?_cons_zero, List.getElem?_cons_succ, Option.getD_some]; rfl)
      go_simp
      (first | with_reducible rfl | exact ⟨rfl, rfl⟩)), ?_⟩
  refine ⟨_, stable_is _, ask_run rfl rfl rfl (fun a w hw hk => run_load_c rfl (eval_of (known_op hk 10 0 0 (.head _) rfl rfl)) one_big (hw.has (by first | (apply Has.own; (repeat (first | assumption | exact List.mem_cons_self | apply List.mem_cons_of_mem)); done) | (apply Has.read; (repeat (first | assumption | exact List.mem_cons_self | apply List.mem_cons_of_mem)); done))) rfl), ?_⟩
  refine ⟨_, stable_is _, ask_run rfl rfl rfl (fun a w hw hk => by
      have e3 := known_old hk 3 (.head _) (by simp only [List.getElem?_toArray, List.getElem?_cons_zero, List.getElem?_cons_succ, Option.getD_some]; rfl)
      go_simp
      (first | with_reducible rfl | exact ⟨rfl, rfl⟩)), ?_⟩
  refine ⟨_, stable_is _, ask_run rfl rfl rfl (fun a w hw hk => run_load_c rfl (eval_of (known_op hk 12 2 0 (.head _) rfl rfl)) one_big (hw.has (by first | (apply Has.own; (repeat (first | assumption | exact List.mem_cons_self | apply List.mem_cons_of_mem)); done) | (apply Has.read; (repeat (first | assumption | exact List.mem_cons_self | apply List.mem_cons_of_mem)); done))) rfl), ?_⟩
  refine ⟨_, stable_mineb _ _ _ _ _, ask_big rfl rfl rfl (fun a w hw hk => by
      exact ⟨_, _, run_call2 rfl ⟨_, Tryd.func46, by kernel_rfl, by kernel_rfl⟩ (eval_of (known_op hk 11 1 2 (.head _) rfl rfl)) (eval_of (known_op hk 13 3 0 (.tail _ (.head _)) rfl rfl)), hadd, (fun p hp => hw.reads p hp)⟩), ?_⟩
  refine ⟨_, stable_is _, ask_run rfl rfl rfl (fun a w hw hk => by
      have e2 := known_old hk 2 (.head _) (by simp only [List.getElem?_toArray, List.getElem?_cons_zero, List.getElem?_cons_succ, Option.getD_some]; rfl)
      go_simp
      (first | with_reducible rfl | exact ⟨rfl, rfl⟩)), ?_⟩
  refine ⟨_, stable_is _, ask_run rfl rfl rfl (fun a w hw hk => run_load_c rfl (eval_of (known_op hk 15 5 0 (.head _) rfl rfl)) one_bool (hw.has (by first | (apply Has.own; (repeat (first | assumption | exact List.mem_cons_self | apply List.mem_cons_of_mem)); done) | (apply Has.read; (repeat (first | assumption | exact List.mem_cons_self | apply List.mem_cons_of_mem)); done))) rfl), ?_⟩
  refine ⟨_, stable_sgn _ _ _ _ _ _, ask_sgn rfl rfl rfl (fun a w hw hk => by
      obtain ⟨L14, e14, b14⟩ := known_rel hk 14 4 2 (.head _) rfl rfl
      exact run_sgn e14 b14 rfl (eval_of rfl) (eval_of (known_op hk 16 6 0 (.tail _ (.head _)) rfl rfl))), ?_⟩
  intro w hw
  rintro _ rfl
  rintro _ rfl
  rintro _ rfl
  rintro _ rfl
  rintro v4 ⟨L4, hv4, hf4, hm4⟩
  rintro _ rfl
  rintro _ rfl
  rintro _ ⟨p7, n7, c7, L7, rfl, hv7, hf7, hm7⟩
  change wpList _ _ _ _ _ _
  simp only [List.length_cons, List.length_nil, Nat.reduceAdd, Nat.zero_add, List.drop_succ_cons, List.drop_zero, Act.put, List.setIfInBounds_toArray, List.set_cons_succ, List.set_cons_zero]
  clear hw
  have hw := hm7
  clear hm7
  go_wp2_with (first | (refine ok_store hw rfl 38 _ _ rfl _ rfl _ rfl 2 agg_signed _ (.head _) rfl rfl (by simp [Ones, Value.oneCell']) ?_; clear hw; intro w hw))
  refine ret_c rfl rfl agg_signed (hw.rows _ (.head _)) rfl rfl ⟨p7, n7, c7, L7, rfl, hv7, hf7, hw.sub (List.nil_sublist _) (fun q hq => hq)⟩
set_option maxRecDepth 100000 in
set_option maxHeartbeats 1000000 in
theorem ssub_pos {R : List (Nat × Array Value)} {p q : Option Addr} {i j c d : Nat} {x y : Int} {s t : Bool} (hx : BigV R (.slice p i c) x) (hy : BigV R (.slice q j d) y) (h : y ≤ x) (hs : s = false) (ht : t = false) :
    GivesG 41 #[.agg #[.slice p i c, .bool s], .agg #[.slice q j d, .bool t]] R (x - y) (false) := by
  intro w0 w R' hR hw
  subst hs ht
  have hsub := vsub (hx.mono hR) (hy.mono hR) h
  have hcmp := vcmp (hx.mono hR) (hy.mono hR)
  have hc3 : 0 ≤ cmp3 x y := by unfold cmp3; split <;> (try split) <;> omega
  have hd : (cmp3 x y != 0) = decide (x ≠ y) := by
    unfold cmp3
    by_cases e : x = y
    · subst e; rw [if_neg (by omega), if_neg (by omega)]; simp
    · rw [if_neg (by omega), if_pos (by omega)]; simp [e]
  have Hd := Lib.hid hd
  generalize cmp3 x y = cv at *
  clear hx hy hd
  go_enter Tryd.func41, Tryd.ntmps41
  go_wp2_with (first | (refine ok_box (H := []) hw rfl 38 _ rfl _ rfl ?_; clear hw; intro k1 w hw) | (refine ok_box (H := [_]) hw rfl 38 _ rfl _ rfl ?_; clear hw; intro k2 w hw) | (refine ok_alloc (H := []) hw rfl 38 rfl _ zero_signed ?_; clear hw; intro k1 w hw) | (refine ok_alloc (H := [_]) hw rfl 38 rfl _ zero_signed ?_; clear hw; intro k2 w hw) | (refine ok_alloc (H := [_, _]) hw rfl 38 rfl _ zero_signed ?_; clear hw; intro k3 w hw) | (refine ok_load_cell hw rfl 4 _ rfl _ _ rfl one_bool _ (by first | (apply Has.own; (repeat (first | assumption | exact List.mem_cons_self | apply List.mem_cons_of_mem)); done) | (apply Has.read; (repeat (first | assumption | exact List.mem_cons_self | apply List.mem_cons_of_mem)); done)) _ rfl ?_) | (refine ok_load_cell hw rfl 36 _ rfl _ _ rfl one_big _ (by first | (apply Has.own; (repeat (first | assumption | exact List.mem_cons_self | apply List.mem_cons_of_mem)); done) | (apply Has.read; (repeat (first | assumption | exact List.mem_cons_self | apply List.mem_cons_of_mem)); done)) _ rfl ?_) | (go_at_call 20; refine hcmp.of hw sub_all ?_; clear hw; intro w hw))
  try simp only [Act.put, List.setIfInBounds_toArray, List.set_cons_succ, List.set_cons_zero]
  refine wp_region_draws [⟨[(2, none)], none, false, false⟩, ⟨[(24, some 0)], none, false, false⟩, ⟨[(3, none)], none, false, false⟩, ⟨[(26, some 2)], none, false, false⟩, ⟨[(25, some 1), (27, some 3)], none, false, false⟩, ⟨[(2, none)], none, false, false⟩, ⟨[(29, some 5)], none, false, false⟩, ⟨[(30, some 6)], none, false, false⟩, ⟨[(2, none), (31, some 7)], some (31, true), false, false⟩, ⟨[(32, some 8), (31, some 7)], some (31, true), false, false⟩, ⟨[(3, none), (31, some 7)], some (31, true), false, false⟩, ⟨[(34, some 10), (31, some 7)], some (31, true), false, false⟩, ⟨[(33, some 9), (35, some 11), (31, some 7)], some (31, true), false, false⟩, ⟨[(36, some 12), (31, some 7)], some (31, true), false, false⟩, ⟨[(31, some 7), (37, some 13)], none, false, false⟩, ⟨[(28, some 4), (38, some 14)], none, false, false⟩] 49 (fun w => Ok Non w0 w [(k3, #[.slice none 0 0, .bool false]), (k2, #[.slice q j d, .bool false]), (k1, #[.slice p i c, .bool false])] R') (by kernel_rfl) rfl (by kernel_rfl) (hw.grow (below_drew' _)) (fun _ _ h hb => h.grow hb) (fun _ _ _ _ h => h) ?_
  clear hw
  refine ⟨_, stable_is _, ask_run rfl rfl rfl (fun a w hw hk => by
      have e2 := known_old hk 2 (.head _) (by simp only [List.getElem?_toArray, List.getElem?_cons_zero, List.getElem?_cons_succ, Option.getD_some]; rfl)
      go_simp
      (first | with_reducible rfl | exact ⟨rfl, rfl⟩)), ?_⟩
  refine ⟨_, stable_is _, ask_run rfl rfl rfl (fun a w hw hk => run_load_c rfl (eval_of (known_op hk 24 0 0 (.head _) rfl rfl)) one_big (hw.has (by first | (apply Has.own; (repeat (first | assumption | exact List.mem_cons_self | apply List.mem_cons_of_mem)); done) | (apply Has.read; (repeat (first | assumption | exact List.mem_cons_self | apply List.mem_cons_of_mem)); done))) rfl), ?_⟩
  refine ⟨_, stable_is _, ask_run rfl rfl rfl (fun a w hw hk => by
      have e3 := known_old hk 3 (.head _) (by simp only [List.getElem?_toArray, List.getElem?_cons_zero, List.getElem?_cons_succ, Option.getD_some]; rfl)
      go_simp
      (first | with_reducible rfl | exact ⟨rfl, rfl⟩)), ?_⟩
  refine ⟨_, stable_is _, ask_run rfl rfl rfl (fun a w hw hk => run_load_c rfl (eval_of (known_op hk 26 2 0 (.head _) rfl rfl)) one_big (hw.has (by first | (apply Has.own; (repeat (first | assumption | exact List.mem_cons_self | apply List.mem_cons_of_mem)); done) | (apply Has.read; (repeat (first | assumption | exact List.mem_cons_self | apply List.mem_cons_of_mem)); done))) rfl), ?_⟩
  refine ⟨_, stable_mineb _ _ _ _ _, ask_big rfl rfl rfl (fun a w hw hk => by
      exact ⟨_, _, run_call2 rfl ⟨_, Tryd.func71, by kernel_rfl, by kernel_rfl⟩ (eval_of (known_op hk 25 1 2 (.head _) rfl rfl)) (eval_of (known_op hk 27 3 0 (.tail _ (.head _)) rfl rfl)), hsub, (fun p hp => hw.reads p hp)⟩), ?_⟩
  refine ⟨_, stable_is _, ask_run rfl rfl rfl (fun a w hw hk => by
      have e2 := known_old hk 2 (.head _) (by simp only [List.getElem?_toArray, List.getElem?_cons_zero, List.getElem?_cons_succ, Option.getD_some]; rfl)
      go_simp
      (first | with_reducible rfl | exact ⟨rfl, rfl⟩)), ?_⟩
  refine ⟨_, stable_is _, ask_run rfl rfl rfl (fun a w hw hk => run_load_c rfl (eval_of (known_op hk 29 5 0 (.head _) rfl rfl)) one_bool (hw.has (by first | (apply Has.own; (repeat (first | assumption | exact List.mem_cons_self | apply List.mem_cons_of_mem)); done) | (apply Has.read; (repeat (first | assumption | exact List.mem_cons_self | apply List.mem_cons_of_mem)); done))) rfl), ?_⟩
  refine ⟨_, stable_is _, ask_run rfl rfl rfl (fun a w hw hk => run_move rfl (eval_of (known_op hk 30 6 0 (.head _) rfl rfl))), ?_⟩
  refine ⟨_, stable_is _, ask_not rfl rfl rfl (fun a w hw hk => getD_of (known_op hk 31 7 0 (.tail _ (.head _)) rfl rfl)), ?_⟩
  refine ⟨_, stable_is _, ask_not rfl rfl rfl (fun a w hw hk => getD_of (known_op hk 31 7 1 (.tail _ (.head _)) rfl rfl)), ?_⟩
  refine ⟨_, stable_is _, ask_not rfl rfl rfl (fun a w hw hk => getD_of (known_op hk 31 7 2 (.tail _ (.head _)) rfl rfl)), ?_⟩
  refine ⟨_, stable_is _, ask_not rfl rfl rfl (fun a w hw hk => getD_of (known_op hk 31 7 3 (.tail _ (.head _)) rfl rfl)), ?_⟩
  refine ⟨_, stable_is _, ask_not rfl rfl rfl (fun a w hw hk => getD_of (known_op hk 31 7 4 (.tail _ (.tail _ (.head _))) rfl rfl)), ?_⟩
  refine ⟨_, stable_is _, ask_not rfl rfl rfl (fun a w hw hk => getD_of (known_op hk 31 7 5 (.tail _ (.head _)) rfl rfl)), ?_⟩
  refine ⟨_, stable_is _, ask_run rfl rfl rfl (fun a w hw hk => by
      have e31 := known_op hk 31 7 6 (.head _) rfl rfl
      have e37 := known_op hk 37 13 0 (.tail _ (.head _)) rfl rfl
      go_simp
      (first | with_reducible rfl | exact ⟨rfl, rfl⟩)), ?_⟩
  refine ⟨_, stable_sgn _ _ _ _ _ _, ask_sgn rfl rfl rfl (fun a w hw hk => by
      obtain ⟨L28, e28, b28⟩ := known_rel hk 28 4 10 (.head _) rfl rfl
      exact run_sgn e28 b28 rfl (eval_of rfl) (eval_of (known_op hk 38 14 0 (.tail _ (.head _)) rfl rfl))), ?_⟩
  intro w hw
  rintro _ rfl
  rintro _ rfl
  rintro _ rfl
  rintro _ rfl
  rintro v4 ⟨L4, hv4, hf4, hm4⟩
  rintro _ rfl
  rintro _ rfl
  rintro _ rfl
  rintro _ rfl
  rintro _ rfl
  rintro _ rfl
  rintro _ rfl
  rintro _ rfl
  rintro _ rfl
  rintro _ rfl
  rintro _ ⟨p15, n15, c15, L15, rfl, hv15, hf15, hm15⟩
  change wpList _ _ _ _ _ _
  simp only [List.length_cons, List.length_nil, Nat.reduceAdd, Nat.zero_add, List.drop_succ_cons, List.drop_zero, Act.put, List.setIfInBounds_toArray, List.set_cons_succ, List.set_cons_zero]
  clear hw
  have hw := hm15
  clear hm15
  go_wp2_with (first | (refine ok_store hw rfl 38 _ _ rfl _ rfl _ rfl 2 agg_signed _ (.head _) rfl rfl (by simp [Ones, Value.oneCell']) ?_; clear hw; intro w hw))
  refine ret_c rfl rfl agg_signed (hw.rows _ (.head _)) rfl rfl ⟨p15, n15, c15, L15, rfl, hv15, hf15, hw.sub (List.nil_sublist _) (fun q hq => hq)⟩
set_option maxRecDepth 100000 in
set_option maxHeartbeats 1000000 in
theorem ssub_neg {R : List (Nat × Array Value)} {p q : Option Addr} {i j c d : Nat} {x y : Int} {s t : Bool} (hx : BigV R (.slice p i c) x) (hy : BigV R (.slice q j d) y) (h : y ≤ x) (hs : s = true) (ht : t = true) :
    GivesG 41 #[.agg #[.slice p i c, .bool s], .agg #[.slice q j d, .bool t]] R (x - y) (decide (x ≠ y)) := by
  intro w0 w R' hR hw
  subst hs ht
  have hsub := vsub (hx.mono hR) (hy.mono hR) h
  have hcmp := vcmp (hx.mono hR) (hy.mono hR)
  have hc3 : 0 ≤ cmp3 x y := by unfold cmp3; split <;> (try split) <;> omega
  have hd : (cmp3 x y != 0) = decide (x ≠ y) := by
    unfold cmp3
    by_cases e : x = y
    · subst e; rw [if_neg (by omega), if_neg (by omega)]; simp
    · rw [if_neg (by omega), if_pos (by omega)]; simp [e]
  have Hd := Lib.hid hd
  generalize cmp3 x y = cv at *
  clear hx hy hd
  go_enter Tryd.func41, Tryd.ntmps41
  go_wp2_with (first | (refine ok_box (H := []) hw rfl 38 _ rfl _ rfl ?_; clear hw; intro k1 w hw) | (refine ok_box (H := [_]) hw rfl 38 _ rfl _ rfl ?_; clear hw; intro k2 w hw) | (refine ok_alloc (H := []) hw rfl 38 rfl _ zero_signed ?_; clear hw; intro k1 w hw) | (refine ok_alloc (H := [_]) hw rfl 38 rfl _ zero_signed ?_; clear hw; intro k2 w hw) | (refine ok_alloc (H := [_, _]) hw rfl 38 rfl _ zero_signed ?_; clear hw; intro k3 w hw) | (refine ok_load_cell hw rfl 4 _ rfl _ _ rfl one_bool _ (by first | (apply Has.own; (repeat (first | assumption | exact List.mem_cons_self | apply List.mem_cons_of_mem)); done) | (apply Has.read; (repeat (first | assumption | exact List.mem_cons_self | apply List.mem_cons_of_mem)); done)) _ rfl ?_) | (refine ok_load_cell hw rfl 36 _ rfl _ _ rfl one_big _ (by first | (apply Has.own; (repeat (first | assumption | exact List.mem_cons_self | apply List.mem_cons_of_mem)); done) | (apply Has.read; (repeat (first | assumption | exact List.mem_cons_self | apply List.mem_cons_of_mem)); done)) _ rfl ?_) | (go_at_call 20; refine hcmp.of hw sub_all ?_; clear hw; intro w hw))
  try simp only [Act.put, List.setIfInBounds_toArray, List.set_cons_succ, List.set_cons_zero]
  refine wp_region_draws [⟨[(2, none)], none, false, false⟩, ⟨[(24, some 0)], none, false, false⟩, ⟨[(3, none)], none, false, false⟩, ⟨[(26, some 2)], none, false, false⟩, ⟨[(25, some 1), (27, some 3)], none, false, false⟩, ⟨[(2, none)], none, false, false⟩, ⟨[(29, some 5)], none, false, false⟩, ⟨[(30, some 6)], none, false, false⟩, ⟨[(2, none), (31, some 7)], some (31, true), false, false⟩, ⟨[(32, some 8), (31, some 7)], some (31, true), false, false⟩, ⟨[(3, none), (31, some 7)], some (31, true), false, false⟩, ⟨[(34, some 10), (31, some 7)], some (31, true), false, false⟩, ⟨[(33, some 9), (35, some 11), (31, some 7)], some (31, true), false, false⟩, ⟨[(36, some 12), (31, some 7)], some (31, true), false, false⟩, ⟨[(31, some 7), (37, some 13)], none, false, false⟩, ⟨[(28, some 4), (38, some 14)], none, false, false⟩] 49 (fun w => Ok Non w0 w [(k3, #[.slice none 0 0, .bool false]), (k2, #[.slice q j d, .bool true]), (k1, #[.slice p i c, .bool true])] R') (by kernel_rfl) rfl (by kernel_rfl) (hw.grow (below_drew' _)) (fun _ _ h hb => h.grow hb) (fun _ _ _ _ h => h) ?_
  clear hw
  refine ⟨_, stable_is _, ask_run rfl rfl rfl (fun a w hw hk => by
      have e2 := known_old hk 2 (.head _) (by simp only [List.getElem?_toArray, List.getElem?_cons_zero, List.getElem?_cons_succ, Option.getD_some]; rfl)
      go_simp
      (first | with_reducible rfl | exact ⟨rfl, rfl⟩)), ?_⟩
  refine ⟨_, stable_is _, ask_run rfl rfl rfl (fun a w hw hk => run_load_c rfl (eval_of (known_op hk 24 0 0 (.head _) rfl rfl)) one_big (hw.has (by first | (apply Has.own; (repeat (first | assumption | exact List.mem_cons_self | apply List.mem_cons_of_mem)); done) | (apply Has.read; (repeat (first | assumption | exact List.mem_cons_self | apply List.mem_cons_of_mem)); done))) rfl), ?_⟩
  refine ⟨_, stable_is _, ask_run rfl rfl rfl (fun a w hw hk => by
      have e3 := known_old hk 3 (.head _) (by simp only [List.getElem?_toArray, List.getElem?_cons_zero, List.getElem?_cons_succ, Option.getD_some]; rfl)
      go_simp
      (first | with_reducible rfl | exact ⟨rfl, rfl⟩)), ?_⟩
  refine ⟨_, stable_is _, ask_run rfl rfl rfl (fun a w hw hk => run_load_c rfl (eval_of (known_op hk 26 2 0 (.head _) rfl rfl)) one_big (hw.has (by first | (apply Has.own; (repeat (first | assumption | exact List.mem_cons_self | apply List.mem_cons_of_mem)); done) | (apply Has.read; (repeat (first | assumption | exact List.mem_cons_self | apply List.mem_cons_of_mem)); done))) rfl), ?_⟩
  refine ⟨_, stable_mineb _ _ _ _ _, ask_big rfl rfl rfl (fun a w hw hk => by
      exact ⟨_, _, run_call2 rfl ⟨_, Tryd.func71, by kernel_rfl, by kernel_rfl⟩ (eval_of (known_op hk 25 1 2 (.head _) rfl rfl)) (eval_of (known_op hk 27 3 0 (.tail _ (.head _)) rfl rfl)), hsub, (fun p hp => hw.reads p hp)⟩), ?_⟩
  refine ⟨_, stable_is _, ask_run rfl rfl rfl (fun a w hw hk => by
      have e2 := known_old hk 2 (.head _) (by simp only [List.getElem?_toArray, List.getElem?_cons_zero, List.getElem?_cons_succ, Option.getD_some]; rfl)
      go_simp
      (first | with_reducible rfl | exact ⟨rfl, rfl⟩)), ?_⟩
  refine ⟨_, stable_is _, ask_run rfl rfl rfl (fun a w hw hk => run_load_c rfl (eval_of (known_op hk 29 5 0 (.head _) rfl rfl)) one_bool (hw.has (by first | (apply Has.own; (repeat (first | assumption | exact List.mem_cons_self | apply List.mem_cons_of_mem)); done) | (apply Has.read; (repeat (first | assumption | exact List.mem_cons_self | apply List.mem_cons_of_mem)); done))) rfl), ?_⟩
  refine ⟨_, stable_is _, ask_run rfl rfl rfl (fun a w hw hk => run_move rfl (eval_of (known_op hk 30 6 0 (.head _) rfl rfl))), ?_⟩
  refine ⟨_, stable_is _, ask_run_if rfl rfl rfl (fun a w hw hk => getD_of (known_op hk 31 7 0 (.tail _ (.head _)) rfl rfl)) (fun a w hw hk => by
      have e2 := known_old hk 2 (.head _) (by simp only [List.getElem?_toArray, List.getElem?_cons_zero, List.getElem?_cons_succ, Option.getD_some]; rfl)
      have e31 := known_op hk 31 7 0 (.tail _ (.head _)) rfl rfl
      go_simp
      (first | with_reducible rfl | exact ⟨rfl, rfl⟩)), ?_⟩
  refine ⟨_, stable_is _, ask_run_if rfl rfl rfl (fun a w hw hk => getD_of (known_op hk 31 7 1 (.tail _ (.head _)) rfl rfl)) (fun a w hw hk => run_load_c rfl (eval_of (known_op hk 32 8 0 (.head _) rfl rfl)) one_big (hw.has (by first | (apply Has.own; (repeat (first | assumption | exact List.mem_cons_self | apply List.mem_cons_of_mem)); done) | (apply Has.read; (repeat (first | assumption | exact List.mem_cons_self | apply List.mem_cons_of_mem)); done))) rfl), ?_⟩
  refine ⟨_, stable_is _, ask_run_if rfl rfl rfl (fun a w hw hk => getD_of (known_op hk 31 7 2 (.tail _ (.head _)) rfl rfl)) (fun a w hw hk => by
      have e3 := known_old hk 3 (.head _) (by simp only [List.getElem?_toArray, List.getElem?_cons_zero, List.getElem?_cons_succ, Option.getD_some]; rfl)
      have e31 := known_op hk 31 7 2 (.tail _ (.head _)) rfl rfl
      go_simp
      (first | with_reducible rfl | exact ⟨rfl, rfl⟩)), ?_⟩
  refine ⟨_, stable_is _, ask_run_if rfl rfl rfl (fun a w hw hk => getD_of (known_op hk 31 7 3 (.tail _ (.head _)) rfl rfl)) (fun a w hw hk => run_load_c rfl (eval_of (known_op hk 34 10 0 (.head _) rfl rfl)) one_big (hw.has (by first | (apply Has.own; (repeat (first | assumption | exact List.mem_cons_self | apply List.mem_cons_of_mem)); done) | (apply Has.read; (repeat (first | assumption | exact List.mem_cons_self | apply List.mem_cons_of_mem)); done))) rfl), ?_⟩
  refine ⟨_, stable_is _, ask_gives_if rfl rfl rfl (fun a w hw hk => getD_of (known_op hk 31 7 4 (.tail _ (.tail _ (.head _))) rfl rfl)) (fun a w hw hk => run_call2 rfl ⟨_, Tryd.func20, by kernel_rfl, by kernel_rfl⟩ (eval_of (known_op hk 33 9 2 (.head _) rfl rfl)) (eval_of (known_op hk 35 11 0 (.tail _ (.head _)) rfl rfl)))
    hcmp (fun w hw p hp => hw.reads p hp), ?_⟩
  refine ⟨_, stable_is _, ask_run_if rfl rfl rfl (fun a w hw hk => getD_of (known_op hk 31 7 5 (.tail _ (.head _)) rfl rfl)) (fun a w hw hk => run_neq_i rfl (eval_of (known_op hk 36 12 0 (.head _) rfl rfl)) rfl), ?_⟩
  refine ⟨_, stable_is _, ask_run rfl rfl rfl (fun a w hw hk => by
      have e31 := known_op hk 31 7 6 (.head _) rfl rfl
      have e37 := known_op hk 37 13 0 (.tail _ (.head _)) rfl rfl
      go_simp
      (first | with_reducible rfl | exact ⟨rfl, rfl⟩)), ?_⟩
  refine ⟨_, stable_sgn _ _ _ _ _ _, ask_sgn rfl rfl rfl (fun a w hw hk => by
      obtain ⟨L28, e28, b28⟩ := known_rel hk 28 4 10 (.head _) rfl rfl
      exact run_sgn e28 b28 rfl (eval_of rfl) (eval_of (known_op hk 38 14 0 (.tail _ (.head _)) rfl rfl))), ?_⟩
  intro w hw
  rintro _ rfl
  rintro _ rfl
  rintro _ rfl
  rintro _ rfl
  rintro v4 ⟨L4, hv4, hf4, hm4⟩
  rintro _ rfl
  rintro _ rfl
  rintro _ rfl
  rintro _ rfl
  rintro _ rfl
  rintro _ rfl
  rintro _ rfl
  rintro _ rfl
  rintro _ rfl
  rintro _ rfl
  rintro _ ⟨p15, n15, c15, L15, rfl, hv15, hf15, hm15⟩
  change wpList _ _ _ _ _ _
  simp only [List.length_cons, List.length_nil, Nat.reduceAdd, Nat.zero_add, List.drop_succ_cons, List.drop_zero, Act.put, List.setIfInBounds_toArray, List.set_cons_succ, List.set_cons_zero]
  clear hw
  have hw := hm15
  clear hm15
  go_wp2_with (first | (refine ok_store hw rfl 38 _ _ rfl _ rfl _ rfl 2 agg_signed _ (.head _) rfl rfl (by simp [Ones, Value.oneCell']) ?_; clear hw; intro w hw))
  rw [Hd.out] at hw
  refine ret_c rfl rfl agg_signed (hw.rows _ (.head _)) rfl rfl ⟨p15, n15, c15, L15, rfl, hv15, hf15, hw.sub (List.nil_sublist _) (fun q hq => hq)⟩
set_option maxRecDepth 100000 in
set_option maxHeartbeats 1000000 in
theorem ssub_less {R : List (Nat × Array Value)} {p q : Option Addr} {i j c d : Nat} {x y : Int} {s t : Bool} (hx : BigV R (.slice p i c) x) (hy : BigV R (.slice q j d) y) (h : x < y) (hs : s = t) :
    GivesG 41 #[.agg #[.slice p i c, .bool s], .agg #[.slice q j d, .bool t]] R (y - x) (!s) := by
  intro w0 w R' hR hw
  subst hs
  have hsub := vsub (hy.mono hR) (hx.mono hR) (show x ≤ y by omega)
  have hcmp := vcmp (hx.mono hR) (hy.mono hR)
  have hc3 : cmp3 x y < 0 := by unfold cmp3; rw [if_pos h]; omega
  generalize cmp3 x y = cv at *
  clear hx hy
  go_enter Tryd.func41, Tryd.ntmps41
  go_wp2_with (first | (refine ok_box (H := []) hw rfl 38 _ rfl _ rfl ?_; clear hw; intro k1 w hw) | (refine ok_box (H := [_]) hw rfl 38 _ rfl _ rfl ?_; clear hw; intro k2 w hw) | (refine ok_alloc (H := []) hw rfl 38 rfl _ zero_signed ?_; clear hw; intro k1 w hw) | (refine ok_alloc (H := [_]) hw rfl 38 rfl _ zero_signed ?_; clear hw; intro k2 w hw) | (refine ok_alloc (H := [_, _]) hw rfl 38 rfl _ zero_signed ?_; clear hw; intro k3 w hw) | (refine ok_load_cell hw rfl 4 _ rfl _ _ rfl one_bool _ (by first | (apply Has.own; (repeat (first | assumption | exact List.mem_cons_self | apply List.mem_cons_of_mem)); done) | (apply Has.read; (repeat (first | assumption | exact List.mem_cons_self | apply List.mem_cons_of_mem)); done)) _ rfl ?_) | (refine ok_load_cell hw rfl 36 _ rfl _ _ rfl one_big _ (by first | (apply Has.own; (repeat (first | assumption | exact List.mem_cons_self | apply List.mem_cons_of_mem)); done) | (apply Has.read; (repeat (first | assumption | exact List.mem_cons_self | apply List.mem_cons_of_mem)); done)) _ rfl ?_) | (go_at_call 20; refine hcmp.of hw sub_all ?_; clear hw; intro w hw))
  try simp only [Act.put, List.setIfInBounds_toArray, List.set_cons_succ, List.set_cons_zero]
  refine wp_region_draws [⟨[(3, none)], none, false, false⟩, ⟨[(40, some 0)], none, false, false⟩, ⟨[(2, none)], none, false, false⟩, ⟨[(42, some 2)], none, false, false⟩, ⟨[(41, some 1), (43, some 3)], none, false, false⟩, ⟨[(2, none)], none, false, false⟩, ⟨[(45, some 5)], none, false, false⟩, ⟨[(46, some 6)], none, false, false⟩, ⟨[(44, some 4), (47, some 7)], none, false, false⟩] 49 (fun w => Ok Non w0 w [(k3, #[.slice none 0 0, .bool false]), (k2, #[.slice q j d, .bool s]), (k1, #[.slice p i c, .bool s])] R') (by kernel_rfl) rfl (by kernel_rfl) (hw.grow (below_drew' _)) (fun _ _ h hb => h.grow hb) (fun _ _ _ _ h => h) ?_
  clear hw
  refine ⟨_, stable_is _, ask_run rfl rfl rfl (fun a w hw hk => by
      have e3 := known_old hk 3 (.head _) (by simp only [List.getElem?_toArray, List.getElem?_cons_zero, List.getElem?_cons_succ, Option.getD_some]; rfl)
      go_simp
      (first | with_reducible rfl | exact ⟨rfl, rfl⟩)), ?_⟩
  refine ⟨_, stable_is _, ask_run rfl rfl rfl (fun a w hw hk => run_load_c rfl (eval_of (known_op hk 40 0 0 (.head _) rfl rfl)) one_big (hw.has (by first | (apply Has.own; (repeat (first | assumption | exact List.mem_cons_self | apply List.mem_cons_of_mem)); done) | (apply Has.read; (repeat (first | assumption | exact List.mem_cons_self | apply List.mem_cons_of_mem)); done))) rfl), ?_⟩
  refine ⟨_, stable_is _, ask_run rfl rfl rfl (fun a w hw hk => by
      have e2 := known_old hk 2 (.head _) (by simp only [List.getElem?_toArray, List.getElem?_cons_zero, List.getElem?_cons_succ, Option.getD_some]; rfl)
      go_simp
      (first | with_reducible rfl | exact ⟨rfl, rfl⟩)), ?_⟩
  refine ⟨_, stable_is _, ask_run rfl rfl rfl (fun a w hw hk => run_load_c rfl (eval_of (known_op hk 42 2 0 (.head _) rfl rfl)) one_big (hw.has (by first | (apply Has.own; (repeat (first | assumption | exact List.mem_cons_self | apply List.mem_cons_of_mem)); done) | (apply Has.read; (repeat (first | assumption | exact List.mem_cons_self | apply List.mem_cons_of_mem)); done))) rfl), ?_⟩
  refine ⟨_, stable_mineb _ _ _ _ _, ask_big rfl rfl rfl (fun a w hw hk => by
      exact ⟨_, _, run_call2 rfl ⟨_, Tryd.func71, by kernel_rfl, by kernel_rfl⟩ (eval_of (known_op hk 41 1 2 (.head _) rfl rfl)) (eval_of (known_op hk 43 3 0 (.tail _ (.head _)) rfl rfl)), hsub, (fun p hp => hw.reads p hp)⟩), ?_⟩
  refine ⟨_, stable_is _, ask_run rfl rfl rfl (fun a w hw hk => by
      have e2 := known_old hk 2 (.head _) (by simp only [List.getElem?_toArray, List.getElem?_cons_zero, List.getElem?_cons_succ, Option.getD_some]; rfl)
      go_simp
      (first | with_reducible rfl | exact ⟨rfl, rfl⟩)), ?_⟩
  refine ⟨_, stable_is _, ask_run rfl rfl rfl (fun a w hw hk => run_load_c rfl (eval_of (known_op hk 45 5 0 (.head _) rfl rfl)) one_bool (hw.has (by first | (apply Has.own; (repeat (first | assumption | exact List.mem_cons_self | apply List.mem_cons_of_mem)); done) | (apply Has.read; (repeat (first | assumption | exact List.mem_cons_self | apply List.mem_cons_of_mem)); done))) rfl), ?_⟩
  refine ⟨_, stable_is _, ask_run rfl rfl rfl (fun a w hw hk => by
      have e46 := known_op hk 46 6 0 (.head _) rfl rfl
      go_simp
      (first | with_reducible rfl | exact ⟨rfl, rfl⟩)), ?_⟩
  refine ⟨_, stable_sgn _ _ _ _ _ _, ask_sgn rfl rfl rfl (fun a w hw hk => by
      obtain ⟨L44, e44, b44⟩ := known_rel hk 44 4 3 (.head _) rfl rfl
      exact run_sgn e44 b44 rfl (eval_of rfl) (eval_of (known_op hk 47 7 0 (.tail _ (.head _)) rfl rfl))), ?_⟩
  intro w hw
  rintro _ rfl
  rintro _ rfl
  rintro _ rfl
  rintro _ rfl
  rintro v4 ⟨L4, hv4, hf4, hm4⟩
  rintro _ rfl
  rintro _ rfl
  rintro _ rfl
  rintro _ ⟨p8, n8, c8, L8, rfl, hv8, hf8, hm8⟩
  change wpList _ _ _ _ _ _
  simp only [List.length_cons, List.length_nil, Nat.reduceAdd, Nat.zero_add, List.drop_succ_cons, List.drop_zero, Act.put, List.setIfInBounds_toArray, List.set_cons_succ, List.set_cons_zero]
  clear hw
  have hw := hm8
  clear hm8
  go_wp2_with (first | (refine ok_store hw rfl 38 _ _ rfl _ rfl _ rfl 2 agg_signed _ (.head _) rfl rfl (by simp [Ones, Value.oneCell']) ?_; clear hw; intro w hw))
  refine ret_c rfl rfl agg_signed (hw.rows _ (.head _)) rfl rfl ⟨p8, n8, c8, L8, rfl, hv8, hf8, hw.sub (List.nil_sublist _) (fun q hq => hq)⟩

/-- A value that shows a number of either sign. -/
def SgnV (R : List (Nat × Array Value)) (v : Value) (z : Int) : Prop := ∃ p n c, v = .agg #[.slice p n c, .bool (decide (z < 0))] ∧ BigV R (.slice p n c) (if z < 0 then -z else z)
theorem SgnV.mono {R R' : List (Nat × Array Value)} {v : Value} {z : Int} (h : SgnV R v z) (hs : ∀ p ∈ R, p ∈ R') : SgnV R' v z := by
  obtain ⟨p, n, c, e, hb⟩ := h
  exact ⟨p, n, c, e, hb.mono hs⟩
theorem sgnv_of {R : List (Nat × Array Value)} {p : Option Addr} {n c : Nat} {b : Int} (h : BigV R (.slice p n c) b) : SgnV R (.agg #[.slice p n c, .bool false]) b := by
  have h0 := h.pos
  refine ⟨p, n, c, ?_, ?_⟩
  · rw [decide_eq_false (by omega)]
  · rw [if_neg (by omega)]; exact h
/-- A call that returns a number of either sign. -/
def GivesS (f : FuncId) (args : Array Value) (R : List (Nat × Array Value)) (z : Int) : Prop :=
  ∀ (S : Nat → Prop) (w0 w : World) (H R' : List (Nat × Array Value)), Ok S w0 w H R' → (∀ p ∈ R, p ∈ R') → ∀ (K : Ending → World → Prop),
    (∀ w' v L, SgnV L v z → Fresh w0 L → Ok S w0 w' H (L ++ R') → K (.returned v) w') → Calls Tryd.prog f args w K
theorem GivesS.use {f : FuncId} {args : Array Value} {R : List (Nat × Array Value)} {z : Int} (g : GivesS f args R z) {S : Nat → Prop} {w0 w : World} {H R' : List (Nat × Array Value)} (hw : Ok S w0 w H R') (hR : ∀ p ∈ R, p ∈ R') {K : Ending → World → Prop}
    (h : ∀ w' v L, SgnV L v z → Fresh w0 L → Ok S w0 w' H (L ++ R') → K (.returned v) w') : Calls Tryd.prog f args w K := g _ _ _ _ _ hw hR _ h
theorem GivesG.sgn {f : FuncId} {args : Array Value} {R : List (Nat × Array Value)} {b z : Int} {s : Bool} (g : GivesG f args R b s) (hs : s = decide (z < 0)) (hb : b = if z < 0 then -z else z) : GivesS f args R z := by
  intro S w0 w H R' hw hR K h
  refine (g w w R sub_all (Ok.read fun p hp => hw.reads p (hR p hp))).mono ?_
  rintro e w' ⟨p, n, c, L, rfl, hz, hf, hw'⟩
  subst hs hb
  exact h w' _ L ⟨p, n, c, rfl, hz⟩ (fun q hq => Nat.le_trans hw.size (hf q hq)) (hw.reads_new hw'.below fun q hq => ⟨hw'.reads q (List.mem_append_left _ hq), hf q hq⟩)
theorem ssub_calls {R : List (Nat × Array Value)} {u v : Value} {x y : Int} (hx : SgnV R u x) (hy : SgnV R v y) (hx1 : -Cap < x) (hx2 : x < Cap) (hy1 : -Cap < y) (hy2 : y < Cap) :
    GivesS 41 #[u, v] R (x - y) := by
  obtain ⟨p, i, c, rfl, hx⟩ := hx
  obtain ⟨q, j, d, rfl, hy⟩ := hy
  by_cases sx : x < 0 <;> by_cases sy : y < 0
  · rw [if_pos sx] at hx
    rw [if_pos sy] at hy
    rw [decide_eq_true sx, decide_eq_true sy]
    by_cases h : -y ≤ -x
    · refine (ssub_neg hx hy h rfl rfl).sgn ?_ ?_
      · rw [decide_eq_decide]; omega
      · split <;> omega
    · refine (ssub_less hx hy (by omega) rfl).sgn ?_ ?_
      · rw [decide_eq_false (by omega)]; rfl
      · split <;> omega
  · rw [if_pos sx] at hx
    rw [if_neg sy] at hy
    rw [decide_eq_true sx, decide_eq_false sy]
    refine (ssub_other hx hy (by omega) hy2 (by rfl)).sgn ?_ ?_
    · rw [decide_eq_true (by omega)]
    · split <;> omega
  · rw [if_neg sx] at hx
    rw [if_pos sy] at hy
    rw [decide_eq_false sx, decide_eq_true sy]
    refine (ssub_other hx hy hx2 (by omega) (by rfl)).sgn ?_ ?_
    · rw [decide_eq_false (by omega)]
    · split <;> omega
  · rw [if_neg sx] at hx
    rw [if_neg sy] at hy
    rw [decide_eq_false sx, decide_eq_false sy]
    by_cases h : y ≤ x
    · refine (ssub_pos hx hy h rfl rfl).sgn ?_ ?_
      · rw [decide_eq_false (by omega)]
      · split <;> omega
    · refine (ssub_less hx hy (by omega) rfl).sgn ?_ ?_
      · rw [decide_eq_true (by omega)]; rfl
      · split <;> omega
end Go.Proofs.YtcodmeljjphoeaaDoor
