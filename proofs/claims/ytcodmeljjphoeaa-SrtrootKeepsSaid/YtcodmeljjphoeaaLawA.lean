/-
  Layer 16: the document's example.
-/
import Derived.Test.YtcodmeljjphoeaaMay12
import Derived.Test.YtcodmeljjphoeaaBigR
import Derived.Test.YtcodmeljjphoeaaRootE
import Derived.Test.YtcodmeljjphoeaaLawKit
namespace Go.Proofs.Ytcodmeljjphoeaa
open Go.RowKit
set_option exponentiation.threshold 600
set_option linter.unusedVariables false
set_option linter.unusedSimpArgs false

theorem unguard {P : Program} {ops : Array Oper} {Q : Exit → Act → World → Prop} {rest : List Oper} {o : Oper} {a : Act} {w : World} (hwt : Region.wanted o (yielded ops a.tmps) = true) (h : wpList P ops Q ({ o with guard := none } :: rest) a w) : wpList P ops Q (o :: rest) a w := by
  unfold wpList at h ⊢
  rw [if_pos hwt]
  rw [if_pos (by rfl)] at h
  exact h

theorem built_one (n : Int) : Try.prog.built 24 [(0, .int .u64 n)] = some #[.int .u64 n, .int .u64 0, .int .u64 0, .int .u64 0, .int .u64 0, .int .u64 0, .int .u64 0, .int .u64 0] := by kernel_rfl
theorem w_small {n : Int} (h0 : 0 ≤ n) (h1 : n < 18446744073709551616) : Value.agg #[.int .u64 n, .int .u64 0, .int .u64 0, .int .u64 0, .int .u64 0, .int .u64 0, .int .u64 0, .int .u64 0] = W n := by
  have e0 := lim_self h0 h1
  have : ∀ i, 0 < i → lim n i = 0 := fun i hi => by
    unfold lim
    rw [Int.ediv_eq_zero_of_lt h0 (Int.lt_of_lt_of_le (show n < 2 ^ 64 from h1) (pow_mono2 (by omega)))]
    rfl
  simp [W, limbs, show List.range 8 = [0, 1, 2, 3, 4, 5, 6, 7] from rfl, e0, this 1, this 2, this 3, this 4, this 5, this 6, this 7]
theorem ok_buildw {ops : Array Oper} {Q : Exit → Act → World → Prop} {rest : List Oper} {o : Oper} {a : Act} {w : World} (hgd : o.guard = none) (x : Operand) (ho : o.op = .build 24 #[(0, x)]) (n : Int) (hx : a.eval x = .int .u64 n) (h0 : 0 ≤ n) (h1 : n < 18446744073709551616)
    (hk : wpList Try.prog ops Q rest (a.put o.dst (W n)) w) : wpList Try.prog ops Q (o :: rest) a w := by
  have := run_build (P := Try.prog) w 24 #[(0, .int .u64 n)] _ (built_one n)
  rw [← w_small h0 h1] at hk
  exact wpL_value hgd (by simp only [execOp, ho, List.map_toArray, List.map_cons, List.map_nil, hx, Sem.run_bind, this, Result.andThen_ok, Sem.run_pure]) hk

theorem Lst.slice {T : List (Nat × Array Value)} {v : Value} {xs : List Value} (h : Lst T v xs) : ∃ p c, v = .slice p xs.length c := by
  cases h with
  | nil => exact ⟨none, 0, rfl⟩
  | row g cap cs xs hc hm hs hx => exact ⟨_, cap, rfl⟩
theorem length_dcells (N : Int) (j : Nat) : (dcells N j).length = j := by simp [dcells]

set_option maxRecDepth 100000 in
set_option maxHeartbeats 1000000 in
theorem awake16_gives : Gives Try.prog 12 #[] [] (.bool true) := by
  refine .mk fun w0 w hw => ?_
  have h256 : (99 : Int) < 2 ^ 256 := by have := pow_mono2 (show 8 ≤ 256 by omega); omega
  obtain ⟨s, hs, hroot⟩ := root_some 99 (by omega) h256
  have hs9 : s = 9 := isRoot_unique hs ⟨by omega, by omega, by omega⟩
  subst hs9
  have h99M : (99 : Int) < M := Int.lt_trans h256 (pow_in (by omega))
  have hd := fun H w hw => digits_calls 99 (by omega) h99M Non w0 w H [] hw
  have e1 : rdigits 99 = dcells (nup 99) 64 := by unfold rdigits; rw [if_neg (by omega)]
  have e2 : rerr 99 = 0 := by unfold rerr; rw [if_neg (by omega)]
  rw [e1, e2] at hd
  have e3 := Lib.hid (length_dcells (nup 99) 64)
  clear e1 e2 h99M h256 hs
  generalize dcells (nup 99) 64 = ds at *
  go_enter Try.func12, Try.ntmps12
  go_wp2_with (first | (refine ok_alloc (H := []) hw rfl 24 rfl _ zero_wide ?_; clear hw; intro k1 w hw) | (refine ok_alloc (H := [_]) hw rfl 24 rfl _ zero_wide ?_; clear hw; intro k2 w hw) | (refine w_load hw rfl 24 _ rfl _ rfl agg_wide _ (by first | (apply Has.own; (repeat (first | assumption | exact List.mem_cons_self | apply List.mem_cons_of_mem)); done) | (apply Has.read; (repeat (first | assumption | exact List.mem_cons_self | apply List.mem_cons_of_mem)); done)) ?_) | (refine w_store hw rfl 24 _ _ rfl _ rfl _ rfl agg_wide _ (by repeat (first | exact At.head _ | apply At.tail)) ?_; clear hw; intro w hw) | (refine w_eql rfl _ _ _ rfl _ _ rfl rfl ?_) | (refine ok_buildw rfl _ rfl _ rfl (by omega) (by omega) ?_) | (refine unguard rfl ?_; first | (refine w_load hw rfl 24 _ rfl _ rfl agg_wide _ (by first | (apply Has.own; (repeat (first | assumption | exact List.mem_cons_self | apply List.mem_cons_of_mem)); done) | (apply Has.read; (repeat (first | assumption | exact List.mem_cons_self | apply List.mem_cons_of_mem)); done)) ?_) | (refine ok_buildw rfl _ rfl _ rfl (by omega) (by omega) ?_) | (refine w_eql rfl _ _ _ rfl _ _ rfl rfl ?_)) | (go_at_call 43; refine hroot.call0 hw ?_; clear hw; intro w hw) | (go_at_call 10; refine (hd _ _ hw).mono ?_; rintro e w ⟨v, T, hl, rfl, hw'⟩; clear hw; have hw := Ok.freeze (T := T) hw'; clear hw'; obtain ⟨p, c, rfl⟩ := hl.slice; rw [e3.out]))
  go_ret
  exact ⟨rfl, hw.below⟩

theorem Lst.nil_val {T : List (Nat × Array Value)} {v : Value} (h : Lst T v []) : T = [] ∧ v = .slice none 0 0 ∨ ∃ g c cs, T = [(g, cs)] ∧ v = .slice (some ⟨g, 0, none⟩) 0 c := by
  generalize hx : ([] : List Value) = xs at h
  cases h with
  | nil => exact .inl ⟨rfl, rfl⟩
  | row g cap cs xs hc hm hs hx' => subst hx; exact .inr ⟨g, cap, cs, rfl, rfl⟩
theorem Lst.rows {T : List (Nat × Array Value)} {v : Value} {xs : List Value} (h : Lst T v xs) (hn : xs ≠ []) : ∃ g c cs, T = [(g, cs)] ∧ v = .slice (some ⟨g, 0, none⟩) xs.length c ∧ ∀ i, i < xs.length → cs[i]? = xs[i]? := by
  cases h with
  | nil => exact absurd rfl hn
  | row g cap cs xs hc hm hs hx => exact ⟨g, cap, cs, rfl, rfl, hx⟩

set_option maxRecDepth 100000 in
set_option maxHeartbeats 1000000 in
theorem law_digits (n : Int) (h0 : 0 ≤ n) (h1 : n < M) : Gives Try.prog 3 #[W n] [] (.bool true) := by
  refine .mk fun w0 w hw => ?_
  have haw := awake16_gives
  have hd := fun H w hw => digits_calls n h0 h1 Non w0 w H [] hw
  have hmay := may12_gives n h0 h1
  by_cases hbig : 2 ^ 256 ≤ n
  · have e1 : rdigits n = [] := by unfold rdigits; rw [if_pos (.inr hbig)]
    have e2 : rerr n = 4 := by unfold rerr; rw [if_pos hbig]
    rw [e1, e2] at hd
    rw [decide_eq_false (by omega)] at hmay
    clear e1 e2 hbig h0 h1
    go_enter Try.func3, Try.ntmps3
    go_wp2_with (first | (refine w_box (H := []) hw rfl 24 _ rfl _ rfl ?_; clear hw; intro k1 w hw) | (refine w_load hw rfl 24 _ rfl _ rfl agg_wide _ (by first | (apply Has.own; (repeat (first | assumption | exact List.mem_cons_self | apply List.mem_cons_of_mem)); done) | (apply Has.read; (repeat (first | assumption | exact List.mem_cons_self | apply List.mem_cons_of_mem)); done)) ?_) | (go_at_call 10; refine (hd _ _ hw).mono ?_; rintro e w ⟨v, T, hl, rfl, hw'⟩; clear hw; have hw := Ok.freeze (T := T) hw'; clear hw'; obtain ⟨p, c, rfl⟩ := hl.slice) | (go_at_call 11; refine hmay.call0 hw ?_; clear hw; intro w hw) | (go_at_call 12; refine haw.call0 hw ?_; clear hw; intro w hw))
    go_ret
    exact ⟨rfl, hw.below⟩
  · rw [decide_eq_true (by omega)] at hmay
    have e2 : rerr n = 0 := by unfold rerr; rw [if_neg hbig]
    by_cases hz : n = 0
    · have e1 : rdigits n = [] := by unfold rdigits; rw [if_pos (.inl hz)]
      rw [e1, e2] at hd
      subst hz
      clear e1 e2 hbig h0 h1
      go_enter Try.func3, Try.ntmps3
      go_wp2_with (first | (refine w_box (H := []) hw rfl 24 _ rfl _ rfl ?_; clear hw; intro k1 w hw) | (refine w_load hw rfl 24 _ rfl _ rfl agg_wide _ (by first | (apply Has.own; (repeat (first | assumption | exact List.mem_cons_self | apply List.mem_cons_of_mem)); done) | (apply Has.read; (repeat (first | assumption | exact List.mem_cons_self | apply List.mem_cons_of_mem)); done)) ?_) | (refine ok_buildz rfl rfl ?_) | (refine w_eql rfl _ _ _ rfl _ _ rfl rfl ?_) | (go_at_call 10; refine (hd _ _ hw).mono ?_; rintro e w ⟨v, T, hl, rfl, hw'⟩; clear hw; have hw := Ok.freeze (T := T) hw'; clear hw'; obtain ⟨p, c, rfl⟩ := hl.slice) | (go_at_call 11; refine hmay.call0 hw ?_; clear hw; intro w hw) | (go_at_call 12; refine haw.call0 hw ?_; clear hw; intro w hw))
      go_ret
      exact ⟨rfl, hw.below⟩
    · have e1 : rdigits n = dcells (nup n) 64 := by unfold rdigits; rw [if_neg (by omega)]
      rw [e1, e2] at hd
      have hrun := fun w H R hw K h => run16_use n (by omega) (by omega) 64 (by omega) (S := Non) (w0 := w0) (w := w) (H := H) (R' := R) hw (k := 64) rfl (K := K) h
      have hne : ¬ n % M = 0 := by rw [Int.emod_eq_of_lt h0 h1]; exact hz
      have hlen := Lib.hid (length_dcells (nup n) 64)
      have hget : ∀ i, i < 64 → (dcells (nup n) 64)[i]? = some (.int .i64 (rd (nup n) i)) := fun i hi => by simp [dcells, hi]
      have hnil : dcells (nup n) 64 ≠ [] := fun h => by have := hlen.out; rw [h] at this; cases this
      clear e1 e2 hbig h0 h1 hz
      generalize rp (nup n) 64 = rpn at *
      generalize hds : dcells (nup n) 64 = ds at *
      clear hds
      generalize rd (nup n) = rdn at *
      go_enter Try.func3, Try.ntmps3
      go_wp2_with (first | (refine w_box (H := []) hw rfl 24 _ rfl _ rfl ?_; clear hw; intro k1 w hw) | (refine w_load hw rfl 24 _ rfl _ rfl agg_wide _ (by first | (apply Has.own; (repeat (first | assumption | exact List.mem_cons_self | apply List.mem_cons_of_mem)); done) | (apply Has.read; (repeat (first | assumption | exact List.mem_cons_self | apply List.mem_cons_of_mem)); done)) ?_) | (refine ok_buildz rfl rfl ?_) | (refine w_eql rfl _ _ _ rfl _ _ rfl rfl ?_) | (go_at_call 10; refine (hd _ _ hw).mono ?_; rintro e w ⟨v, T, hl, rfl, hw'⟩; clear hw; have hw := Ok.freeze (T := T) hw'; clear hw'; obtain ⟨g, c, cs, rfl, rfl, hcs⟩ := hl.rows hnil; rw [hlen.out]) | (go_at_call 13; refine hrun _ _ _ hw _ ?_; clear hw; intro w v2 z2 T2 L2 hl2 hz2 hf2 hf3 hw; obtain ⟨g2, c2, cs2, rfl, rfl, hcs2⟩ := hl2.rows hnil; rw [hlen.out]) | (go_at_call 14; refine (same_gives rdn (n := 64) (by omega) (fun i hi => (hcs i (by rw [hlen.out]; exact hi)).trans (hget i hi)) (fun i hi => (hcs2 i (by rw [hlen.out]; exact hi)).trans (hget i hi))).of hw (by grind) ?_; clear hw; intro w hw) | (go_at_call 11; refine hmay.call0 hw ?_; clear hw; intro w hw) | (go_at_call 12; refine haw.call0 hw ?_; clear hw; intro w hw))
      go_ret
      exact ⟨rfl, hw.below⟩
end Go.Proofs.Ytcodmeljjphoeaa
