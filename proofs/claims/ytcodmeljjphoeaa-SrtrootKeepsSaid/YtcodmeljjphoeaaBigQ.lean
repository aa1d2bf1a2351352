/-
  The references' root by digits: a number, shifted up.
-/
import Derived.Test.YtcodmeljjphoeaaBigL
import Derived.Test.YtcodmeljjphoeaaNorm
namespace Go.Proofs.Ytcodmeljjphoeaa
open Go.RowKit
set_option linter.unusedVariables false
set_option linter.unusedSimpArgs false

theorem blen_mul_pow {n : Int} (h : 0 < n) (k : Nat) : blen (n * 2 ^ k) = blen n + k := by
  obtain ⟨s1, s2, s3⟩ := blen_spec h
  obtain ⟨m, hm⟩ : ∃ m, blen n = m + 1 := ⟨blen n - 1, by omega⟩
  rw [hm] at s2 s3 ⊢
  rw [show m + 1 - 1 = m by omega] at s2
  have hp := pow_pos2 k
  have h1 := Int.mul_le_mul_of_nonneg_right s2 (show 0 ≤ (2 : Int) ^ k by omega)
  have h2 := Int.mul_lt_mul_of_pos_right s3 hp
  rw [← Int.pow_add] at h1 h2
  rw [show m + 1 + k = (m + k) + 1 by omega] at h2 ⊢
  exact blen_eq h1 h2

/-- A call that returns a number and something plain. -/
def GivesBV (f : FuncId) (args : Array Value) (R : List (Nat × Array Value)) (b : Int) (g : Value → Value) : Prop :=
  ∀ (w0 w : World) (R' : List (Nat × Array Value)), (∀ p ∈ R, p ∈ R') → Ok Non w0 w [] R' →
    Calls Try.prog f args w fun e w' => ∃ z L, e = .returned (g z) ∧ BigV L z b ∧ Fresh w0 L ∧ Ok Non w0 w' [] (L ++ R')
theorem GivesBV.use {f : FuncId} {args : Array Value} {R R' : List (Nat × Array Value)} {b : Int} {v : Value → Value} (g : GivesBV f args R b v)
    {S : Nat → Prop} {w0 w : World} {H : List (Nat × Array Value)} (hw : Ok S w0 w H R') (hR : ∀ p ∈ R, p ∈ R') {K : Ending → World → Prop}
    (h : ∀ w' z L, BigV L z b → Fresh w0 L → Ok S w0 w' H (L ++ R') → K (.returned (v z)) w') : Calls Try.prog f args w K := by
  refine (g w w R sub_all (Ok.read fun p hp => hw.reads p (hR p hp))).mono ?_
  rintro e w' ⟨z, L, rfl, hz, hf, hw'⟩
  exact h w' z L hz (fun q hq => Nat.le_trans hw.size (hf q hq)) (hw.reads_new hw'.below fun q hq => ⟨hw'.reads q (List.mem_append_left _ hq), hf q hq⟩)

set_option maxRecDepth 100000 in
theorem norm16_calls (n : Int) (h0 : 0 < n) (h1 : n < 2 ^ 256) : GivesBV 17 #[W n] [] (nup n) (fun z => .tuple #[z, .int .i64 (nby n)]) := by
  intro w0 w R' hR hw
  clear hR
  have hM : n < M := Int.lt_trans h1 (pow_in (by omega))
  have hb := big_calls n (by omega) hM
  have hl := (blen_le_iff h0 256).2 h1
  obtain ⟨l1, _, _⟩ := blen_spec h0
  obtain ⟨N, hN⟩ : ∃ N, N = nup n := ⟨_, rfl⟩
  obtain ⟨Y, hY⟩ : ∃ Y, Y = nby n := ⟨_, rfl⟩
  rw [← hN, ← hY]
  have HN := Lib.hid hN
  have HY := Lib.hid hY
  clear hN hY
  go_enter Try.func17, Try.ntmps17
  go_wp2_with (first | (refine w_box (H := []) hw rfl 24 _ rfl _ rfl ?_; clear hw; intro k1 w hw) | (refine w_load hw rfl 24 _ rfl _ rfl agg_wide _ (by first | (apply Has.own; (repeat (first | assumption | exact List.mem_cons_self | apply List.mem_cons_of_mem)); done) | (apply Has.read; (repeat (first | assumption | exact List.mem_cons_self | apply List.mem_cons_of_mem)); done)) ?_) | (go_at_call 21; refine hb.use hw (by simp) ?_; clear hw; intro w z L hz hf hw))
  go_loopw [5, 4] (fun a b wr => ∃ (t : Nat) (L : List (Nat × Array Value)), 2 * t ≤ nby n ∧ a = .int .i64 (2 * (t : Int)) ∧ BigV L b (n * 2 ^ (2 * t)) ∧ Fresh w0 L ∧ Ok Non w0 wr [(k1, limbs 8 n)] (L ++ R')) (fun a _ _ => 300 - (intOf a).toNat)
  case atStart => exact ⟨0, L, by omega, rfl, by simpa using hz, hf, hw⟩
  case round =>
    clear hw hz hf
    obtain ⟨t, L, ht, rfl, hz, hf, hw⟩ := hrel
    have hbl := blen_mul_pow h0 (2 * t)
    have hlen := blen_gives hz
    have hlt : n * 2 ^ (2 * t) < Cap := by
      have := Int.mul_lt_mul_of_pos_right h1 (pow_pos2 (2 * t))
      rw [← Int.pow_add] at this
      exact cap_of this (by unfold nby at ht; omega)
    have hshl := vshl hz hlt (k := 2) 2 rfl (by omega)
    have hnb : nby n ≤ 256 - blen n ∧ 255 - blen n ≤ nby n ∧ nby n % 2 = 0 := by unfold nby; omega
    rw [hbl] at hlen
    have e1 := Lib.hid (show n * 2 ^ (2 * t) * 2 ^ 2 = n * 2 ^ (2 * (t + 1)) by rw [Int.mul_assoc, ← Int.pow_add]; rfl)
    rw [show ((blen n + 2 * t : Nat) : Int) = (blen n : Int) + 2 * t by omega] at hlen
    by_cases hc : blen n + 2 * t < 255
    · have ht2 : 2 * (t + 1) ≤ nby n := by omega
      have ht3 : 2 * t < 256 := by omega
      clear hbl hnb ht
      generalize blen n = l at *
      go_wp2_with (first | (go_at_call 42; refine hlen.of hw (fun p hp => List.mem_append_left _ hp) ?_; clear hw; intro w hw) | (go_at_call 53; refine hshl.use hw (fun p hp => List.mem_append_left _ hp) ?_; clear hw; intro w z2 L2 hz2 hf2 hw))
      rw [e1.out] at hz2
      exact ⟨⟨t + 1, L2, ht2, by go_num, hz2, hf2, hw.sub (List.Sublist.refl _) (by grind)⟩, by simp [intOf]; omega⟩
    · have hY : nby n = 2 * t := by omega
      have hYY := Lib.hid (show (2 : Int) * t = (Y : Int) by rw [HY.out, hY]; omega)
      have hNN := Lib.hid (show n * 2 ^ (2 * t) = N by rw [HN.out]; unfold nup; rw [hY])
      clear hbl hnb ht hY
      generalize blen n = l at *
      go_wp2_with (first | (go_at_call 42; refine hlen.of hw (fun p hp => List.mem_append_left _ hp) ?_; clear hw; intro w hw))
      go_ret2
      rw [hNN.out] at hz
      rw [hYY.out]
      exact ⟨_, L, rfl, hz, hf, hw.sub (List.nil_sublist _) (fun q hq => hq)⟩
end Go.Proofs.Ytcodmeljjphoeaa
