/-
  The references' numbers: contracts in words of numbers alone; powers; a wide's number.
-/
import Derived.Test.YtcodmeljjphoeaaDoorBigK
namespace Go.Proofs.YtcodmeljjphoeaaDoor
open Go.RowKit
set_option linter.unusedVariables false
set_option linter.unusedSimpArgs false

/-- As great as numbers may be here. -/
def Cap : Int := 2 ^ (32 * 10000)
theorem cap_of {b : Int} {k : Nat} (h : b < 2 ^ k) (hk : k ≤ 320000) : b < Cap := Int.lt_of_lt_of_le h (pow_mono2 (by omega))
theorem cap_le {a b : Int} (h : a ≤ b) (hb : b < Cap) : a < Cap := Int.lt_of_le_of_lt h hb

section
variable {R : List (Nat × Array Value)} {u v : Value} {x y : Int}
theorem vcmp (hx : BigV R u x) (hy : BigV R v y) : Gives Tryd.prog 20 #[u, v] R (.int .i64 (cmp3 x y)) := by
  obtain ⟨n, hx, _⟩ := hx
  obtain ⟨m, hy, _⟩ := hy
  exact bcmp_gives hx hy
theorem vadd (hx : BigV R u x) (hy : BigV R v y) (h1 : x < Cap) (h2 : y < Cap) : GivesB 46 #[u, v] R (x + y) := by
  obtain ⟨n, hn, hx⟩ := hx.sized h1
  obtain ⟨m, hm, hy⟩ := hy.sized h2
  exact badd_calls hx hy (by omega)
theorem vsub (hx : BigV R u x) (hy : BigV R v y) (h : y ≤ x) : GivesB 71 #[u, v] R (x - y) := by
  obtain ⟨n, hx, _⟩ := hx
  obtain ⟨m, hy, _⟩ := hy
  exact bsub_calls hx hy h
theorem vmul (hx : BigV R u x) (hy : BigV R v y) (h1 : x < Cap) (h2 : y < Cap) : GivesB 22 #[u, v] R (x * y) := by
  obtain ⟨n, hn, hx⟩ := hx.sized h1
  obtain ⟨m, hm, hy⟩ := hy.sized h2
  exact bmul_calls hx hy (by omega)
theorem vshl (hx : BigV R u x) (h1 : x < Cap) {k : Int} (s : Nat) (hk : k = (s : Int)) (hs : s < 640000) : GivesB 19 #[u, .int .i64 k] R (x * 2 ^ s) := by
  obtain ⟨n, hn, hx⟩ := hx.sized h1
  exact bshl_calls s hk hx (by omega) hs
theorem vshr (hx : BigV R u x) (h1 : x < Cap) {k : Int} (s : Nat) (hk : k = (s : Int)) (hs : s < 640000) : GivesB 37 #[u, .int .i64 k] R (x / 2 ^ s) := by
  obtain ⟨n, hn, hx⟩ := hx.sized h1
  exact bshr_calls s hk hx (by omega) hs
end

set_option maxRecDepth 10000 in
theorem bpower_calls {k : Int} (s : Nat) (hk : k = (s : Int)) (hs : s < 640000) : GivesB 87 #[.int .i64 k] [] (2 ^ s) := by
  intro w0 w R' hR hw
  have Hs := Lib.hid hk
  clear hk
  have h1 := bsmall_calls (n := 1) (by omega) (by omega)
  go_enter Tryd.func87, Tryd.ntmps87
  go_wp2_with (first | (go_at_call 23; refine h1.use hw (by simp) ?_; clear hw; intro w z L hz hf hw) | (go_at_call 19; refine (vshl hz (cap_of (k := 1) (by decide) (by omega)) s Hs.out hs).use hw (fun p hp => List.mem_append_left _ hp) ?_; clear hw; intro w z2 L2 hz2 hf2 hw))
  go_ret
  rw [Int.one_mul] at hz2
  exact ⟨_, L2, rfl, hz2, hf2, hw.sub (List.Sublist.refl _) (by grind)⟩

theorem run_build0 {P : Program} {o : Oper} {ρ : Operand → Value} {w : World} {t e : TypeId} (ho : o.op = .buildSlice t 0 #[]) (hu : P.underlying t = some (.slice e)) (he : One P e) :
    ∃ cs, (execOp ρ o).run P w = .ok (.value (.slice (some ⟨w.heap.size, 0, none⟩) 0 0)) (w.alloc (.cells cs e)) := by
  obtain ⟨_, h3⟩ := he
  cases hq : P.info? e with
  | none => simp [hq] at h3
  | some ie =>
    have : ∃ cs, (Instr.buildSlice t 0 #[]).run P w = .ok (.slice (some ⟨w.heap.size, 0, none⟩) 0 0) (w.alloc (.cells cs e)) := by
      simp [Instr.buildSlice, run_underlying hu, sizeOf, typeInfo, zeroValue, hq, newRow, Instr.fill]
      exact ⟨_, rfl⟩
    obtain ⟨cs, this⟩ := this
    refine ⟨cs, ?_⟩
    simp only [execOp, ho, List.map_toArray, List.map_nil, Sem.run_bind, this, Result.andThen_ok, Sem.run_pure]
theorem ok_build0 {P : Program} {ops : Array Oper} {Q : Exit → Act → World → Prop} {rest : List Oper} {o : Oper} {a : Act} {S : Nat → Prop} {w0 w : World} {H R : List (Nat × Array Value)}
    (h : Ok S w0 w H R) (hgd : o.guard = none) (t e : TypeId) (ho : o.op = .buildSlice t 0 #[]) (hu : P.underlying t = some (.slice e)) (he : One P e)
    (hk : ∀ k w', Ok S w0 w' H R → wpList P ops Q rest (a.put o.dst (.slice (some ⟨k, 0, none⟩) 0 0)) w') : wpList P ops Q (o :: rest) a w :=
  let ⟨_, hr⟩ := run_build0 (w := w) ho hu he
  wpL_value hgd hr (hk _ _ (h.grow (below_alloc _ _)))

theorem cap_512 {b : Int} (h : b < M) : b < Cap := cap_of (k := 64 * 8) h (by omega)

set_option maxRecDepth 100000 in
set_option maxHeartbeats 1000000 in
theorem big_calls (n : Int) (h0 : 0 ≤ n) (h1 : n < M) : GivesB 16 #[W n] [] n := by
  intro w0 w R' hR hw
  clear hR
  go_enter Tryd.func16, Tryd.ntmps16
  go_wp2_with (first | (refine w_box (H := []) hw rfl 24 _ rfl _ rfl ?_; clear hw; intro k1 w hw) | (refine ok_build0 hw rfl _ _ rfl Tryd.underlying36 one_u32 ?_; clear hw; intro k2 w hw))
  go_loopw [4, 3] (fun a b wr => ∃ (i : Nat) (L : List (Nat × Array Value)), i ≤ 8 ∧ a = .int .i64 i ∧ BigV L b (n % 2 ^ (64 * i)) ∧ Fresh w0 L ∧ Ok Non w0 wr [(k1, limbs 8 n)] (L ++ R')) (fun a _ _ => 8 - (intOf a).toNat)
  case atStart => exact ⟨0, [], by omega, rfl, by simp [Int.emod_one]; exact bigv_nil _ _ _, fresh_nil _, hw⟩
  case round =>
    clear hw
    obtain ⟨i, L, hi, rfl, hb, hf, hw⟩ := hrel
    by_cases hlt : i < 8
    · have hcell := (hw.has (Has.own (.head _))).cell i
      rw [limbs_get _ hlt] at hcell
      have hbd := lim_bd n i
      have hsm := bsmall_calls hbd.1 hbd.2
      have c1 : lim n i < Cap := cap_of (k := 64) hbd.2 (by omega)
      have hp := pow_pos2 (64 * i)
      have c2 : n % 2 ^ (64 * i) < Cap := cap_of (Int.emod_lt_of_pos n hp) (by omega)
      have c3 : lim n i * 2 ^ (64 * i) < Cap := by
        have := Int.mul_lt_mul_of_pos_right (show lim n i < 2 ^ 64 from hbd.2) hp
        rw [← Int.pow_add] at this
        exact cap_of this (by omega)
      have e := Lib.hid (emod_succ n i)
      generalize lim n i = d at *
      go_wp2_with (first | (go_at_call 23; refine hsm.use hw (by simp) ?_; clear hw; intro w z1 L1 hz1 hf1 hw) | (go_at_call 19; refine (vshl hz1 c1 (64 * i) (by omega) (by omega)).use hw (by grind) ?_; clear hw; intro w z2 L2 hz2 hf2 hw) | (go_at_call 46; refine (vadd (hb.mono (R' := L2 ++ (L1 ++ (L ++ R'))) (by grind)) (hz2.mono (by grind)) c2 c3).use hw (by grind) ?_; clear hw; intro w z3 L3 hz3 hf3 hw))
      rw [← e.out] at hz3
      exact ⟨⟨i + 1, L3, by omega, by go_num, hz3, hf3, hw.sub (List.Sublist.refl _) (by grind)⟩, by simp [intOf]; omega⟩
    · have hi2 : i = 8 := by omega
      subst hi2
      rw [Int.emod_eq_of_lt (b := 2 ^ (64 * 8)) h0 h1] at hb
      go_wp2_with fail
      go_ret
      exact ⟨_, L, rfl, hb, hf, hw.sub (List.nil_sublist _) (fun q hq => hq)⟩

theorem blen_iff {n : Int} (h0 : 0 < n) (k : Nat) : blen n ≤ k ↔ n < 2 ^ k := by
  constructor
  · intro h
    obtain ⟨_, _, h3⟩ := blen_spec h0
    exact Int.lt_of_lt_of_le h3 (pow_mono2 h)
  · exact blen_le
end Go.Proofs.YtcodmeljjphoeaaDoor
