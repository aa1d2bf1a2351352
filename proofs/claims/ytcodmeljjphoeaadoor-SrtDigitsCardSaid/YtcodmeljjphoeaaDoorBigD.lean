/-
  The references' sums.
-/
import Derived.Test.YtcodmeljjphoeaaDoorBigC
namespace Go.Proofs.YtcodmeljjphoeaaDoor
open Go.RowKit
set_option linter.unusedVariables false
set_option linter.unusedSimpArgs false

set_option maxRecDepth 100000 in
set_option maxHeartbeats 1000000 in
theorem badd_calls {R : List (Nat × Array Value)} {u v : Value} {n m : Nat} {x y : Int} (hx : BigN R u n x) (hy : BigN R v m y) (hsm : n + m < 50000) : GivesB 46 #[u, v] R (x + y) := by
  refine GivesB.mk fun S w0 w H R' hR hw => ?_
  have hdx := fun i => digit_gives hx i
  have hdy := fun i => digit_gives hy i
  obtain ⟨p, c, rfl, hc, hr⟩ := hx.shape
  obtain ⟨p', c', rfl, hc', hr'⟩ := hy.shape
  have hs0 : 0 ≤ x + y := by have := hx.pos; have := hy.pos; omega
  have hs1 : x + y < 2 ^ (32 * (max n m + 1)) := by
    have h1 := Int.lt_of_lt_of_le hx.lt (pow_mono2 (show 32 * n ≤ 32 * max n m by omega))
    have h2 := Int.lt_of_lt_of_le hy.lt (pow_mono2 (show 32 * m ≤ 32 * max n m by omega))
    have h3 := pow_mono2 (show 32 * max n m + 1 ≤ 32 * (max n m + 1) by omega)
    rw [Int.pow_succ] at h3
    omega
  have HR := Lib.hid hR
  clear hr hr' hx hy hR
  go_enter Tryd.func46, Tryd.ntmps46
  go_wp2_with fail
  go_loopw [7, 6, 5] (fun a b o wr => ∃ (i : Nat) (T : List (Nat × Array Value)), i ≤ max n m + 1 ∧ a = .int .i64 i ∧ b = .int .u64 (bcarry x y i) ∧ Lst T o (bcells (x + y) i) ∧ Ok S w0 wr (T ++ H) R') (fun a _ _ _ => max n m + 1 - (intOf a).toNat)
  case atStart => exact ⟨0, [], by omega, rfl, by simp [bcarry, Int.emod_one], .nil, hw⟩
  case round =>
    clear hw
    obtain ⟨i, T, hi, rfl, rfl, hl, hw⟩ := hrel
    by_cases hlt : i ≤ max n m
    · have hx1 := hdx i
      have hy1 := hdy i
      have t1 : True := trivial
      have hb1 := dg_bd x i
      have hb2 := dg_bd y i
      have hb3 := bcarry01 x y i
      have e1 := Lib.hid (show (bcarry x y i + dg x i + dg y i) % 4294967296 = dg (x + y) i by rw [← badd_dg]; congr 1; omega)
      have e2 := Lib.hid (show (bcarry x y i + dg x i + dg y i) / 4294967296 = bcarry x y (i + 1) by rw [← badd_carry]; congr 1; omega)
      have hlen := Lib.hid (length_bcells (x + y) i)
      clear hdx hdy
      generalize dg x i = dx at *
      generalize dg y i = dy at *
      generalize bcarry x y i = cy at *
      go_wp2_with (first | (clear t1; go_at_call 48; refine hx1.of hw HR.out ?_; clear hw; intro w hw) | (go_at_call 48; refine hy1.of hw HR.out ?_; clear hw; intro w hw) | (refine ok_build1 (H := (T ++ H)) hw rfl _ _ _ rfl Tryd.underlying36 one_u32 zero_u32' _ _ rfl ?_; clear hw; intro k2 w hw) | (refine ok_append (Ok.front [_] T H hw) rfl _ _ _ rfl _ Tryd.underlying36 elem_u32 _ rfl _ hl _ _ _ rfl _ (by apply Has.own; (repeat (first | exact List.mem_cons_self | apply List.mem_cons_of_mem | exact List.mem_append_right _ (List.mem_cons_self)))) rfl (by simp [Value.oneCell']) (by rw [hlen.out]; omega) ?_; clear hw; intro w T' v' hl' hw'; have hw := hw'.sub (List.Sublist.append (List.Sublist.refl T') (List.Sublist.cons _ (List.Sublist.refl H))) (fun q h => h); clear hw'))
      exact ⟨⟨i + 1, T', by omega, by go_num, by rw [e2.out], by rw [bcells_succ, ← e1.out]; exact hl', hw⟩, by simp [intOf]; omega⟩
    · have hi2 : i = max n m + 1 := by omega
      subst hi2
      obtain ⟨q, cc, rfl, hbn⟩ := bign_of_lst hl hs0 hs1 (by omega)
      have hbv := big_trim hbn
      have htr := btrim_gives hbn
      clear hdx hdy
      go_wp2_with (first | (go_at_call 47; refine htr.call hw (fun p hp => Has.own (List.mem_append_left _ hp)) ?_; clear hw; intro w hw))
      go_ret
      exact ⟨_, _, rfl, hbv, hw⟩
end Go.Proofs.YtcodmeljjphoeaaDoor
