/-
  The references' differences.
-/
import Derived.Test.YtcodmeljjphoeaaDoorBigD
namespace Go.Proofs.YtcodmeljjphoeaaDoor
open Go.RowKit
set_option linter.unusedVariables false
set_option linter.unusedSimpArgs false

/-- What is borrowed. -/
def bborrow (x y : Int) (i : Nat) : Int := -((x % 2 ^ (32 * i) - y % 2 ^ (32 * i)) / 2 ^ (32 * i))
theorem bborrow01 (x y : Int) (i : Nat) : bborrow x y i = 0 ∨ bborrow x y i = 1 := by
  have hp := pow_pos2 (32 * i)
  have a0 := Int.emod_nonneg x (show (2 : Int) ^ (32 * i) ≠ 0 by omega)
  have a1 := Int.emod_lt_of_pos x hp
  have b0 := Int.emod_nonneg y (show (2 : Int) ^ (32 * i) ≠ 0 by omega)
  have b1 := Int.emod_lt_of_pos y hp
  have h := div01 (x % 2 ^ (32 * i) - y % 2 ^ (32 * i) + 2 ^ (32 * i)) (2 ^ (32 * i)) hp (by omega) (by omega)
  have e := Int.add_mul_ediv_right (x % 2 ^ (32 * i) - y % 2 ^ (32 * i)) 1 (show (2 : Int) ^ (32 * i) ≠ 0 by omega)
  rw [Int.one_mul] at e
  unfold bborrow
  omega
theorem bsub_dg (x y : Int) (i : Nat) : (dg x i + 4294967296 - dg y i - bborrow x y i) % 4294967296 = dg (x - y) i := by
  have h := limb_step' x y (2 ^ (32 * i)) _ _ (pow_pos2 _) rfl rfl _ rfl
  unfold bborrow dg at *
  rw [h]; omega
theorem bsub_borrow (x y : Int) (i : Nat) : 1 - (dg x i + 4294967296 - dg y i - bborrow x y i) / 4294967296 = bborrow x y (i + 1) := by
  have hp := pow_pos2 (32 * i)
  unfold bborrow
  rw [dg_mod, dg_mod]
  have e : (2 : Int) ^ (32 * (i + 1)) = 2 ^ (32 * i) * 4294967296 := by
    rw [show (4294967296 : Int) = 2 ^ 32 by rfl, ← Int.pow_add]; rfl
  rw [e, ← Int.ediv_ediv_of_nonneg (by omega)]
  rw [show x % 2 ^ (32 * i) + dg x i * 2 ^ (32 * i) - (y % 2 ^ (32 * i) + dg y i * 2 ^ (32 * i)) = (x % 2 ^ (32 * i) - y % 2 ^ (32 * i)) + 2 ^ (32 * i) * (dg x i - dg y i) by grind]
  rw [Int.add_mul_ediv_left _ _ (by omega)]
  omega

set_option maxRecDepth 100000 in
set_option maxHeartbeats 1000000 in
theorem bsub_calls {R : List (Nat × Array Value)} {u v : Value} {n m : Nat} {x y : Int} (hx : BigN R u n x) (hy : BigN R v m y) (hle : y ≤ x) : GivesB 71 #[u, v] R (x - y) := by
  refine GivesB.mk fun S w0 w H R' hR hw => ?_
  have hdx := fun i => digit_gives hx i
  have hdy := fun i => digit_gives hy i
  have hsn := hx.small
  have hs0 : 0 ≤ x - y := by omega
  have hs1 : x - y < 2 ^ (32 * n) := by have := hx.lt; have := hy.pos; omega
  obtain ⟨p, c, rfl, hc, hr⟩ := hx.shape
  obtain ⟨p', c', rfl, hc', hr'⟩ := hy.shape
  have HR := Lib.hid hR
  clear hr hr' hx hy hR hle
  go_enter Tryd.func71, Tryd.ntmps71
  go_wp2_with fail
  go_loopw [7, 6, 5] (fun a b o wr => ∃ (i : Nat) (T : List (Nat × Array Value)), i ≤ n ∧ a = .int .i64 i ∧ b = .int .u64 (bborrow x y i) ∧ Lst T o (bcells (x - y) i) ∧ Ok S w0 wr (T ++ H) R') (fun a _ _ _ => n - (intOf a).toNat)
  case atStart => exact ⟨0, [], by omega, rfl, by simp [bborrow, Int.emod_one], .nil, hw⟩
  case round =>
    clear hw
    obtain ⟨i, T, hi, rfl, rfl, hl, hw⟩ := hrel
    by_cases hlt : i < n
    · have hx1 := hdx i
      have hy1 := hdy i
      have t1 : True := trivial
      have hb1 := dg_bd x i
      have hb2 := dg_bd y i
      have hb3 := bborrow01 x y i
      have e1 := Lib.hid (bsub_dg x y i)
      have e2 := Lib.hid (bsub_borrow x y i)
      have hlen := Lib.hid (length_bcells (x - y) i)
      clear hdx hdy
      generalize dg x i = dx at *
      generalize dg y i = dy at *
      generalize bborrow x y i = cy at *
      go_wp2_with (first | (clear t1; go_at_call 48; refine hx1.of hw HR.out ?_; clear hw; intro w hw) | (go_at_call 48; refine hy1.of hw HR.out ?_; clear hw; intro w hw) | (refine ok_build1 (H := (T ++ H)) hw rfl _ _ _ rfl Tryd.underlying36 one_u32 zero_u32' _ _ rfl ?_; clear hw; intro k2 w hw) | (refine ok_append (Ok.front [_] T H hw) rfl _ _ _ rfl _ Tryd.underlying36 elem_u32 _ rfl _ hl _ _ _ rfl _ (by apply Has.own; (repeat (first | exact List.mem_cons_self | apply List.mem_cons_of_mem | exact List.mem_append_right _ (List.mem_cons_self)))) rfl (by simp [Value.oneCell']) (by rw [hlen.out]; omega) ?_; clear hw; intro w T' v' hl' hw'; have hw := hw'.sub (List.Sublist.append (List.Sublist.refl T') (List.Sublist.cons _ (List.Sublist.refl H))) (fun q h => h); clear hw'))
      exact ⟨⟨i + 1, T', by omega, by go_num, by rw [e2.out], by rw [bcells_succ, ← e1.out]; exact hl', hw⟩, by simp [intOf]; omega⟩
    · have hi2 : i = n := by omega
      subst hi2
      obtain ⟨q, cc, rfl, hbn⟩ := bign_of_lst hl hs0 hs1 (by omega)
      have hbv := big_trim hbn
      have htr := btrim_gives hbn
      clear hdx hdy
      go_wp2_with (first | (go_at_call 47; refine htr.call hw (fun p hp => Has.own (List.mem_append_left _ hp)) ?_; clear hw; intro w hw))
      go_ret
      exact ⟨_, _, rfl, hbv, hw⟩
end Go.Proofs.YtcodmeljjphoeaaDoor
