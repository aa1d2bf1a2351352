/-
  The references' numbers: shifted up.
-/
import Derived.Test.YtcodmeljjphoeaaDoorBigI
namespace Go.Proofs.YtcodmeljjphoeaaDoor
open Go.RowKit
set_option linter.unusedVariables false
set_option linter.unusedSimpArgs false

/-- What is carried. -/
def scarry (x : Int) (r i : Nat) : Int := x % 2 ^ (32 * i) * 2 ^ r / 2 ^ (32 * i)
theorem scarry_bd (x : Int) (r i : Nat) : 0 ≤ scarry x r i ∧ scarry x r i < 2 ^ r := by
  have hp := pow_pos2 (32 * i)
  have hr := pow_pos2 r
  have m0 := Int.emod_nonneg x (show (2 : Int) ^ (32 * i) ≠ 0 by omega)
  have m1 := Int.emod_lt_of_pos x hp
  unfold scarry
  constructor
  · exact Int.ediv_nonneg (Int.mul_nonneg m0 (by omega)) (by omega)
  · refine Int.ediv_lt_of_lt_mul hp ?_
    rw [Int.mul_comm (2 ^ r)]
    exact Int.mul_lt_mul_of_pos_right m1 hr
theorem scarry_zero (x : Int) (r : Nat) : scarry x r 0 = 0 := by simp [scarry, Int.emod_one]
theorem sstep (x : Int) (r i : Nat) : x * 2 ^ r / 2 ^ (32 * i) = x / 2 ^ (32 * (i + 1)) * 2 ^ r * 4294967296 + (scarry x r i + dg x i * 2 ^ r) := by
  have hp := pow_pos2 (32 * i)
  have e := dg_ediv x i
  have e2 := Int.emod_add_mul_ediv x (2 ^ (32 * i))
  unfold scarry
  rw [e] at e2
  generalize dg x i = d at *
  generalize x / 2 ^ (32 * (i + 1)) = X at *
  generalize (2 : Int) ^ r = R at *
  generalize hm : x % 2 ^ (32 * i) = m at *
  generalize (2 : Int) ^ (32 * i) = p at *
  rw [← e2, show (m + p * (X * 4294967296 + d)) * R = m * R + p * ((X * 4294967296 + d) * R) by grind, Int.add_mul_ediv_left _ _ (by omega)]
  grind
theorem sdigit (x : Int) (r i : Nat) : (scarry x r i + dg x i * 2 ^ r) % 4294967296 = dg (x * 2 ^ r) i := by
  unfold dg
  rw [sstep]
  unfold dg
  omega
theorem scarry_next (x : Int) (r i : Nat) : (scarry x r i + dg x i * 2 ^ r) / 4294967296 = scarry x r (i + 1) := by
  have hp := pow_pos2 (32 * i)
  unfold scarry
  rw [dg_mod, p32_succ, Int.mul_comm 4294967296, ← Int.ediv_ediv_of_nonneg (by omega)]
  rw [show (x % 2 ^ (32 * i) + dg x i * 2 ^ (32 * i)) * 2 ^ r = x % 2 ^ (32 * i) * 2 ^ r + 2 ^ (32 * i) * (dg x i * 2 ^ r) by grind]
  rw [Int.add_mul_ediv_left _ _ (by omega)]
theorem sshift_low (x : Int) (r q i : Nat) (h : i < q) : dg (x * 2 ^ (32 * q + r)) i = 0 := by
  rw [show x * 2 ^ (32 * q + r) = 0 + x * 2 ^ r * 2 ^ (32 * q) by rw [Int.pow_add]; grind, dg_add_mul _ _ _ _ h]
  unfold dg; simp
theorem sshift_high (x : Int) (r q i : Nat) : dg (x * 2 ^ (32 * q + r)) (q + i) = dg (x * 2 ^ r) i := by
  have hq := pow_pos2 (32 * q)
  unfold dg
  rw [show x * 2 ^ (32 * q + r) = x * 2 ^ r * 2 ^ (32 * q) by rw [Int.pow_add]; grind, p32_add, ← Int.ediv_ediv_of_nonneg (by omega), Int.mul_ediv_cancel _ (by omega)]
theorem sshift_lt {x : Int} {n r q : Nat} (h0 : 0 ≤ x) (h : x < 2 ^ (32 * n)) (hr : r ≤ 32) : x * 2 ^ (32 * q + r) < 2 ^ (32 * (q + (n + 1))) := by
  have h1 := Int.mul_lt_mul_of_pos_right h (pow_pos2 (32 * q + r))
  rw [← Int.pow_add] at h1
  exact Int.lt_of_lt_of_le h1 (pow_mono2 (by omega))
theorem bor_shift {c d : Int} {r : Nat} (hc0 : 0 ≤ c) (hc1 : c < 2 ^ r) (hd : 0 ≤ d ∧ d < 4294967296) (hr : r < 32) : bits .or .u64 c (IntKind.u64.wrap (d * 2 ^ (r % 32))) = c + d * 2 ^ r := by
  rw [Nat.mod_eq_of_lt hr]
  have hp := pow_pos2 r
  have hb3 := pow_mono2 (show r ≤ 31 by omega)
  have h1 : 0 ≤ d * 2 ^ r := Int.mul_nonneg hd.1 (by omega)
  have h2 : d * 2 ^ r ≤ 4294967295 * 2 ^ 31 := Int.mul_le_mul (by omega) hb3 (by omega) (by omega)
  rw [wrap_u64, Int.emod_eq_of_lt h1 (by omega)]
  obtain ⟨a, rfl⟩ := Int.eq_ofNat_of_zero_le hc0
  obtain ⟨b, rfl⟩ := Int.eq_ofNat_of_zero_le hd.1
  have e : (b : Int) * 2 ^ r = ((2 ^ r * b : Nat) : Int) := by rw [Int.natCast_mul, Int.mul_comm]; rfl
  have hb : a < 2 ^ r := by
    have : ((a : Nat) : Int) < ((2 ^ r : Nat) : Int) := by simpa using hc1
    exact Int.ofNat_lt.1 this
  rw [e] at h1 h2 ⊢
  rw [bits_or_u64_nat _ _ (by omega) (by omega), Nat.or_comm, ← Nat.two_pow_add_eq_or_of_lt hb, Int.natCast_add]
  omega

set_option maxRecDepth 100000 in
set_option maxHeartbeats 1000000 in
theorem bshl_calls {R : List (Nat × Array Value)} {u : Value} {n : Nat} {x : Int} {k : Int} (s : Nat) (hk : k = (s : Int)) (hx : BigN R u n x) (hn : n < 20000) (hs : s < 640000) : GivesB 19 #[u, .int .i64 k] R (x * 2 ^ s) := by
  subst hk
  refine GivesB.mk fun S w0 w H R' hR hw => ?_
  obtain ⟨q, r, hr, rfl⟩ : ∃ q r : Nat, r < 32 ∧ s = 32 * q + r := ⟨s / 32, s % 32, by omega, by omega⟩
  have hdx := fun i => digit_gives hx i
  have hx0 := hx.pos
  have hs0 : 0 ≤ x * 2 ^ (32 * q + r) := Int.mul_nonneg hx0 (by have := pow_pos2 (32 * q + r); omega)
  have hs1 := sshift_lt (q := q) hx0 hx.lt (show r ≤ 32 by omega)
  obtain ⟨p, c, rfl, hc, hr'⟩ := hx.shape
  have HR := Lib.hid hR
  clear hr' hx hR
  go_enter Tryd.func19, Tryd.ntmps19
  go_wp2_with fail
  go_loopw [6, 5] (fun a o wr => ∃ (i : Nat) (T : List (Nat × Array Value)), i ≤ q ∧ a = .int .i64 i ∧ Lst T o (bcells (x * 2 ^ (32 * q + r)) i) ∧ Ok S w0 wr (T ++ H) R') (fun a _ _ => q - (intOf a).toNat)
  case atStart => exact ⟨0, [], by omega, rfl, .nil, hw⟩
  case round =>
    clear hw
    obtain ⟨i, T, hi, rfl, hl, hw⟩ := hrel
    by_cases hlt : i < q
    · have hlen := Lib.hid (length_bcells (x * 2 ^ (32 * q + r)) i)
      have hz := Lib.hid (sshift_low x r q i hlt)
      go_wp2_with (first | (refine ok_build1 (H := (T ++ H)) hw rfl _ _ _ rfl Tryd.underlying36 one_u32 zero_u32' _ _ rfl ?_; clear hw; intro k2 w hw) | (refine ok_append (Ok.front [_] T H hw) rfl _ _ _ rfl _ Tryd.underlying36 elem_u32 _ rfl _ hl _ _ _ rfl _ (by apply Has.own; (repeat (first | exact List.mem_cons_self | apply List.mem_cons_of_mem | exact List.mem_append_right _ (List.mem_cons_self)))) rfl (by simp [Value.oneCell']) (by rw [hlen.out]; omega) ?_; clear hw; intro w T' v' hl' hw'; have hw := hw'.sub (List.Sublist.append (List.Sublist.refl T') (List.Sublist.cons _ (List.Sublist.refl H))) (fun q h => h); clear hw'))
      exact ⟨⟨i + 1, by omega, by omega, T', by rw [bcells_succ, hz.out]; exact hl', hw⟩, by simp [intOf]; omega⟩
    · have hi2 : i = q := by omega
      subst hi2
      go_wp2_with fail
      go_loopw [8, 7, 5] (fun b a o wr => ∃ (j : Nat) (T : List (Nat × Array Value)), j ≤ n + 1 ∧ b = .int .i64 j ∧ a = .int .u64 (scarry x r j) ∧ Lst T o (bcells (x * 2 ^ (32 * i + r)) (i + j)) ∧ Ok S w0 wr (T ++ H) R') (fun b _ _ _ => n + 1 - (intOf b).toNat)
      case atStart => exact ⟨0, T, by omega, rfl, by rw [scarry_zero], hl, hw⟩
      case round =>
        clear hw hl
        obtain ⟨j, T, hj, rfl, rfl, hl, hw⟩ := hrel
        by_cases hjlt : j ≤ n
        · have hx1 := hdx j
          have hb1 := dg_bd x j
          have hb2 := scarry_bd x r j
          have hb3 := pow_mono2 (show r ≤ 31 by omega)
          have hp := pow_pos2 r
          have e1 := Lib.hid (sdigit x r j)
          have e2 := Lib.hid (scarry_next x r j)
          have e3 := Lib.hid (bor_shift hb2.1 hb2.2 hb1 hr)
          have e4 := Lib.hid (sshift_high x r i j)
          have hlen := Lib.hid (length_bcells (x * 2 ^ (32 * i + r)) (i + j))
          clear hdx
          generalize dg x j = dx at *
          generalize scarry x r j = cy at *
          go_wp2_with (first | (go_at_call 48; refine hx1.of hw HR.out ?_; clear hw; intro w hw) | (refine ok_build1 (H := (T ++ H)) hw rfl _ _ _ rfl Tryd.underlying36 one_u32 zero_u32' _ _ rfl ?_; clear hw; intro k2 w hw) | (refine ok_append (Ok.front [_] T H hw) rfl _ _ _ rfl _ Tryd.underlying36 elem_u32 _ rfl _ hl _ _ _ rfl _ (by apply Has.own; (repeat (first | exact List.mem_cons_self | apply List.mem_cons_of_mem | exact List.mem_append_right _ (List.mem_cons_self)))) rfl (by simp [Value.oneCell']) (by rw [hlen.out]; omega) ?_; clear hw; intro w T' v' hl' hw'; have hw := hw'.sub (List.Sublist.append (List.Sublist.refl T') (List.Sublist.cons _ (List.Sublist.refl H))) (fun q h => h); clear hw'))
          rw [e3.out] at hl' ⊢
          rw [e1.out, ← e4.out] at hl'
          rw [e2.out]
          refine ⟨⟨_, _, _, ⟨j + 1, by omega, rfl, rfl, T', ?_, hw⟩, rfl, rfl, by go_num⟩, by simp [intOf]; omega⟩
          rw [← Nat.add_assoc, bcells_succ]
          exact hl'
        · have hj2 : j = n + 1 := by omega
          subst hj2
          obtain ⟨q, cc, rfl, hbn⟩ := bign_of_lst hl hs0 hs1 (by omega)
          have hbv := big_trim hbn
          have htr := btrim_gives hbn
          clear hdx
          go_wp2_with (first | (go_at_call 47; refine htr.call hw (fun p hp => Has.own (List.mem_append_left _ hp)) ?_; clear hw; intro w hw))
          go_ret
          exact ⟨_, _, rfl, hbv, hw⟩
end Go.Proofs.YtcodmeljjphoeaaDoor
