/-
  The references' numbers: shifted down; how long they are.
-/
import Derived.Test.YtcodmeljjphoeaaDoorBigJ
namespace Go.Proofs.YtcodmeljjphoeaaDoor
open Go.RowKit
set_option linter.unusedVariables false
set_option linter.unusedSimpArgs false

theorem bshr_digit (x : Int) {r i q j : Nat} (hr : r < 32) (hi : i = q + j) : (dg x i + dg x (i + 1) * 4294967296) / 2 ^ r % 4294967296 = dg (x / 2 ^ (32 * q + r)) j := by
  have hp := pow_pos2 r
  have e := dg_ediv x i
  have e2 := dg_ediv x (i + 1)
  show _ = x / 2 ^ (32 * q + r) / 2 ^ (32 * j) % 4294967296
  rw [ediv_pow, show 32 * q + r + 32 * j = 32 * i + r by omega, ← ediv_pow, e, e2]
  generalize x / 2 ^ (32 * (i + 1 + 1)) = X at *
  generalize dg x (i + 1) = b at *
  generalize dg x i = a at *
  have e3 : ∃ Y : Int, (18446744073709551616 : Int) = 2 ^ r * (4294967296 * Y) := by
    refine ⟨2 ^ (32 - r), ?_⟩
    rw [show (18446744073709551616 : Int) = 2 ^ (r + (32 + (32 - r))) by rw [show r + (32 + (32 - r)) = 64 by omega]; rfl, Int.pow_add, Int.pow_add]
    rfl
  obtain ⟨Y, hY⟩ := e3
  rw [show (X * 4294967296 + b) * 4294967296 + a = (a + b * 4294967296) + X * 18446744073709551616 by omega, hY]
  rw [show (a + b * 4294967296) + X * (2 ^ r * (4294967296 * Y)) = (a + b * 4294967296) + 2 ^ r * (4294967296 * (X * Y)) by grind, Int.add_mul_ediv_left _ _ (by omega), Int.add_mul_emod_self_left]

theorem bor32 {a b : Int} (ha : 0 ≤ a ∧ a < 4294967296) (hb : 0 ≤ b ∧ b < 4294967296) : bits .or .u64 a (b * 4294967296) = a + b * 4294967296 := by
  obtain ⟨a, rfl⟩ := Int.eq_ofNat_of_zero_le ha.1
  obtain ⟨b, rfl⟩ := Int.eq_ofNat_of_zero_le hb.1
  have e : (b : Int) * 4294967296 = ((2 ^ 32 * b : Nat) : Int) := by omega
  have h : a < 2 ^ 32 := by omega
  rw [e, bits_or_u64_nat _ _ (by omega) (by omega), Nat.or_comm, ← Nat.two_pow_add_eq_or_of_lt h, Int.natCast_add]
  omega

set_option maxRecDepth 100000 in
set_option maxHeartbeats 1000000 in
theorem bshr_calls {R : List (Nat × Array Value)} {u : Value} {n : Nat} {x : Int} {k : Int} (s : Nat) (hk : k = (s : Int)) (hx : BigN R u n x) (hn : n < 20000) (hs : s < 640000) : GivesB 37 #[u, .int .i64 k] R (x / 2 ^ s) := by
  subst hk
  refine GivesB.mk fun S w0 w H R' hR hw => ?_
  obtain ⟨q, r, hr, rfl⟩ : ∃ q r : Nat, r < 32 ∧ s = 32 * q + r := ⟨s / 32, s % 32, by omega, by omega⟩
  have hdx := fun i => digit_gives hx i
  have hx0 := hx.pos
  have hs0 : 0 ≤ x / 2 ^ (32 * q + r) := Int.ediv_nonneg hx0 (by have := pow_pos2 (32 * q + r); omega)
  have hs1 : x / 2 ^ (32 * q + r) < 2 ^ (32 * (max n q - q)) := by
    refine Int.ediv_lt_of_lt_mul (pow_pos2 _) ?_
    rw [← Int.pow_add]
    exact Int.lt_of_lt_of_le hx.lt (pow_mono2 (by omega))
  obtain ⟨p, c, rfl, hc, hr'⟩ := hx.shape
  have HR := Lib.hid hR
  clear hr' hx hR
  go_enter Tryd.func37, Tryd.ntmps37
  go_wp2_with fail
  go_loopw [6, 5] (fun a o wr => ∃ (i : Nat) (T : List (Nat × Array Value)), q + i ≤ max n q ∧ a = .int .i64 ((q + i : Nat) : Int) ∧ Lst T o (bcells (x / 2 ^ (32 * q + r)) i) ∧ Ok S w0 wr (T ++ H) R') (fun a _ _ => max n q - (intOf a).toNat)
  case atStart => exact ⟨0, [], by omega, by go_num, .nil, hw⟩
  case round =>
    clear hw
    obtain ⟨i, T, hi, rfl, hl, hw⟩ := hrel
    by_cases hlt : q + i < n
    · have hlen := Lib.hid (length_bcells (x / 2 ^ (32 * q + r)) i)
      have hx1 := hdx (q + i)
      have hx2 := hdx (q + i + 1)
      have e1 := Lib.hid (bshr_digit x hr (rfl : q + i = q + i))
      have hb1 := dg_bd x (q + i)
      have hb2 := dg_bd x (q + i + 1)
      have tok : True := trivial
      clear hdx
      rw [show ((q + i + 1 : Nat) : Int) = (q : Int) + i + 1 by omega] at hx2
      rw [show ((q + i : Nat) : Int) = (q : Int) + i by omega] at hx1
      generalize dg x (q + i) = d1 at *
      generalize dg x (q + i + 1) = d2 at *
      go_wp2_with (first | (clear tok; go_at_call 48; refine hx1.of hw HR.out ?_; clear hw; intro w hw) | (go_at_call 48; refine hx2.of hw HR.out ?_; clear hw; intro w hw) | (refine ok_build1 (H := (T ++ H)) hw rfl _ _ _ rfl Tryd.underlying36 one_u32 zero_u32' _ _ rfl ?_; clear hw; intro k2 w hw) | (refine ok_append (Ok.front [_] T H hw) rfl _ _ _ rfl _ Tryd.underlying36 elem_u32 _ rfl _ hl _ _ _ rfl _ (by apply Has.own; (repeat (first | exact List.mem_cons_self | apply List.mem_cons_of_mem | exact List.mem_append_right _ (List.mem_cons_self)))) rfl (by simp [Value.oneCell']) (by rw [hlen.out]; omega) ?_; clear hw; intro w T' v' hl' hw'; have hw := hw'.sub (List.Sublist.append (List.Sublist.refl T') (List.Sublist.cons _ (List.Sublist.refl H))) (fun q h => h); clear hw'))
      rw [Nat.mod_eq_of_lt hr, bor32 hb1 hb2, e1.out] at hl'
      exact ⟨⟨i + 1, by omega, by omega, T', by rw [bcells_succ]; exact hl', hw⟩, by simp [intOf]; omega⟩
    · have hi2 : q + i = max n q := by omega
      rw [show max n q - q = i by omega] at hs1
      obtain ⟨q', cc, rfl, hbn⟩ := bign_of_lst hl hs0 hs1 (by omega)
      have hbv := big_trim hbn
      have htr := btrim_gives hbn
      clear hdx
      go_wp2_with (first | (go_at_call 47; refine htr.call hw (fun p hp => Has.own (List.mem_append_left _ hp)) ?_; clear hw; intro w hw))
      go_ret
      exact ⟨_, _, rfl, hbv, hw⟩

theorem blen_dtop {z : Int} {n : Nat} (h0 : 0 ≤ z) (h1 : z < 2 ^ (32 * (n + 1))) (hl : dg z n ≠ 0) : blen z = 32 * n + blen (dg z n) := by
  have hb := dg_bd z n
  have e := dg_ediv z n
  have hp := pow_pos2 (32 * n)
  rw [Int.ediv_eq_zero_of_lt h0 h1] at e
  obtain ⟨s1, s2, s3⟩ := blen_spec (show 0 < dg z n by omega)
  have e2 := Int.emod_add_mul_ediv z (2 ^ (32 * n))
  have m0 := Int.emod_nonneg z (show (2 : Int) ^ (32 * n) ≠ 0 by omega)
  have m1 := Int.emod_lt_of_pos z hp
  rw [e] at e2
  generalize dg z n = L at *
  obtain ⟨k, hk⟩ : ∃ k, blen L = k + 1 := ⟨blen L - 1, by omega⟩
  rw [hk] at s2 s3 ⊢
  rw [show k + 1 - 1 = k by omega] at s2
  rw [show 32 * n + (k + 1) = (32 * n + k) + 1 by omega]
  generalize z % 2 ^ (32 * n) = m at *
  refine blen_eq ?_ ?_
  · rw [Int.pow_add]
    have := Int.mul_le_mul_of_nonneg_left s2 (show 0 ≤ (2 : Int) ^ (32 * n) by omega)
    have e3 : 2 ^ (32 * n) * (0 * 4294967296 + L) = 2 ^ (32 * n) * L := by rw [Int.zero_mul, Int.zero_add]
    omega
  · rw [show 32 * n + k + 1 = 32 * n + (k + 1) by omega, Int.pow_add]
    have := Int.mul_le_mul_of_nonneg_left (show L + 1 ≤ 2 ^ (k + 1) by omega) (show 0 ≤ (2 : Int) ^ (32 * n) by omega)
    have e3 : 2 ^ (32 * n) * (0 * 4294967296 + L) = 2 ^ (32 * n) * L := by rw [Int.zero_mul, Int.zero_add]
    have e4 : 2 ^ (32 * n) * (L + 1) = 2 ^ (32 * n) * L + 2 ^ (32 * n) := by grind
    omega
theorem blen_half {d : Int} (h : 0 < d) : blen d = blen (d / 2) + 1 := by
  by_cases h1 : d = 1
  · subst h1; decide
  · obtain ⟨s1, s2, s3⟩ := blen_spec (show 0 < d / 2 by omega)
    obtain ⟨k, hk⟩ : ∃ k, blen (d / 2) = k + 1 := ⟨blen (d / 2) - 1, by omega⟩
    rw [hk] at s2 s3 ⊢
    rw [show k + 1 - 1 = k by omega] at s2
    have e1 : (2 : Int) ^ (k + 1) = 2 * 2 ^ k := by rw [Int.pow_succ]; omega
    have e2 : (2 : Int) ^ (k + 1 + 1) = 2 * 2 ^ (k + 1) := by rw [Int.pow_succ _ (k + 1)]; omega
    exact blen_eq (by omega) (by omega)

set_option maxRecDepth 100000 in
theorem blen_gives {R : List (Nat × Array Value)} {u : Value} {x : Int} (hx : BigV R u x) : Gives Tryd.prog 17 #[u] R (.int .i64 (blen x)) := by
  refine .mk fun w0 w hw => ?_
  obtain ⟨n, hx, hn0⟩ := hx.shape
  have hxp := hx.pos
  have hxl := hx.lt
  have hxs := hx.small
  obtain ⟨p, c, rfl, hc, hr⟩ := hx.shape
  have htr := btrim_gives hx
  have htn : trimd x n = n := by
    rcases hn0 with ⟨h, _⟩ | ⟨h1, h2⟩
    · subst h; rfl
    · obtain ⟨j, rfl⟩ : ∃ j, n = j + 1 := ⟨n - 1, by omega⟩
      unfold trimd
      exact if_neg h2
  rw [htn] at htr
  clear hx htn
  go_enter Tryd.func17, Tryd.ntmps17
  rcases hn0 with ⟨rfl, rfl⟩ | ⟨h1, h2⟩
  · go_wp2_with (first | (go_at_call 47; refine htr.of hw (fun p hp => hp) ?_; clear hw; intro w hw))
    go_ret
    exact ⟨rfl, hw.below⟩
  · obtain ⟨j, rfl⟩ : ∃ j, n = j + 1 := ⟨n - 1, by omega⟩
    obtain ⟨kx, cx, rfl, hmx, hdx⟩ : ∃ k cs, p = some ⟨k, 0, none⟩ ∧ (k, cs) ∈ R ∧ Dig cs (j + 1) x := by
      rcases hr with h | h
      · omega
      · exact h
    rw [show j + 1 - 1 = j by omega] at h2
    have hcx := Lib.hid (hdx j (by omega))
    have hbl := Lib.hid (blen_dtop hxp hxl h2)
    have hb := dg_bd x j
    clear hr hdx hxl
    generalize dg x j = t at *
    go_wp2_with (first | (go_at_call 47; refine htr.of hw (fun p hp => hp) ?_; clear hw; intro w hw; have hcell := (hw.has (Has.read hmx)).cell j; rw [hcx.out] at hcell))
    go_loopw [4, 3] (fun a b wr => ∃ (k : Nat) (d : Int), a = .int .u32 d ∧ b = .int .i64 k ∧ 0 ≤ d ∧ d < 4294967296 ∧ Hid (k + blen d = blen t) ∧ Ok Non w0 wr [] R) (fun a _ _ => (intOf a).toNat)
    case atStart => exact ⟨0, t, rfl, rfl, hb.1, hb.2, Lib.hid (by omega), hw⟩
    case round =>
      clear hw
      obtain ⟨k, d, rfl, rfl, hd0, hd1, hk, hw⟩ := hrel
      have hks : k ≤ 32 := by
        have h1 := hk.out
        have h2 := blen_le (z := t) (n := 32) (by omega)
        omega
      by_cases hd : d = 0
      · subst hd
        have hkt : k = blen t := by
          have h1 := hk.out
          rw [blen_zero (Int.le_refl 0)] at h1
          omega
        have hfin := Lib.hid (show (32 : Int) * j + k = blen x by rw [hbl.out, hkt]; omega)
        clear hk hkt
        go_wp2_with fail
        go_ret
        refine ⟨?_, hw.below⟩
        rw [← hfin.out]
        go_num
      · have hk2 := Lib.hid (show k + 1 + blen (d / 2) = blen t by have h1 := hk.out; rw [blen_half (by omega)] at h1; omega)
        clear hk
        go_wp2_with fail
        exact ⟨⟨k + 1, d / 2, by go_num, by go_num, by omega, by omega, hk2, hw⟩, by simp [intOf]; omega⟩
end Go.Proofs.YtcodmeljjphoeaaDoor
