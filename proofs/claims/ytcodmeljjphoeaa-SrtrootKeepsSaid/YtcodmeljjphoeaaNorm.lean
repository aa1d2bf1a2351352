/-
  Layer 16: a number, shifted up by an even number of digits.
-/
import Derived.Test.YtcodmeljjphoeaaList
import Derived.Test.YtcodmeljjphoeaaWideF
namespace Go.Proofs.Ytcodmeljjphoeaa
open Go.RowKit
set_option linter.unusedVariables false
set_option linter.unusedSimpArgs false

theorem pow_in {n : Nat} (h : n < 512) : (2 : Int) ^ n < M := by
  have h1 := pow_mono2 (show n + 1 ≤ 64 * 8 by omega)
  rw [Int.pow_succ] at h1
  have h2 := pow_pos2 n
  show (2 : Int) ^ n < 2 ^ (64 * 8)
  omega

theorem w_zero : Value.agg #[.int .u64 0, .int .u64 0, .int .u64 0, .int .u64 0, .int .u64 0, .int .u64 0, .int .u64 0, .int .u64 0] = W 0 := by
  have : ∀ i, lim 0 i = 0 := fun i => by unfold lim; simp
  simp [W, limbs, List.range, List.range.loop, this]

theorem built_zero : Try.prog.built 24 [] = some (limbs 8 0) := by kernel_rfl
theorem ok_buildz {ops : Array Oper} {Q : Exit → Act → World → Prop} {rest : List Oper} {o : Oper} {a : Act} {w : World} (hgd : o.guard = none) (ho : o.op = .build 24 #[])
    (hk : wpList Try.prog ops Q rest (a.put o.dst (W 0)) w) : wpList Try.prog ops Q (o :: rest) a w := by
  have := run_build (P := Try.prog) w 24 #[] (limbs 8 0) built_zero
  exact wpL_value hgd (by simp only [execOp, ho, List.map_toArray, List.map_nil, Sem.run_bind, this, Result.andThen_ok, Sem.run_pure]; rfl) hk

/-- By how much a number is shifted up, and the number. -/
def nby (n : Int) : Nat := (256 - blen n) / 2 * 2
def nup (n : Int) : Int := n * 2 ^ nby n
theorem blen_le_iff {n : Int} (h0 : 0 < n) (k : Nat) : blen n ≤ k ↔ n < 2 ^ k := by
  constructor
  · intro h
    obtain ⟨_, _, h3⟩ := blen_spec h0
    exact Int.lt_of_lt_of_le h3 (pow_mono2 h)
  · exact blen_le
theorem nup_bds {n : Int} (h0 : 0 < n) (h1 : n < 2 ^ 256) : 2 ^ 254 ≤ nup n ∧ nup n < 2 ^ 256 := by
  have hl := (blen_le_iff h0 256).2 h1
  obtain ⟨l1, l2, l3⟩ := blen_spec h0
  unfold nup
  have hp := pow_pos2 (nby n)
  have e : blen n + nby n = 255 ∨ blen n + nby n = 256 := by unfold nby; omega
  constructor
  · have h := Int.mul_le_mul_of_nonneg_right l2 (show 0 ≤ (2 : Int) ^ nby n by omega)
    rw [← Int.pow_add] at h
    exact Int.le_trans (pow_mono2 (by omega)) h
  · have h := Int.mul_lt_mul_of_pos_right l3 hp
    rw [← Int.pow_add] at h
    exact Int.lt_of_lt_of_le h (pow_mono2 (by omega))

set_option maxRecDepth 10000 in
theorem norm_gives (n : Int) (h0 : 0 < n) (h1 : n < 2 ^ 256) : Gives Try.prog 16 #[W n] [] (.tuple #[W (nup n), .int .i64 (nby n), .bool true]) := by
  refine .mk fun w0 w hw => ?_
  have hl := (blen_le_iff h0 256).2 h1
  obtain ⟨l1, _, _⟩ := blen_spec h0
  have hlen := len_gives n (by omega) (Int.lt_trans h1 (pow_in (by omega)))
  have hsh := shl_gives n (nby n)
  rw [show (clampv (nby n)).toNat = nby n by unfold clampv nby; omega] at hsh
  have hb : ((nby n : Nat) : Int) = (256 - (blen n : Int)) / 2 * 2 := by unfold nby; omega
  rw [hb] at hsh ⊢
  change Gives _ _ _ _ (W (nup n)) at hsh
  clear hb
  generalize blen n = l at *
  generalize nup n = N at *
  have hz : ((l : Int) == 0) = false := by rw [beq_eq_false_iff_ne]; omega
  go_enter Try.func16, Try.ntmps16
  go_wp2_with (first | (refine w_box (H := []) hw rfl 24 _ rfl _ rfl ?_; clear hw; intro k1 w hw) | (refine ok_alloc (H := []) hw rfl 24 rfl _ zero_wide ?_; clear hw; intro k1 w hw) | (refine ok_alloc (H := [_]) hw rfl 24 rfl _ zero_wide ?_; clear hw; intro k2 w hw) | (refine w_load hw rfl 24 _ rfl _ rfl agg_wide _ (by first | (apply Has.own; (repeat (first | assumption | exact List.mem_cons_self | apply List.mem_cons_of_mem)); done) | (apply Has.read; (repeat (first | assumption | exact List.mem_cons_self | apply List.mem_cons_of_mem)); done)) ?_) | (refine w_store hw rfl 24 _ _ rfl _ rfl _ rfl agg_wide _ (by repeat (first | exact At.head _ | apply At.tail)) ?_; clear hw; intro w hw) | (go_at_call 51; refine hlen.call0 hw ?_; clear hw; intro w hw) | (go_at_call 52; refine hsh.call0 hw ?_; clear hw; intro w hw))
  refine ret_ctt rfl rfl rfl rfl agg_wide (hw.rows _ (.head _)) (by simp) rfl ⟨rfl, hw.below⟩

set_option maxRecDepth 10000 in
theorem norm_none (n : Int) (h0 : 0 ≤ n) (hM : n < M) (h1 : n = 0 ∨ 2 ^ 256 ≤ n) : Gives Try.prog 16 #[W n] [] (.tuple #[W 0, .int .i64 0, .bool false]) := by
  refine .mk fun w0 w hw => ?_
  have hlen := len_gives n h0 hM
  have hl : blen n = 0 ∨ 256 < blen n := by
    rcases h1 with rfl | h1
    · left; exact blen_zero (by omega)
    · right; exact le_blen h1
  generalize blen n = l at *
  go_enter Try.func16, Try.ntmps16
  rcases hl with rfl | hl
  · go_wp2_with (first | (refine w_box (H := []) hw rfl 24 _ rfl _ rfl ?_; clear hw; intro k1 w hw) | (refine ok_alloc (H := []) hw rfl 24 rfl _ zero_wide ?_; clear hw; intro k1 w hw) | (refine ok_alloc (H := [_]) hw rfl 24 rfl _ zero_wide ?_; clear hw; intro k2 w hw) | (refine w_load hw rfl 24 _ rfl _ rfl agg_wide _ (by first | (apply Has.own; (repeat (first | assumption | exact List.mem_cons_self | apply List.mem_cons_of_mem)); done) | (apply Has.read; (repeat (first | assumption | exact List.mem_cons_self | apply List.mem_cons_of_mem)); done)) ?_) | (refine ok_buildz rfl rfl ?_) | (refine w_store hw rfl 24 _ _ rfl _ rfl _ rfl agg_wide _ (by repeat (first | exact At.head _ | apply At.tail)) ?_; clear hw; intro w hw) | (go_at_call 51; refine hlen.call0 hw ?_; clear hw; intro w hw))
    refine ret_ctt rfl rfl rfl rfl agg_wide (hw.rows _ (.head _)) (by simp) rfl ⟨rfl, hw.below⟩
  · have hz : ((l : Int) == 0) = false := by rw [beq_eq_false_iff_ne]; omega
    go_wp2_with (first | (refine w_box (H := []) hw rfl 24 _ rfl _ rfl ?_; clear hw; intro k1 w hw) | (refine ok_alloc (H := []) hw rfl 24 rfl _ zero_wide ?_; clear hw; intro k1 w hw) | (refine ok_alloc (H := [_]) hw rfl 24 rfl _ zero_wide ?_; clear hw; intro k2 w hw) | (refine w_load hw rfl 24 _ rfl _ rfl agg_wide _ (by first | (apply Has.own; (repeat (first | assumption | exact List.mem_cons_self | apply List.mem_cons_of_mem)); done) | (apply Has.read; (repeat (first | assumption | exact List.mem_cons_self | apply List.mem_cons_of_mem)); done)) ?_) | (refine ok_buildz rfl rfl ?_) | (refine w_store hw rfl 24 _ _ rfl _ rfl _ rfl agg_wide _ (by repeat (first | exact At.head _ | apply At.tail)) ?_; clear hw; intro w hw) | (go_at_call 51; refine hlen.call0 hw ?_; clear hw; intro w hw))
    refine ret_ctt rfl rfl rfl rfl agg_wide (hw.rows _ (.head _)) (by simp) rfl ⟨rfl, hw.below⟩

def rerr (n : Int) : Int := if 2 ^ 256 ≤ n then 4 else 0
theorem z256 : (0 : Int) < 2 ^ 256 := pow_pos2 256
end Go.Proofs.Ytcodmeljjphoeaa
