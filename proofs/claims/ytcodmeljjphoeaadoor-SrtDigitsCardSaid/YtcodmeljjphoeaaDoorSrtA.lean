/-
  Layer 14's table of quotients' digits; layer 15's small functions.
-/
import Derived.Test.YtcodmeljjphoeaaDoorPairs
import Derived.Test.YtcodmeljjphoeaaDoorSrtLaw
import Derived.Test.YtcodmeljjphoeaaDoorWideS
import Derived.Test.YtcodmeljjphoeaaDoorBigA
namespace Go.Proofs.YtcodmeljjphoeaaDoor
open Go.RowKit
set_option exponentiation.threshold 600
set_option linter.unusedVariables false
set_option linter.unusedSimpArgs false

/-- The table, as its row. -/
def tcells : Array Value := #[.int .i64 12, .int .i64 3, .int .i64 (-5), .int .i64 (-13), .int .i64 14, .int .i64 4, .int .i64 (-6), .int .i64 (-15), .int .i64 15, .int .i64 4, .int .i64 (-6), .int .i64 (-16), .int .i64 16, .int .i64 4, .int .i64 (-7), .int .i64 (-18),
  .int .i64 18, .int .i64 5, .int .i64 (-8), .int .i64 (-20), .int .i64 19, .int .i64 5, .int .i64 (-8), .int .i64 (-21), .int .i64 20, .int .i64 5, .int .i64 (-9), .int .i64 (-23), .int .i64 22, .int .i64 6, .int .i64 (-10), .int .i64 (-25)]
theorem tcells_row (j : Nat) (h : j < 8) : tcells.extract (4 * j) (4 * j + 4) = ints4 (tb (8 + (j : Int))) := by
  have : j = 0 ∨ j = 1 ∨ j = 2 ∨ j = 3 ∨ j = 4 ∨ j = 5 ∨ j = 6 ∨ j = 7 := by omega
  rcases this with rfl | rfl | rfl | rfl | rfl | rfl | rfl | rfl <;> rfl
/-- The table's variable. -/
def TR : List (Nat × Array Value) := [(0, tcells)]

theorem ok_load_part {P : Program} {ops : Array Oper} {Q : Exit → Act → World → Prop} {rest : List Oper} {o : Oper} {a : Act} {S : Nat → Prop} {w0 w : World} {H R : List (Nat × Array Value)}
    (h : Ok S w0 w H R) (hgd : o.guard = none) (t : TypeId) (x : Operand) (ho : o.op = .load t x) (k off : Nat) (hx : a.eval x = .pointer (some ⟨k, off, none⟩)) (n : Nat) (hg : Agg P t n) (cs : Array Value) (hm : Has H R k cs) (hn : off + n ≤ cs.size) (ds : Array Value) (hd : cs.extract off (off + n) = ds)
    (hk : wpList P ops Q rest (a.put o.dst (.agg ds)) w) : wpList P ops Q (o :: rest) a w :=
  wpL_value hgd (run_load_part ho (h.has hm) hx hg hn) (by rw [hd]; exact hk)

set_option maxRecDepth 10000 in
theorem bounds_gives (j : Nat) (h : j < 8) : Gives Tryd.prog 81 #[.int .i64 (8 + (j : Int))] TR (.tuple #[.agg (ints4 (tb (8 + (j : Int)))), .bool true]) := by
  refine .mk fun w0 w hw => ?_
  have ht := Lib.hid (show ∀ off, off = 4 * j → tcells.extract off (off + 4) = ints4 (tb (8 + (j : Int))) from fun off e => by rw [e]; exact tcells_row j h)
  have hsz : tcells.size = 32 := rfl
  have Hsz := Lib.hid hsz
  clear hsz
  generalize tb (8 + (j : Int)) = b at *
  go_enter Tryd.func81, Tryd.ntmps81
  go_wp2_with (first | (refine ok_alloc (H := []) hw rfl 76 rfl _ zero_ints4 ?_; clear hw; intro k1 w hw) | (refine ok_store hw rfl 76 _ _ rfl _ rfl _ rfl _ agg_ints4 _ (by repeat (first | exact At.head _ | apply At.tail)) (by simp) (by simp) (ones_ints4 _) ?_; clear hw; intro w hw) | (refine ok_load_part hw rfl 76 _ rfl 0 _ rfl 4 agg_ints4 tcells (.inr (.head _)) (by rw [Hsz.out]; omega) _ (ht.out _ (by omega)) ?_))
  refine ret_ct rfl rfl rfl agg_ints4 (hw.rows _ (.head _)) (by simp [size_ints4]) rfl ⟨rfl, hw.below⟩

set_option maxRecDepth 10000 in
theorem digit_table (r y : Int) (h : 8 ≤ r ∧ r ≤ 15) : Gives Tryd.prog 63 #[.int .i64 r, .int .i64 y] TR (.tuple #[.int .i64 (pickv (tb r) y), .bool true]) := by
  refine .mk fun w0 w hw => ?_
  obtain ⟨j, hj, rfl⟩ : ∃ j : Nat, j < 8 ∧ r = 8 + (j : Int) := ⟨(r - 8).toNat, by omega, by omega⟩
  have hb := bounds_gives j hj
  have hp := pick_gives (tb (8 + (j : Int))) y
  generalize tb (8 + (j : Int)) = b at *
  go_enter Tryd.func63, Tryd.ntmps63
  go_wp2_with (first | (refine ok_alloc (H := []) hw rfl 76 rfl _ zero_ints4 ?_; clear hw; intro k1 w hw) | (refine ok_load hw rfl 76 _ rfl _ rfl _ agg_ints4 _ (by first | (apply Has.own; (repeat (first | assumption | exact List.mem_cons_self | apply List.mem_cons_of_mem)); done) | (apply Has.read; (repeat (first | assumption | exact List.mem_cons_self | apply List.mem_cons_of_mem)); done)) (by simp) ?_) | (refine ok_store hw rfl 76 _ _ rfl _ rfl _ rfl _ agg_ints4 _ (by repeat (first | exact At.head _ | apply At.tail)) (by simp) (by simp) (ones_ints4 _) ?_; clear hw; intro w hw) | (go_at_call 81; refine hb.of hw (fun p hp => hp) ?_; clear hw; intro w hw) | (go_at_call 82; refine hp.call0 hw ?_; clear hw; intro w hw))
  go_ret2
  exact ⟨rfl, hw.below⟩

set_option maxRecDepth 10000 in
theorem row_gives (D : Int) (h0 : 2 ^ 127 ≤ D) (h1 : D < 2 ^ 128) : Gives Tryd.prog 60 #[W D] [] (.tuple #[.int .i64 (D / 2 ^ 124), .bool true]) := by
  refine .mk fun w0 w hw => ?_
  have hbd := (row_bd h0 h1).1
  have hbl : blen D = 128 := blen_eq (n := 127) h0 h1
  have h128 := pow_in (show 128 < 512 by omega)
  have hp := pow_pos2 127
  have hlen := len_gives D (by omega) (by omega)
  have hsh := shl_gives D 384
  rw [show (clampv 384).toNat = 384 by rfl] at hsh
  have hM : D * 2 ^ 384 < M := by
    have := Int.mul_lt_mul_of_pos_right h1 (pow_pos2 384)
    rw [← Int.pow_add] at this
    exact this
  have hsr := shr_gives (D * 2 ^ 384) 508 (Int.mul_nonneg (by omega) (by have := pow_pos2 384; omega)) hM (by omega)
  rw [show (508 : Int).toNat = 508 from rfl, mul_pow_ediv' D 384 508 (by omega)] at hsr
  rw [hbl] at hlen
  have hl := lim_self' (n := D / 2 ^ 124) (by omega) (by omega)
  have Hl := Lib.hid (show (limbs 8 (D / 2 ^ 124))[0]? = some (.int .u64 (D / 2 ^ 124)) by rw [limbs_get _ (by omega), hl])
  have hw2 : wrap64 (D / 2 ^ 124) = D / 2 ^ 124 := by unfold wrap64; omega
  clear hl hM hbl h0 h1 hp h128
  generalize (!decide (D / 2 ^ 124 * 2 ^ 508 % M = D * 2 ^ 384 % M)) = lost at *
  generalize D * 2 ^ 384 = X at *
  generalize D / 2 ^ 124 = r at *
  go_enter Tryd.func60, Tryd.ntmps60
  go_wp2_with (first | (refine w_box (H := []) hw rfl 24 _ rfl _ rfl ?_; clear hw; intro k1 w hw) | (refine ok_alloc (H := []) hw rfl 24 rfl _ zero_wide ?_; clear hw; intro k1 w hw) | (refine ok_alloc (H := [_]) hw rfl 24 rfl _ zero_wide ?_; clear hw; intro k2 w hw) | (refine w_load hw rfl 24 _ rfl _ rfl agg_wide _ (by first | (apply Has.own; (repeat (first | assumption | exact List.mem_cons_self | apply List.mem_cons_of_mem)); done) | (apply Has.read; (repeat (first | assumption | exact List.mem_cons_self | apply List.mem_cons_of_mem)); done)) ?_) | (refine w_store hw rfl 24 _ _ rfl _ rfl _ rfl agg_wide _ (by repeat (first | exact At.head _ | apply At.tail)) ?_; clear hw; intro w hw) | (go_at_call 44; refine hlen.call0 hw ?_; clear hw; intro w hw) | (go_at_call 45; refine hsh.call0 hw ?_; clear hw; intro w hw) | (go_at_call 34; refine hsr.call0 hw ?_; clear hw; intro w hw) | (refine ok_load_cell hw rfl 22 _ rfl _ _ rfl one_u64 _ (Has.own (.head _)) _ Hl.out ?_))
  go_ret2
  exact ⟨by rw [← hw2]; go_num, hw.below⟩

theorem srtsmall_gives (v : Int) (h0 : -9223372036854775808 ≤ v) (h1 : v ≤ 9223372036854775807) : Gives Tryd.prog 61 #[W v] [] (.int .i64 v) := by
  refine .mk fun w0 w hw => ?_
  go_enter Tryd.func61, Tryd.ntmps61
  go_wp2_with (first | (refine w_box (H := []) hw rfl 24 _ rfl _ rfl ?_; clear hw; intro k1 w hw) | (refine ok_load_cell hw rfl 22 _ rfl _ _ rfl one_u64 _ (Has.own (.head _)) _ (limbs_get (i := 0) _ (by omega)) ?_))
  go_ret
  refine ⟨?_, hw.below⟩
  have e : wrap64 (lim v 0) = v := by rw [lim_low]; unfold wrap64; omega
  exact congrArg (fun x => Ending.returned (Value.int .i64 x)) e

set_option maxRecDepth 10000 in
theorem srttimes_gives (a n : Int) (h0 : 0 ≤ a) (h1 : a < M) (hn : -1000 ≤ n ∧ n ≤ 1000) : Gives Tryd.prog 64 #[W a, .int .i64 n] [] (W (a * n)) := by
  refine .mk fun w0 w hw => ?_
  have hs := small_gives a (max n (-n)) h0 h1 (by omega) (by omega)
  by_cases h : n < 0
  · have hg := neg_gives (a * max n (-n))
    rw [show -(a * max n (-n)) = a * n by rw [show max n (-n) = -n by omega]; grind] at hg
    go_enter Tryd.func64, Tryd.ntmps64
    go_wp2_with (first | (refine w_box (H := []) hw rfl 24 _ rfl _ rfl ?_; clear hw; intro k1 w hw) | (refine ok_alloc (H := []) hw rfl 24 rfl _ zero_wide ?_; clear hw; intro k1 w hw) | (refine ok_alloc (H := [_]) hw rfl 24 rfl _ zero_wide ?_; clear hw; intro k2 w hw) | (refine ok_alloc (H := [_, _]) hw rfl 24 rfl _ zero_wide ?_; clear hw; intro k3 w hw) | (refine w_load hw rfl 24 _ rfl _ rfl agg_wide _ (by first | (apply Has.own; (repeat (first | assumption | exact List.mem_cons_self | apply List.mem_cons_of_mem)); done) | (apply Has.read; (repeat (first | assumption | exact List.mem_cons_self | apply List.mem_cons_of_mem)); done)) ?_) | (refine w_store hw rfl 24 _ _ rfl _ rfl _ rfl agg_wide _ (by repeat (first | exact At.head _ | apply At.tail)) ?_; clear hw; intro w hw) | (go_at_call 83; refine hs.call0 hw ?_; clear hw; intro w hw) | (go_at_call 43; refine hg.call0 hw ?_; clear hw; intro w hw))
    refine ret_c rfl rfl agg_wide (hw.rows _ (.tail _ (.head _))) (by simp) rfl ⟨rfl, hw.below⟩
  · go_enter Tryd.func64, Tryd.ntmps64
    go_wp2_with (first | (refine w_box (H := []) hw rfl 24 _ rfl _ rfl ?_; clear hw; intro k1 w hw) | (refine ok_alloc (H := []) hw rfl 24 rfl _ zero_wide ?_; clear hw; intro k1 w hw) | (refine ok_alloc (H := [_]) hw rfl 24 rfl _ zero_wide ?_; clear hw; intro k2 w hw) | (refine ok_alloc (H := [_, _]) hw rfl 24 rfl _ zero_wide ?_; clear hw; intro k3 w hw) | (refine w_load hw rfl 24 _ rfl _ rfl agg_wide _ (by first | (apply Has.own; (repeat (first | assumption | exact List.mem_cons_self | apply List.mem_cons_of_mem)); done) | (apply Has.read; (repeat (first | assumption | exact List.mem_cons_self | apply List.mem_cons_of_mem)); done)) ?_) | (refine w_store hw rfl 24 _ _ rfl _ rfl _ rfl agg_wide _ (by repeat (first | exact At.head _ | apply At.tail)) ?_; clear hw; intro w hw) | (go_at_call 83; refine hs.call0 hw ?_; clear hw; intro w hw))
    refine ret_c rfl rfl agg_wide (hw.rows _ (.tail _ (.head _))) (by simp) rfl ⟨by rw [show max n (-n) = n by omega]; rfl, hw.below⟩
end Go.Proofs.YtcodmeljjphoeaaDoor
