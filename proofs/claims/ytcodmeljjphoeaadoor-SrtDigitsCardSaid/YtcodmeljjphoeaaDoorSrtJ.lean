/-
  Law 11: is what is said of two the document's?
-/
import Derived.Test.YtcodmeljjphoeaaDoorSrtI
import Derived.Test.YtcodmeljjphoeaaDoorSrtG
namespace Go.Proofs.YtcodmeljjphoeaaDoor
open Go.RowKit
set_option exponentiation.threshold 600
set_option linter.unusedVariables false
set_option linter.unusedSimpArgs false

set_option maxRecDepth 100000 in
set_option maxHeartbeats 1000000 in
theorem holds11_none (n d : Int) (hn0 : 0 ≤ n) (hn1 : n < M) (hd0 : 0 ≤ d) (hd1 : d < M) (hmv : mayv n d ≠ 0) : Gives Tryd.prog 8 #[W n, W d, W 0, W 0, .int .i64 (mayv n d)] [] (.bool true) := by
  refine .mk fun w0 w hw => ?_
  have hmay := may11_gives n d hn0 hn1 hd0 hd1
  clear hn0 hn1 hd0 hd1
  generalize mayv n d = er at *
  have hne : (er != 0) = true := by simpa using hmv
  go_enter Tryd.func8, Tryd.ntmps8
  go_wp2_with (first | (refine w_box (H := []) hw rfl 24 _ rfl _ rfl ?_; clear hw; intro k1 w hw) | (refine w_box (H := [_]) hw rfl 24 _ rfl _ rfl ?_; clear hw; intro k2 w hw) | (refine w_box (H := [_, _]) hw rfl 24 _ rfl _ rfl ?_; clear hw; intro k3 w hw) | (refine w_box (H := [_, _, _]) hw rfl 24 _ rfl _ rfl ?_; clear hw; intro k4 w hw) | (refine w_load hw rfl 24 _ rfl _ rfl agg_wide _ (by first | (apply Has.own; (repeat (first | assumption | exact List.mem_cons_self | apply List.mem_cons_of_mem)); done) | (apply Has.read; (repeat (first | assumption | exact List.mem_cons_self | apply List.mem_cons_of_mem)); done)) ?_) | (refine ok_buildz rfl rfl ?_) | (refine w_eql rfl _ _ _ rfl _ _ rfl rfl ?_) | (refine unguard rfl ?_; first | (refine w_load hw rfl 24 _ rfl _ rfl agg_wide _ (by first | (apply Has.own; (repeat (first | assumption | exact List.mem_cons_self | apply List.mem_cons_of_mem)); done) | (apply Has.read; (repeat (first | assumption | exact List.mem_cons_self | apply List.mem_cons_of_mem)); done)) ?_) | (refine ok_buildz rfl rfl ?_) | (refine w_eql rfl _ _ _ rfl _ _ rfl rfl ?_)) | (go_at_call 11; refine hmay.call0 hw ?_; clear hw; intro w hw))
  go_ret
  exact ⟨rfl, hw.below⟩

set_option maxRecDepth 100000 in
set_option maxHeartbeats 1000000 in
theorem holds11_some (n d : Int) (hn0 : 0 ≤ n) (hn1 : n < M) (hd0 : 0 ≤ d) (hd1 : d < M) (hmv : mayv n d = 0) : Gives Tryd.prog 8 #[W n, W d, W (n / d), W (n % d), .int .i64 0] [] (.bool true) := by
  refine .mk fun w0 w hw => ?_
  have hmay := may11_gives n d hn0 hn1 hd0 hd1
  obtain ⟨h1, h2, h3⟩ := mayv_zero hd0 hmv
  have hdiv := divide11_gives n d hn0 hn1 h1 h2 h3
  rw [hmv] at hmay
  clear hn0 hn1 hd0 hd1 h1 h2 h3 hmv
  generalize n / d = Q at *
  generalize n % d = r at *
  go_enter Tryd.func8, Tryd.ntmps8
  go_wp2_with (first | (refine w_box (H := []) hw rfl 24 _ rfl _ rfl ?_; clear hw; intro k1 w hw) | (refine w_box (H := [_]) hw rfl 24 _ rfl _ rfl ?_; clear hw; intro k2 w hw) | (refine w_box (H := [_, _]) hw rfl 24 _ rfl _ rfl ?_; clear hw; intro k3 w hw) | (refine w_box (H := [_, _, _]) hw rfl 24 _ rfl _ rfl ?_; clear hw; intro k4 w hw) | (refine ok_alloc (H := []) hw rfl 24 rfl _ zero_wide ?_; clear hw; intro k1 w hw) | (refine ok_alloc (H := [_]) hw rfl 24 rfl _ zero_wide ?_; clear hw; intro k2 w hw) | (refine ok_alloc (H := [_, _]) hw rfl 24 rfl _ zero_wide ?_; clear hw; intro k3 w hw) | (refine ok_alloc (H := [_, _, _]) hw rfl 24 rfl _ zero_wide ?_; clear hw; intro k4 w hw) | (refine ok_alloc (H := [_, _, _, _]) hw rfl 24 rfl _ zero_wide ?_; clear hw; intro k5 w hw) | (refine ok_alloc (H := [_, _, _, _, _]) hw rfl 24 rfl _ zero_wide ?_; clear hw; intro k6 w hw) | (refine w_load hw rfl 24 _ rfl _ rfl agg_wide _ (by first | (apply Has.own; (repeat (first | assumption | exact List.mem_cons_self | apply List.mem_cons_of_mem)); done) | (apply Has.read; (repeat (first | assumption | exact List.mem_cons_self | apply List.mem_cons_of_mem)); done)) ?_) | (refine w_store hw rfl 24 _ _ rfl _ rfl _ rfl agg_wide _ (by repeat (first | exact At.head _ | apply At.tail)) ?_; clear hw; intro w hw) | (refine ok_buildz rfl rfl ?_) | (refine w_eql rfl _ _ _ rfl _ _ rfl rfl ?_) | (refine unguard rfl ?_; first | (refine w_load hw rfl 24 _ rfl _ rfl agg_wide _ (by first | (apply Has.own; (repeat (first | assumption | exact List.mem_cons_self | apply List.mem_cons_of_mem)); done) | (apply Has.read; (repeat (first | assumption | exact List.mem_cons_self | apply List.mem_cons_of_mem)); done)) ?_) | (refine ok_buildz rfl rfl ?_) | (refine w_eql rfl _ _ _ rfl _ _ rfl rfl ?_)) | (go_at_call 11; refine hmay.call0 hw ?_; clear hw; intro w hw) | (go_at_call 35; refine hdiv.call0 hw ?_; clear hw; intro w hw))
  go_ret
  exact ⟨rfl, hw.below⟩

theorem mayv_awake : mayv 100 7 = 0 := by
  unfold mayv
  rw [if_neg (by omega), if_neg (by rw [e120, e128]; omega)]

set_option maxRecDepth 100000 in
set_option maxHeartbeats 1000000 in
theorem awake15_gives : Gives Tryd.prog 9 #[] TR (.bool true) := by
  refine .mk fun w0 w hw => ?_
  have h100 : (100 : Int) < M := Int.lt_trans (show (100 : Int) < 2 ^ 7 by decide) (pow_in (by omega))
  have h7 : (7 : Int) < M := by omega
  have hdv := sdivide_some 100 7 (by omega) h100 (by omega) h7 mayv_awake
  rw [show (100 : Int) / 7 = 14 by rfl, show (100 : Int) % 7 = 2 by rfl] at hdv
  have hd := fun H w hw => sdigits_calls 100 7 (by omega) h100 (by omega) h7 Non w0 w H TR sub_all hw
  rw [mayv_awake] at hd
  have e1 : sdigits 100 7 = scells (100 * 2 ^ sby 7) (7 * 2 ^ sby 7) 65 := by unfold sdigits; rw [if_pos mayv_awake]
  rw [e1] at hd
  have e3 := Lib.hid (length_scells (100 * 2 ^ sby 7) (7 * 2 ^ sby 7) 65)
  clear e1 h100 h7
  generalize scells (100 * 2 ^ sby 7) (7 * 2 ^ sby 7) 65 = ds at *
  go_enter Tryd.func9, Tryd.ntmps9
  go_wp2_with (first | (refine ok_alloc (H := []) hw rfl 24 rfl _ zero_wide ?_; clear hw; intro k1 w hw) | (refine ok_alloc (H := [_]) hw rfl 24 rfl _ zero_wide ?_; clear hw; intro k2 w hw) | (refine w_load hw rfl 24 _ rfl _ rfl agg_wide _ (by first | (apply Has.own; (repeat (first | assumption | exact List.mem_cons_self | apply List.mem_cons_of_mem)); done) | (apply Has.read; (repeat (first | assumption | exact List.mem_cons_self | apply List.mem_cons_of_mem)); done)) ?_) | (refine w_store hw rfl 24 _ _ rfl _ rfl _ rfl agg_wide _ (by repeat (first | exact At.head _ | apply At.tail)) ?_; clear hw; intro w hw) | (refine w_eql rfl _ _ _ rfl _ _ rfl rfl ?_) | (refine ok_buildw rfl _ rfl _ rfl (by omega) (by omega) ?_) | (refine unguard rfl ?_; first | (refine w_load hw rfl 24 _ rfl _ rfl agg_wide _ (by first | (apply Has.own; (repeat (first | assumption | exact List.mem_cons_self | apply List.mem_cons_of_mem)); done) | (apply Has.read; (repeat (first | assumption | exact List.mem_cons_self | apply List.mem_cons_of_mem)); done)) ?_) | (refine ok_buildw rfl _ rfl _ rfl (by omega) (by omega) ?_) | (refine w_eql rfl _ _ _ rfl _ _ rfl rfl ?_)) | (go_at_call 7; refine hdv.of hw sub_all ?_; clear hw; intro w hw) | (go_at_call 10; refine (hd _ _ hw).mono ?_; rintro e w ⟨v, T, hl, rfl, hw'⟩; clear hw; have hw := Ok.freeze (T := T) hw'; clear hw'; obtain ⟨p, c, rfl⟩ := hl.slice; rw [e3.out]))
  go_ret
  exact ⟨rfl, hw.below⟩

set_option maxRecDepth 100000 in
set_option maxHeartbeats 1000000 in
theorem law_divides (n d : Int) (hn0 : 0 ≤ n) (hn1 : n < M) (hd0 : 0 ≤ d) (hd1 : d < M) : Gives Tryd.prog 3 #[W n, W d] TR (.bool true) := by
  obtain ⟨q, r, e, h1, h2⟩ : ∃ q r e, Gives Tryd.prog 7 #[W n, W d] TR (.tuple #[W q, W r, .int .i64 e]) ∧ Gives Tryd.prog 8 #[W n, W d, W q, W r, .int .i64 e] [] (.bool true) := by
    by_cases hmv : mayv n d = 0
    · exact ⟨_, _, _, sdivide_some n d hn0 hn1 hd0 hd1 hmv, holds11_some n d hn0 hn1 hd0 hd1 hmv⟩
    · exact ⟨_, _, _, sdivide_none n d hn0 hn1 hd0 hd1 hmv, holds11_none n d hn0 hn1 hd0 hd1 hmv⟩
  clear hn0 hn1 hd0 hd1
  refine .mk fun w0 w hw => ?_
  go_enter Tryd.func3, Tryd.ntmps3
  go_wp2_with (first | (refine w_box (H := []) hw rfl 24 _ rfl _ rfl ?_; clear hw; intro k1 w hw) | (refine w_box (H := [_]) hw rfl 24 _ rfl _ rfl ?_; clear hw; intro k2 w hw) | (refine ok_alloc (H := []) hw rfl 24 rfl _ zero_wide ?_; clear hw; intro k1 w hw) | (refine ok_alloc (H := [_]) hw rfl 24 rfl _ zero_wide ?_; clear hw; intro k2 w hw) | (refine ok_alloc (H := [_, _]) hw rfl 24 rfl _ zero_wide ?_; clear hw; intro k3 w hw) | (refine ok_alloc (H := [_, _, _]) hw rfl 24 rfl _ zero_wide ?_; clear hw; intro k4 w hw) | (refine w_load hw rfl 24 _ rfl _ rfl agg_wide _ (by first | (apply Has.own; (repeat (first | assumption | exact List.mem_cons_self | apply List.mem_cons_of_mem)); done) | (apply Has.read; (repeat (first | assumption | exact List.mem_cons_self | apply List.mem_cons_of_mem)); done)) ?_) | (refine w_store hw rfl 24 _ _ rfl _ rfl _ rfl agg_wide _ (by repeat (first | exact At.head _ | apply At.tail)) ?_; clear hw; intro w hw) | (go_at_call 7; refine h1.of hw sub_all ?_; clear hw; intro w hw) | (go_at_call 8; refine h2.call0 hw ?_; clear hw; intro w hw) | (go_at_call 9; refine awake15_gives.of hw sub_all ?_; clear hw; intro w hw))
  go_ret
  exact ⟨rfl, hw.below⟩
end Go.Proofs.YtcodmeljjphoeaaDoor
