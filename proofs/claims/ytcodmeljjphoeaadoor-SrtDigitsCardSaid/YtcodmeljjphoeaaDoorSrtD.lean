/-
  Layer 15: a quotient's digits; what is left behind some steps.
-/
import Derived.Test.YtcodmeljjphoeaaDoorSrtC
import Derived.Test.YtcodmeljjphoeaaDoorPairs
namespace Go.Proofs.YtcodmeljjphoeaaDoor
open Go.RowKit
set_option exponentiation.threshold 600
set_option linter.unusedVariables false
set_option linter.unusedSimpArgs false

theorem one_ints : One Tryd.prog 31 := .mk _ Tryd.underlying31 rfl (by kernel_rfl)
theorem zero_ints : Zero Tryd.prog 31 #[.slice none 0 0] := ⟨.slice none 0 0, by kernel_rfl, rfl⟩
theorem elem_int : Elem Tryd.prog 3 := elem_of (by kernel_rfl)
theorem zero_int' : ((Tryd.prog.info? 3).bind (·.zero)).isSome = true := by kernel_rfl
theorem body_sdigits1 : HasBody Tryd.prog 36 := ⟨_, Tryd.func36, by kernel_rfl, by kernel_rfl⟩
theorem body_sleft1 : HasBody Tryd.prog 42 := ⟨_, Tryd.func42, by kernel_rfl, by kernel_rfl⟩

/-- So many digits, as cells. -/
def scells (X D : Int) (j : Nat) : List Value := (List.range j).map fun i => .int .i64 (sd X D i)
theorem scells_succ (X D : Int) (j : Nat) : scells X D (j + 1) = scells X D j ++ [.int .i64 (sd X D j)] := by
  unfold scells; rw [List.range_succ, List.map_append]; rfl
theorem length_scells (X D : Int) (j : Nat) : (scells X D j).length = j := by simp [scells]
def SDKeep (X D : Int) (kc j : Nat) (T : List (Nat × Array Value)) : Prop := ∃ v Tl, T = (kc, #[v]) :: Tl ∧ Lst Tl v (scells X D j)

theorem stp_get1 (p d l : Int) : (stp p d l)[1]? = some (.int .i64 d) := rfl
theorem stp_get0 (p d l : Int) : (stp p d l)[0]? = some (.int .i64 p) := rfl
theorem stp_left (p d l : Int) : (stp p d l).extract 2 (2 + 8) = limbs 8 l := by
  unfold stp
  exact extract_snd _ _ 2 8 rfl (by simp)

set_option maxRecDepth 10000 in
theorem sdigits1_step (X D : Int) (kc j : Nat) (p l : Int) (hj : j < 65) : StepD 36 #[.pointer (some ⟨kc, 0, none⟩)] #[.agg (stp p (sd X D j) l)] (SDKeep X D kc j) (SDKeep X D kc (j + 1)) true := by
  intro S w0 w T H R hI hw
  obtain ⟨v, Tl, rfl, hl⟩ := hI
  have hv1 := hl.one
  have hlen := length_scells X D j
  have hsucc := Lib.hid (scells_succ X D j)
  obtain ⟨d, hd⟩ : ∃ d, d = sd X D j := ⟨_, rfl⟩
  rw [← hd]
  have Hd := Lib.hid hd
  clear hd
  show Calls _ _ #[.agg (stp p d l), .pointer (some ⟨kc, 0, none⟩)] _ _
  simp only [List.cons_append] at hw
  go_enter Tryd.func36, Tryd.ntmps36
  go_wp2_with (first | (refine ok_box (H := ((_ :: (Tl ++ H)))) hw rfl 66 _ rfl _ rfl ?_; clear hw; intro k1 w hw) | (refine ok_load_one hw rfl 31 _ rfl _ rfl one_ints _ (by first | (apply Has.own; (repeat (first | assumption | exact List.mem_cons_self | apply List.mem_cons_of_mem)); done) | (apply Has.read; (repeat (first | assumption | exact List.mem_cons_self | apply List.mem_cons_of_mem)); done)) ?_) | (refine ok_load_cell hw rfl 3 _ rfl k1 1 rfl one_int (stp p d l) (Has.own (List.Mem.head _)) (.int .i64 d) (stp_get1 p d l) ?_) | (refine ok_build1 (H := (_ :: _ :: (Tl ++ H))) hw rfl _ _ _ rfl Tryd.underlying31 one_int zero_int' _ _ rfl ?_; clear hw; intro k2 w hw) | (refine ok_append (Ok.front [_, _, _] Tl H hw) rfl _ _ _ rfl _ Tryd.underlying31 elem_int _ rfl _ hl _ _ _ rfl _ (by apply Has.own; (repeat (first | exact List.mem_cons_self | apply List.mem_cons_of_mem | exact List.mem_append_right _ (List.mem_cons_self)))) rfl (by simp [Value.oneCell']) (by rw [hlen]; omega) ?_; clear hw; intro w T' v' hl' hw'; have hw := Ok.front T' [_, _, _] H hw'; clear hw'; have hv2 := hl'.one) | (refine ok_store_one hw rfl _ _ _ rfl _ rfl _ rfl one_ints _ (.tail _ (.tail _ (.head _))) hv2 ?_; clear hw; intro w hw))
  go_ret
  have hw2 : Ok S w0 w ((k2, #[.int .i64 d]) :: (k1, stp p d l) :: (((kc, #[v']) :: T') ++ H)) R := hw
  refine ⟨rfl, (kc, #[v']) :: T', ⟨v', T', rfl, ?_⟩, ?_⟩
  · rw [hsucc.out, ← Hd.out]; exact hl'
  · exact hw2.sub (List.Sublist.cons _ (List.Sublist.cons _ (List.Sublist.refl _))) (fun q h => h)

/-- A quotient's digits, an error's number. -/
def sdigits (n d : Int) : List Value := if mayv n d = 0 then scells (n * 2 ^ sby d) (d * 2 ^ sby d) 65 else []

/-- What may be divided, shifted up. -/
theorem may_up {n d : Int} (hn : 0 ≤ n) (hd : 0 ≤ d) (h : mayv n d = 0) : 0 < d ∧ d < 2 ^ 120 ∧ 2 ^ 127 ≤ d * 2 ^ sby d ∧ d * 2 ^ sby d < 2 ^ 128 ∧ 0 ≤ n * 2 ^ sby d ∧ n * 2 ^ sby d < d * 2 ^ sby d * 2 ^ 128 := by
  obtain ⟨h0, h1, h2⟩ := mayv_zero hd h
  obtain ⟨a, b, _, _⟩ := sby_bds h0 h1
  have hp := pow_pos2 (sby d)
  refine ⟨h0, h1, a, b, Int.mul_nonneg hn (by omega), ?_⟩
  have := Int.mul_lt_mul_of_pos_right h2 hp
  rw [show d * 2 ^ sby d * 2 ^ 128 = d * 2 ^ 128 * 2 ^ sby d by grind]
  exact this

set_option maxRecDepth 100000 in
set_option maxHeartbeats 400000 in
theorem sdigits_calls (n d : Int) (hn0 : 0 ≤ n) (hn1 : n < M) (hd0 : 0 ≤ d) (hd1 : d < M) (S : Nat → Prop) (w0 w : World) (H R : List (Nat × Array Value)) (hR : ∀ p ∈ TR, p ∈ R) (hw : Ok S w0 w H R) :
    Calls Tryd.prog 10 #[W n, W d] w fun e w' => ∃ v T, Lst T v (sdigits n d) ∧ e = .returned (.tuple #[v, .int .i64 (mayv n d)]) ∧ Ok S w0 w' (T ++ H) R := by
  have hmay := may_gives n d hn0 hn1 hd0 hd1
  by_cases hm : mayv n d = 0
  · have hu := may_up hn0 hd0 hm
    have e1 : sdigits n d = scells (n * 2 ^ sby d) (d * 2 ^ sby d) 65 := by unfold sdigits; rw [if_pos hm]
    have hsh := shifted_gives n d hu.1 hu.2.1
    have hup := hu.2.2
    rw [e1, hm]
    rw [hm] at hmay
    clear hm e1 hu hn0 hn1 hd0 hd1
    generalize n * 2 ^ sby d = X at *
    generalize d * 2 ^ sby d = D at *
    generalize sby d = b at *
    have HR := Lib.hid hR
    clear hR
    go_enter Tryd.func10, Tryd.ntmps10
    go_wp2_with (first | (refine w_box (H := (H)) hw rfl 24 _ rfl _ rfl ?_; clear hw; intro k1 w hw) | (refine w_box (H := (_ :: H)) hw rfl 24 _ rfl _ rfl ?_; clear hw; intro k2 w hw) | (refine ok_alloc (H := (H)) hw rfl 31 rfl _ zero_ints ?_; clear hw; intro k1 w hw) | (refine ok_alloc (H := (_ :: H)) hw rfl 31 rfl _ zero_ints ?_; clear hw; intro k2 w hw) | (refine ok_alloc (H := (_ :: _ :: H)) hw rfl 31 rfl _ zero_ints ?_; clear hw; intro k3 w hw) | (refine w_load hw rfl 24 _ rfl _ rfl agg_wide _ (by first | (apply Has.own; (repeat (first | assumption | exact List.mem_cons_self | apply List.mem_cons_of_mem)); done) | (apply Has.read; (repeat (first | assumption | exact List.mem_cons_self | apply List.mem_cons_of_mem)); done)) ?_) | (refine w_store hw rfl 24 _ _ rfl _ rfl _ rfl agg_wide _ (by repeat (first | exact At.head _ | apply At.tail)) ?_; clear hw; intro w hw) | (go_at_call 21; refine hmay.call0 hw ?_; clear hw; intro w hw) | (go_at_call 27; refine hsh.call0 hw ?_; clear hw; intro w hw) | (go_at_call 29; (refine (srun_calls X D hup.1 hup.2.1 hup.2.2.1 hup.2.2.2 36 body_sdigits1 #[.pointer (some ⟨k3, 0, none⟩)] (SDKeep X D k3) 65 (by omega) (fun j hj => sdigits1_step X D k3 j _ _ hj) (fun h => by omega) S w0 _ [(k3, #[.slice none 0 0])] ((k2, limbs 8 D) :: (k1, limbs 8 X) :: H) R ⟨_, _, rfl, .nil⟩ HR.out hw).mono ?_; rintro e w ⟨rfl, T', ⟨v, Tl, rfl, hl⟩, hw'⟩; clear hw; simp only [List.cons_append] at hw'; have hw := hw'; clear hw')) | (refine ok_load_one hw rfl 31 _ rfl _ rfl one_ints _ (.own (.head _)) ?_))
    go_ret2
    exact ⟨v, Tl, hl, rfl, hw.sub (List.Sublist.cons _ (List.Sublist.append (List.Sublist.refl Tl) (List.Sublist.cons _ (List.Sublist.cons _ (List.Sublist.refl _))))) (fun q h => h)⟩
  · have e1 : sdigits n d = [] := by unfold sdigits; rw [if_neg hm]
    rw [e1]
    clear e1 hR hn0 hn1 hd0 hd1
    generalize mayv n d = er at *
    have hne : (er != 0) = true := by simpa using hm
    go_enter Tryd.func10, Tryd.ntmps10
    go_wp2_with (first | (refine w_box (H := (H)) hw rfl 24 _ rfl _ rfl ?_; clear hw; intro k1 w hw) | (refine w_box (H := (_ :: H)) hw rfl 24 _ rfl _ rfl ?_; clear hw; intro k2 w hw) | (refine w_load hw rfl 24 _ rfl _ rfl agg_wide _ (by first | (apply Has.own; (repeat (first | assumption | exact List.mem_cons_self | apply List.mem_cons_of_mem)); done) | (apply Has.read; (repeat (first | assumption | exact List.mem_cons_self | apply List.mem_cons_of_mem)); done)) ?_) | (go_at_call 21; refine hmay.call0 hw ?_; clear hw; intro w hw))
    go_ret2
    exact ⟨_, [], .nil, rfl, hw.sub (List.Sublist.cons _ (List.Sublist.cons _ (List.Sublist.refl _))) (fun q h => h)⟩
end Go.Proofs.YtcodmeljjphoeaaDoor
