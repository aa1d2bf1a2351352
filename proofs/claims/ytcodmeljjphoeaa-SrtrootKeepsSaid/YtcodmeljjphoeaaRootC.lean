/-
  Layer 16: shifted up; the digits.
-/
import Derived.Test.YtcodmeljjphoeaaRootB
import Derived.Test.YtcodmeljjphoeaaList
namespace Go.Proofs.Ytcodmeljjphoeaa
open Go.RowKit
set_option linter.unusedVariables false
set_option linter.unusedSimpArgs false

theorem one_ints : One Try.prog 25 := .mk _ Try.underlying25 rfl (by kernel_rfl)
theorem zero_ints : Zero Try.prog 25 #[.slice none 0 0] := ⟨.slice none 0 0, by kernel_rfl, rfl⟩
theorem elem_int : Elem Try.prog 3 := elem_of (by kernel_rfl)
theorem zero_int' : ((Try.prog.info? 3).bind (·.zero)).isSome = true := by kernel_rfl
theorem body_digits1 : HasBody Try.prog 41 := ⟨_, Try.func41, by kernel_rfl, by kernel_rfl⟩

theorem Lst.one {T : List (Nat × Array Value)} {v : Value} {xs : List Value} (h : Lst T v xs) : v.oneCell' = true := by cases h <;> rfl

/-- So many digits, as cells. -/
def dcells (N : Int) (j : Nat) : List Value := (List.range j).map fun i => .int .i64 (rd N i)
theorem dcells_succ (N : Int) (j : Nat) : dcells N (j + 1) = dcells N j ++ [.int .i64 (rd N j)] := by
  unfold dcells; rw [List.range_succ, List.map_append]; rfl
/-- What the digits' function keeps. -/
def DKeep (N : Int) (kc j : Nat) (T : List (Nat × Array Value)) : Prop := ∃ v Tl, T = (kc, #[v]) :: Tl ∧ Lst Tl v (dcells N j)

set_option maxRecDepth 10000 in
theorem digits1_step (N : Int) (kc j : Nat) (f : Value) (p l : Int) (hj : j < 64) : StepC 41 #[.pointer (some ⟨kc, 0, none⟩)] #[.int .i64 j, .int .i64 (rd N j), .agg (two p l)] (DKeep N kc j) (DKeep N kc (j + 1)) true := by
  intro S w0 w T H R hI hw
  obtain ⟨v, Tl, rfl, hl⟩ := hI
  have hv1 := hl.one
  have hlen : (dcells N j).length = j := by simp [dcells]
  have hsucc := Lib.hid (dcells_succ N j)
  obtain ⟨d, hd⟩ : ∃ d, d = rd N j := ⟨_, rfl⟩
  rw [← hd]
  have Hd := Lib.hid hd
  clear hd
  show Calls _ _ #[.int .i64 j, .int .i64 d, .agg (two p l), .pointer (some ⟨kc, 0, none⟩)] _ _
  simp only [List.cons_append] at hw
  go_enter Try.func41, Try.ntmps41
  go_wp2_with (first | (refine ok_box (H := ((_ :: (Tl ++ H)))) hw rfl 65 _ rfl _ rfl ?_; clear hw; intro k1 w hw) | (refine ok_load_one hw rfl 25 _ rfl _ rfl one_ints _ (by first | (apply Has.own; (repeat (first | assumption | exact List.mem_cons_self | apply List.mem_cons_of_mem)); done) | (apply Has.read; (repeat (first | assumption | exact List.mem_cons_self | apply List.mem_cons_of_mem)); done)) ?_) | (refine ok_build1 (H := (_ :: _ :: (Tl ++ H))) hw rfl _ _ _ rfl Try.underlying25 one_int zero_int' _ _ rfl ?_; clear hw; intro k2 w hw) | (refine ok_append (Ok.front [_, _, _] Tl H hw) rfl _ _ _ rfl _ Try.underlying25 elem_int _ rfl _ hl _ _ _ rfl _ (by apply Has.own; (repeat (first | exact List.mem_cons_self | apply List.mem_cons_of_mem | exact List.mem_append_right _ (List.mem_cons_self)))) rfl (by simp [Value.oneCell']) (by rw [hlen]; omega) ?_; clear hw; intro w T' v' hl' hw'; have hw := Ok.front T' [_, _, _] H hw'; clear hw'; have hv2 := hl'.one) | (refine ok_store_one hw rfl _ _ _ rfl _ rfl _ rfl one_ints _ (.tail _ (.tail _ (.head _))) hv2 ?_; clear hw; intro w hw))
  go_ret
  have hw2 : Ok S w0 w ((k2, #[.int .i64 d]) :: (k1, two p l) :: (((kc, #[v']) :: T') ++ H)) R := hw
  refine ⟨rfl, (kc, #[v']) :: T', ⟨v', T', rfl, ?_⟩, ?_⟩
  · rw [hsucc.out, ← Hd.out]; exact hl'
  · exact hw2.sub (List.Sublist.cons _ (List.Sublist.cons _ (List.Sublist.refl _))) (fun q h => h)

/-- A root's digits. -/
def rdigits (n : Int) : List Value := if n = 0 ∨ 2 ^ 256 ≤ n then [] else dcells (nup n) 64

set_option maxRecDepth 10000 in
set_option maxHeartbeats 400000 in
theorem digits_calls (n : Int) (h0 : 0 ≤ n) (h1 : n < M) (S : Nat → Prop) (w0 w : World) (H R : List (Nat × Array Value)) (hw : Ok S w0 w H R) :
    Calls Try.prog 10 #[W n] w fun e w' => ∃ v T, Lst T v (rdigits n) ∧ e = .returned (.tuple #[v, .int .i64 (rerr n)]) ∧ Ok S w0 w' (T ++ H) R := by
  have hz := z256
  by_cases hn : n = 0
  · subst hn
    have hno := norm_none 0 h0 h1 (.inl rfl)
    have e1 : rdigits 0 = [] := by unfold rdigits; rw [if_pos (.inl rfl)]
    have e2 : rerr 0 = 0 := by unfold rerr; rw [if_neg (by omega)]
    rw [e1, e2]
    clear e1 e2
    go_enter Try.func10, Try.ntmps10
    go_wp2_with (first | (refine w_box (H := (H)) hw rfl 24 _ rfl _ rfl ?_; clear hw; intro k1 w hw) | (refine ok_alloc (H := (H)) hw rfl 24 rfl _ zero_wide ?_; clear hw; intro k1 w hw) | (refine ok_alloc (H := (_ :: H)) hw rfl 24 rfl _ zero_wide ?_; clear hw; intro k2 w hw) | (refine w_load hw rfl 24 _ rfl _ rfl agg_wide _ (by first | (apply Has.own; (repeat (first | assumption | exact List.mem_cons_self | apply List.mem_cons_of_mem)); done) | (apply Has.read; (repeat (first | assumption | exact List.mem_cons_self | apply List.mem_cons_of_mem)); done)) ?_) | (refine ok_buildz rfl rfl ?_) | (refine w_store hw rfl 24 _ _ rfl _ rfl _ rfl agg_wide _ (by repeat (first | exact At.head _ | apply At.tail)) ?_; clear hw; intro w hw) | (refine w_eql rfl _ _ _ rfl _ _ rfl rfl ?_) | (go_at_call 16; refine hno.call0 hw ?_; clear hw; intro w hw))
    go_ret2
    exact ⟨_, [], .nil, rfl, hw.sub (List.Sublist.cons _ (List.Sublist.cons _ (List.Sublist.refl _))) (fun q h => h)⟩
  · have hcond : ¬ n % M = 0 := by rw [Int.emod_eq_of_lt h0 h1]; exact hn
    by_cases hbig : 2 ^ 256 ≤ n
    · have hno := norm_none n h0 h1 (.inr hbig)
      have e1 : rdigits n = [] := by unfold rdigits; rw [if_pos (.inr hbig)]
      have e2 : rerr n = 4 := by unfold rerr; rw [if_pos hbig]
      rw [e1, e2]
      clear e1 e2
      go_enter Try.func10, Try.ntmps10
      go_wp2_with (first | (refine w_box (H := (H)) hw rfl 24 _ rfl _ rfl ?_; clear hw; intro k1 w hw) | (refine ok_alloc (H := (H)) hw rfl 24 rfl _ zero_wide ?_; clear hw; intro k1 w hw) | (refine ok_alloc (H := (_ :: H)) hw rfl 24 rfl _ zero_wide ?_; clear hw; intro k2 w hw) | (refine w_load hw rfl 24 _ rfl _ rfl agg_wide _ (by first | (apply Has.own; (repeat (first | assumption | exact List.mem_cons_self | apply List.mem_cons_of_mem)); done) | (apply Has.read; (repeat (first | assumption | exact List.mem_cons_self | apply List.mem_cons_of_mem)); done)) ?_) | (refine ok_buildz rfl rfl ?_) | (refine w_store hw rfl 24 _ _ rfl _ rfl _ rfl agg_wide _ (by repeat (first | exact At.head _ | apply At.tail)) ?_; clear hw; intro w hw) | (refine w_eql rfl _ _ _ rfl _ _ rfl rfl ?_) | (go_at_call 16; refine hno.call0 hw ?_; clear hw; intro w hw))
      go_ret2
      exact ⟨_, [], .nil, rfl, hw.sub (List.Sublist.cons _ (List.Sublist.cons _ (List.Sublist.refl _))) (fun q h => h)⟩
    · have hno := norm_gives n (by omega) (by omega)
      obtain ⟨hN0, hN1⟩ := nup_bds (n := n) (by omega) (by omega)
      have e1 : rdigits n = dcells (nup n) 64 := by unfold rdigits; rw [if_neg (by omega)]
      have e2 : rerr n = 0 := by unfold rerr; rw [if_neg (by omega)]
      rw [e1, e2]
      clear e1 e2
      generalize nup n = N at *
      go_enter Try.func10, Try.ntmps10
      go_wp2_with (first | (refine w_box (H := (H)) hw rfl 24 _ rfl _ rfl ?_; clear hw; intro k1 w hw) | (refine ok_alloc (H := (H)) hw rfl 24 rfl _ zero_wide ?_; clear hw; intro k1 w hw) | (refine ok_alloc (H := (_ :: H)) hw rfl 24 rfl _ zero_wide ?_; clear hw; intro k2 w hw) | (refine ok_alloc (H := (H)) hw rfl 25 rfl _ zero_ints ?_; clear hw; intro k1 w hw) | (refine ok_alloc (H := (_ :: H)) hw rfl 25 rfl _ zero_ints ?_; clear hw; intro k2 w hw) | (refine ok_alloc (H := (_ :: _ :: H)) hw rfl 25 rfl _ zero_ints ?_; clear hw; intro k3 w hw) | (refine w_load hw rfl 24 _ rfl _ rfl agg_wide _ (by first | (apply Has.own; (repeat (first | assumption | exact List.mem_cons_self | apply List.mem_cons_of_mem)); done) | (apply Has.read; (repeat (first | assumption | exact List.mem_cons_self | apply List.mem_cons_of_mem)); done)) ?_) | (refine ok_buildz rfl rfl ?_) | (refine w_store hw rfl 24 _ _ rfl _ rfl _ rfl agg_wide _ (by repeat (first | exact At.head _ | apply At.tail)) ?_; clear hw; intro w hw) | (refine w_eql rfl _ _ _ rfl _ _ rfl rfl ?_) | (go_at_call 16; refine hno.call0 hw ?_; clear hw; intro w hw) | (go_at_call 40; refine (run_calls N hN0 hN1 41 body_digits1 #[.pointer (some ⟨k3, 0, none⟩)] (DKeep N k3) 64 (by omega) (fun j hj => digits1_step N k3 j (.bool true) _ _ hj) (fun h => by omega) S w0 _ [(k3, #[.slice none 0 0])] ((k2, limbs 8 N) :: (k1, limbs 8 n) :: H) R ⟨_, _, rfl, .nil⟩ hw).mono ?_; rintro e w ⟨rfl, T', ⟨v, Tl, rfl, hl⟩, hw'⟩; clear hw; simp only [List.cons_append] at hw'; have hw := hw'; clear hw') | (refine ok_load_one hw rfl 25 _ rfl _ rfl one_ints _ (.own (.head _)) ?_))
      go_ret2
      exact ⟨v, Tl, hl, rfl, hw.sub (List.Sublist.cons _ (List.Sublist.append (List.Sublist.refl Tl) (List.Sublist.cons _ (List.Sublist.cons _ (List.Sublist.refl _))))) (fun q h => h)⟩
end Go.Proofs.Ytcodmeljjphoeaa
