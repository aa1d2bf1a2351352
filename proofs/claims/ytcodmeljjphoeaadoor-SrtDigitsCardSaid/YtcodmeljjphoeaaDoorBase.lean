/-
  Frames: what a call knows of memory while it runs. 'Ok S w0 w H R': from w0 (the call's first world) to w nothing below w0's heap has turned but the blocks in S; the rows H (the call's own, or in S) and R (only read) lie as listed.
-/
import Derived.Test.YtcodmeljjphoeaaDoorRows
import Derived.WalkKit
import Derived.WalkSpells
import Derived.WalkLawsBesides
import Derived.Deep.MidRow
import Derived.Deep.QuietTactic
import Derived.BigQuiet
import Derived.Lib.Hide
namespace Go.Proofs.YtcodmeljjphoeaaDoor
open Go.RowKit

/-- Block k is a plain row with these cells. -/
def Blk (w : World) (k : Nat) (cs : Array Value) : Prop := ∃ t, w.heap[k]? = some (.cells cs t (0, 0))

theorem Blk.lt {w : World} {k : Nat} {cs : Array Value} (h : Blk w k cs) : k < w.heap.size := by
  obtain ⟨t, h⟩ := h
  exact (Array.getElem?_eq_some_iff.1 h).1

theorem Blk.inj {w : World} {k : Nat} {cs ds : Array Value} (h : Blk w k cs) (h' : Blk w k ds) : cs = ds := by
  obtain ⟨t, h⟩ := h; obtain ⟨t', h'⟩ := h'
  rw [h] at h'; injection h' with h'; injection h'

theorem Blk.cell {w : World} {k : Nat} {cs : Array Value} (h : Blk w k cs) (o : Nat) : w.cell? ⟨k, o, none⟩ = cs[o]? := by
  obtain ⟨t, h⟩ := h
  simp [World.cell?, h]

theorem Blk.frozen {w : World} {k : Nat} {cs : Array Value} (h : Blk w k cs) (o : Nat) : w.frozen? ⟨k, o, none⟩ = false := by
  obtain ⟨t, h⟩ := h
  simp [World.frozen?, h]

structure Ok (S : Nat → Prop) (w0 w : World) (H R : List (Nat × Array Value)) : Prop where
  os : w.os = w0.os
  tape : w.tape = w0.tape
  output : w.output = w0.output
  size : w0.heap.size ≤ w.heap.size
  old : ∀ k, k < w0.heap.size → ¬ S k → w.heap[k]? = w0.heap[k]?
  rows : ∀ p ∈ H, Blk w p.1 p.2
  reads : ∀ p ∈ R, Blk w p.1 p.2
  own : ∀ p ∈ H, w0.heap.size ≤ p.1 ∨ S p.1
  nd : (H.map Prod.fst).Nodup
  ap : ∀ p ∈ H, ∀ q ∈ R, p.1 ≠ q.1

def Non : Nat → Prop := fun _ => False

theorem Ok.refl (w : World) : Ok Non w w [] [] :=
  ⟨rfl, rfl, rfl, Nat.le_refl _, fun _ _ _ => rfl, by simp, by simp, by simp, by simp, by simp⟩

/-- A call that may only read these rows. -/
theorem Ok.read {w : World} {R : List (Nat × Array Value)} (h : ∀ p ∈ R, Blk w p.1 p.2) : Ok Non w w [] R :=
  ⟨rfl, rfl, rfl, Nat.le_refl _, fun _ _ _ => rfl, by simp, h, by simp, by simp, by simp⟩

theorem Ok.below {w0 w : World} {H R : List (Nat × Array Value)} (h : Ok Non w0 w H R) : Below w0.heap.size w0 w :=
  ⟨h.os, h.tape, h.output, h.size, fun k hk => h.old k hk (fun x => x)⟩

/-- Growth alone: worlds that are as another one below its heap's size. -/
theorem Blk.below {w w' : World} {k : Nat} {cs : Array Value} (h : Blk w k cs) (hb : Below w.heap.size w w') : Blk w' k cs := by
  have hl := h.lt
  obtain ⟨t, h⟩ := h
  exact ⟨t, by rw [hb.block k hl]; exact h⟩

theorem Ok.grow {S : Nat → Prop} {w0 w w' : World} {H R : List (Nat × Array Value)} (h : Ok S w0 w H R) (hb : Below w.heap.size w w') : Ok S w0 w' H R :=
  ⟨hb.os.trans h.os, hb.tape.trans h.tape, hb.output.trans h.output, Nat.le_trans h.size hb.size,
   fun k hk hs => (hb.block k (Nat.lt_of_lt_of_le hk h.size)).trans (h.old k hk hs),
   fun p hp => (h.rows p hp).below hb, fun p hp => (h.reads p hp).below hb, h.own, h.nd, h.ap⟩

theorem below_drew (w : World) : Below w.heap.size w w.drew := ⟨rfl, rfl, rfl, Nat.le_refl _, fun _ _ => rfl⟩
theorem below_drew' (w : World) : Below w.heap.size w { w with drawn := w.drawn + 1 } := ⟨rfl, rfl, rfl, Nat.le_refl _, fun _ _ => rfl⟩

theorem below_alloc (w : World) (o : Obj) : Below w.heap.size w (w.alloc o) :=
  (Below.refl _ _).alloc (Nat.le_refl _) o

theorem blk_alloc (w : World) (c : Array Value) (t : TypeId) : Blk (w.alloc (.cells c t)) w.heap.size c := by
  refine ⟨t, ?_⟩
  show (w.heap.push _)[w.heap.size]? = _
  simp

/-- A new row. -/
theorem Ok.new {S : Nat → Prop} {w0 w : World} {H R : List (Nat × Array Value)} (h : Ok S w0 w H R) (c : Array Value) (t : TypeId) : Ok S w0 (w.alloc (.cells c t)) ((w.heap.size, c) :: H) R := by
  have g := h.grow (below_alloc w (.cells c t))
  refine ⟨g.os, g.tape, g.output, g.size, g.old, ?_, g.reads, ?_, ?_, ?_⟩
  · intro p hp
    rcases List.mem_cons.1 hp with rfl | hp
    · exact blk_alloc w c t
    · exact g.rows p hp
  · intro p hp
    rcases List.mem_cons.1 hp with rfl | hp
    · exact .inl h.size
    · exact g.own p hp
  · simp only [List.map_cons, List.nodup_cons]
    refine ⟨fun hm => ?_, h.nd⟩
    obtain ⟨q, hq, he⟩ := List.mem_map.1 hm
    have := (h.rows q hq).lt
    omega
  · intro p hp q hq
    rcases List.mem_cons.1 hp with rfl | hp
    · have := (h.reads q hq).lt
      simp only [ne_eq]
      omega
    · exact h.ap p hp q hq

/-- Two new rows. -/
theorem Ok.new2 {S : Nat → Prop} {w0 w : World} {H R : List (Nat × Array Value)} (h : Ok S w0 w H R) (c : Array Value) (t : TypeId) (d : Array Value) (t' : TypeId) : Ok S w0 ((w.alloc (.cells c t)).alloc (.cells d t')) ((w.heap.size + 1, d) :: (w.heap.size, c) :: H) R := by
  have g := (h.new c t).new d t'
  have e : (w.alloc (.cells c t)).heap.size = w.heap.size + 1 := by
    show (w.heap.push _).size = _
    simp
  rwa [e] at g

theorem Ok.blk {S : Nat → Prop} {w0 w : World} {H R : List (Nat × Array Value)} (h : Ok S w0 w H R) {k : Nat} {cs : Array Value} (hm : (k, cs) ∈ H ++ R) : Blk w k cs := by
  rcases List.mem_append.1 hm with hm | hm
  · exact h.rows _ hm
  · exact h.reads _ hm

/-- The list with row k's cells turned. -/
def upd (k : Nat) (cs : Array Value) : List (Nat × Array Value) → List (Nat × Array Value)
  | [] => []
  | p :: l => if p.1 = k then (k, cs) :: l else p :: upd k cs l

theorem upd_keys (k : Nat) (cs : Array Value) (l : List (Nat × Array Value)) : (upd k cs l).map Prod.fst = l.map Prod.fst := by
  induction l with
  | nil => rfl
  | cons p l ih =>
    unfold upd
    split
    · rename_i h; simp [h]
    · simp [ih]

theorem mem_upd {k : Nat} {cs : Array Value} {l : List (Nat × Array Value)} {p : Nat × Array Value} (hnd : (l.map Prod.fst).Nodup) (h : p ∈ upd k cs l) : (p = (k, cs) ∧ ∃ c, (k, c) ∈ l) ∨ (p ∈ l ∧ p.1 ≠ k) := by
  induction l with
  | nil => simp [upd] at h
  | cons q l ih =>
    simp only [List.map_cons, List.nodup_cons] at hnd
    unfold upd at h
    split at h
    · rename_i hq
      rcases List.mem_cons.1 h with rfl | h
      · exact .inl ⟨rfl, q.2, by simp [← hq]⟩
      · refine .inr ⟨by simp [h], fun e => hnd.1 ?_⟩
        rw [hq, ← e]
        exact List.mem_map.2 ⟨p, h, rfl⟩
    · rename_i hq
      rcases List.mem_cons.1 h with rfl | h
      · exact .inr ⟨by simp, hq⟩
      · rcases ih hnd.2 h with ⟨h1, c, h2⟩ | ⟨h1, h2⟩
        · exact .inl ⟨h1, c, by simp [h2]⟩
        · exact .inr ⟨by simp [h1], h2⟩

theorem upd_head (k : Nat) (c cs : Array Value) (l : List (Nat × Array Value)) : upd k cs ((k, c) :: l) = (k, cs) :: l := by simp [upd]

/-- H' is H, row k's cells turned from c to cs. -/
inductive At (k : Nat) (c cs : Array Value) : List (Nat × Array Value) → List (Nat × Array Value) → Prop
  | head (l : List (Nat × Array Value)) : At k c cs ((k, c) :: l) ((k, cs) :: l)
  | tail (p : Nat × Array Value) {l l' : List (Nat × Array Value)} (h : At k c cs l l') : At k c cs (p :: l) (p :: l')

theorem At.mem {k : Nat} {c cs : Array Value} {l l' : List (Nat × Array Value)} (h : At k c cs l l') : (k, c) ∈ l := by
  induction h with
  | head l => exact .head _
  | tail p _ ih => exact .tail _ ih
theorem At.eq {k : Nat} {c cs : Array Value} {l l' : List (Nat × Array Value)} (h : At k c cs l l') (hnd : (l.map Prod.fst).Nodup) : l' = upd k cs l := by
  induction h with
  | head l => rw [upd_head]
  | tail p h ih =>
    simp only [List.map_cons, List.nodup_cons] at hnd
    have hne : p.1 ≠ k := fun e => hnd.1 (by rw [e]; exact List.mem_map.2 ⟨_, h.mem, rfl⟩)
    unfold upd
    rw [if_neg hne, ih hnd.2]

/-- The world that another one becomes by turning row k's cells alone. -/
structure Turns (k : Nat) (cs : Array Value) (w w' : World) : Prop where
  os : w'.os = w.os
  tape : w'.tape = w.tape
  output : w'.output = w.output
  size : w'.heap.size = w.heap.size
  new : Blk w' k cs
  other : ∀ j, j ≠ k → w'.heap[j]? = w.heap[j]?

theorem Ok.turn {S : Nat → Prop} {w0 w w' : World} {H R : List (Nat × Array Value)} (h : Ok S w0 w H R) {k : Nat} {c cs : Array Value} (hm : (k, c) ∈ H) (ht : Turns k cs w w') : Ok S w0 w' (upd k cs H) R := by
  have keep : ∀ p : Nat × Array Value, Blk w p.1 p.2 → p.1 ≠ k → Blk w' p.1 p.2 := fun p ⟨t, hb⟩ hne => ⟨t, by rw [ht.other _ hne]; exact hb⟩
  refine ⟨ht.os.trans h.os, ht.tape.trans h.tape, ht.output.trans h.output, by rw [ht.size]; exact h.size, ?_, ?_, ?_, ?_, ?_, ?_⟩
  · intro j hj hs
    have hne : j ≠ k := by
      intro e
      rcases h.own _ hm with h1 | h1
      · simp only at h1; omega
      · exact hs (e ▸ h1)
    rw [ht.other j hne]
    exact h.old j hj hs
  · intro p hp
    rcases mem_upd h.nd hp with ⟨rfl, _⟩ | ⟨hp, hne⟩
    · exact ht.new
    · exact keep p (h.rows p hp) hne
  · intro q hq
    exact keep q (h.reads q hq) (fun e => h.ap _ hm q hq e.symm)
  · intro p hp
    rcases mem_upd h.nd hp with ⟨rfl, c', hc'⟩ | ⟨hp, _⟩
    · exact h.own (k, c') hc'
    · exact h.own p hp
  · rw [upd_keys]; exact h.nd
  · intro p hp q hq
    rcases mem_upd h.nd hp with ⟨rfl, c', hc'⟩ | ⟨hp, _⟩
    · exact h.ap (k, c') hc' q hq
    · exact h.ap p hp q hq

theorem Ok.turnAt {S : Nat → Prop} {w0 w w' : World} {H H' R : List (Nat × Array Value)} (h : Ok S w0 w H R) {k : Nat} {c cs : Array Value} (hm : At k c cs H H') (ht : Turns k cs w w') : Ok S w0 w' H' R := by
  rw [hm.eq h.nd]; exact h.turn hm.mem ht

theorem turns_setRow {w : World} {k : Nat} {c : Array Value} (h : Blk w k c) (cs : Array Value) : Turns k cs w (w.setRow k cs) := by
  obtain ⟨t, h⟩ := h
  exact ⟨rfl, rfl, rfl, by simp, ⟨t, setRow_heap w k c cs t (0, 0) h⟩, fun j hj => setRow_other w k j cs hj⟩

theorem turns_setCell {w : World} {k : Nat} {c : Array Value} (h : Blk w k c) (o : Nat) (v : Value) : Turns k (c.setIfInBounds o v) w (w.setCell ⟨k, o, none⟩ v) := by
  obtain ⟨t, h⟩ := h
  rw [setCell_eq_setRow w k o c t (0, 0) v h]
  exact turns_setRow ⟨t, h⟩ _

/-- A call that has turned rows of its caller's: what it leaves. -/
theorem Ok.call {S : Nat → Prop} {w0 w w' : World} {H R : List (Nat × Array Value)} {k : Nat} {c cs : Array Value} (h : Ok S w0 w ((k, c) :: H) R) (hc : Ok (· = k) w w' [(k, cs)] []) : Ok S w0 w' ((k, cs) :: H) R := by
  have keep : ∀ p : Nat × Array Value, Blk w p.1 p.2 → p.1 ≠ k → Blk w' p.1 p.2 := fun p hb hne => by
    have hl := hb.lt
    obtain ⟨t, hb⟩ := hb
    exact ⟨t, by rw [hc.old _ hl hne]; exact hb⟩
  have hnd := h.nd
  simp only [List.map_cons, List.nodup_cons] at hnd
  refine ⟨hc.os.trans h.os, hc.tape.trans h.tape, hc.output.trans h.output, Nat.le_trans h.size hc.size, ?_, ?_, ?_, ?_, ?_, ?_⟩
  · intro j hj hs
    have hne : j ≠ k := by
      intro e
      rcases h.own (k, c) (by simp) with h1 | h1
      · simp only at h1; omega
      · exact hs (e ▸ h1)
    rw [hc.old j (Nat.lt_of_lt_of_le hj h.size) hne]
    exact h.old j hj hs
  · intro p hp
    rcases List.mem_cons.1 hp with rfl | hp
    · exact hc.rows _ (by simp)
    · refine keep p (h.rows p (by simp [hp])) (fun e => hnd.1 ?_)
      rw [← e]; exact List.mem_map.2 ⟨p, hp, rfl⟩
  · intro q hq
    exact keep q (h.reads q hq) (fun e => h.ap (k, c) (by simp) q hq e.symm)
  · intro p hp
    rcases List.mem_cons.1 hp with rfl | hp
    · exact h.own (k, c) (by simp)
    · exact h.own p (by simp [hp])
  · simpa using h.nd
  · intro p hp q hq
    rcases List.mem_cons.1 hp with rfl | hp
    · exact h.ap (k, c) (by simp) q hq
    · exact h.ap p (by simp [hp]) q hq

/-- Rows may be forgotten, and taken in another order. -/
theorem Ok.sub {S : Nat → Prop} {w0 w : World} {H H' R R' : List (Nat × Array Value)} (h : Ok S w0 w H R) (hp : H'.Sublist H) (hr : ∀ q ∈ R', q ∈ R) : Ok S w0 w H' R' :=
  ⟨h.os, h.tape, h.output, h.size, h.old, fun p hp' => h.rows p (hp.subset hp'), fun q hq => h.reads q (hr q hq), fun p hp' => h.own p (hp.subset hp'),
   (hp.map Prod.fst).nodup h.nd, fun p hp' q hq => h.ap p (hp.subset hp') q (hr q hq)⟩

theorem Ok.perm {S : Nat → Prop} {w0 w : World} {H H' R : List (Nat × Array Value)} (h : Ok S w0 w H R) (hp : H'.Perm H) : Ok S w0 w H' R :=
  ⟨h.os, h.tape, h.output, h.size, h.old, fun p hp' => h.rows p (hp.subset hp'), h.reads, fun p hp' => h.own p (hp.subset hp'),
   ((hp.map Prod.fst).nodup_iff).2 h.nd, fun p hp' q hq => h.ap p (hp.subset hp') q hq⟩

end Go.Proofs.YtcodmeljjphoeaaDoor
