/-
  Regions that draw their order: each operation ahead of the tail (whatever only makes memory) is looked at once, in the text's order; the tail is walked in its one order.
-/
import Derived.Test.YtcodmeljjphoeaaDoorMem
import Derived.StillTail
import Derived.OrdersHeld
namespace Go.Proofs.YtcodmeljjphoeaaDoor
open Go.RowKit
set_option linter.unusedVariables false
set_option linter.unusedSimpArgs false

/-- What is known of a value, in a world. -/
abbrev Rel := World → Value → Prop
/-- It stays known while memory only grows. -/
def Stable (R : Rel) : Prop := ∀ w w' v, Below w.heap.size w w' → R w v → R w' v
def Is (x : Value) : Rel := fun _ v => v = x
theorem stable_is (x : Value) : Stable (Is x) := fun _ _ _ _ h => h

/-- Of one operation: the slots that it looks at, each with the operation of this region whose value it has; its guard's slot; may it also come up behind the tail's first store? -/
structure Entry where
  fs : List (Nat × Option Nat)
  gd : Option (Nat × Bool)
  fl : Bool
  nw : Bool := false

/-- The block that a pointer or a slice points into. -/
def blockOf : Value → Nat
  | .pointer (some a) => a.block
  | .slice (some a) _ _ => a.block
  | _ => 0

def wantedB (gd : Option (Nat × Bool)) (a : Act) : Bool :=
  match gd with
  | none => true
  | some (s, want) => match a.tmps[s]? with
    | some (.bool b) => b == want
    | _ => false

def Known (hist : List Rel) (a0 a : Act) (w : World) (fs : List (Nat × Option Nat)) : Prop :=
  ∀ p ∈ fs, match p.2 with
    | some j => hist.getD j (fun _ _ => True) w (a.tmps.getD p.1 undef)
    | none => a.tmps.getD p.1 undef = a0.tmps.getD p.1 undef

/-- What is asked of one operation. D: what holds in the tail, too (for one that may come late). -/
def Ask (P : Program) (Q : Exit → Act → World → Prop) (C D : World → Prop) (a0 : Act) (hist : List Rel) (o : Oper) (e : Entry) (R : Rel) : Prop :=
  if e.fl then ∃ v, R = Is v ∧ ∀ a w, C w → a.defers = a0.defers → a.tmps.size = a0.tmps.size → Known hist a0 a w e.fs → ∀ w', D w' → (execOp a.eval o).run P w' = .ok (.value v) w'
  else ∀ a w, C w → a.defers = a0.defers → a.tmps.size = a0.tmps.size → Known hist a0 a w e.fs →
    if wantedB e.gd a then o.wp P a w (fun a' w' => ∃ v, a' = a.put o.dst v ∧ Below w.heap.size w w' ∧ R w' v ∧ (e.nw = true → w.heap.size ≤ blockOf v ∧ blockOf v < w'.heap.size)) Q else R w undef ∧ e.nw = false

def wpSpec (P : Program) (Q : Exit → Act → World → Prop) (C D : World → Prop) (a0 : Act) (K : List Rel → Prop) : List (Oper × Entry) → List Rel → Prop
  | [], hist => K hist.reverse
  | (o, e) :: rest, hist => ∃ R : Rel, Stable R ∧ Ask P Q C D a0 hist.reverse o e R ∧ wpSpec P Q C D a0 K rest (R :: hist)

/-- Behind all of them: the frame with their values. -/
def After (G : Act → Prop) (w : World) : List (Oper × Entry) → List Rel → List Value → Act → Prop
  | [], _, _, a => G a
  | _ :: _, [], _, _ => True
  | (o, ⟨_, _, _, false⟩) :: os, R :: Rs, prev, a => ∀ v, R w v → After G w os Rs prev (a.put o.dst v)
  | (o, ⟨_, _, _, true⟩) :: os, R :: Rs, prev, a => ∀ v, R w v → (∀ u ∈ prev, blockOf u ≠ blockOf v) → After G w os Rs (v :: prev) (a.put o.dst v)

/-- The tail, in its order, D holding all along. -/
def wpListD (P : Program) (ops : Array Oper) (Q : Exit → Act → World → Prop) (D : World → Prop) : List Oper → Act → World → Prop
  | [], a, w => Q .normal a w
  | o :: rest, a, w => if Region.wanted o (yielded ops a.tmps) then o.wp P a w (fun a' w' => D w' ∧ wpListD P ops Q D rest a' w') Q ∨ (o.asks P a w ∧ LetsOut Q) else D w ∧ wpListD P ops Q D rest (a.put o.dst undef) w

/-! ### The Bool over a region -/
def dstOf (ops : Array Oper) (i : Nat) : Option Nat := (ops[i]?).bind (·.dst)
def waits (ops : Array Oper) (j i : Nat) : Bool := Region.waitsFor .any ops j i

def entryB (ops : Array Oper) (m : Nat) (i : Nat) (o : Oper) (e : Entry) : Bool :=
  -- the slots that it looks at are told
  ((o.looksAt ops).all fun t => e.fs.any fun p => p.1 == t) &&
  (e.fs.all fun p => match p.2 with
    | some j => decide (j < i) && dstOf ops j == some p.1 && waits ops i j
    | none => true) &&
  -- whoever else writes such a slot is told, or waits for it
  (e.fs.all fun p => (List.range ops.size).all fun j => j == i || dstOf ops j != some p.1 || p.2 == some j || waits ops j i) &&
  -- the guard
  (match o.guard with
    | none => e.gd == none
    | some (g, want) => e.gd == (dstOf ops g).map (fun s => (s, want)) && (dstOf ops g).isSome) &&
  -- the slot that it writes: nobody else's, and in the frame
  (match o.dst with
    | some d => decide (d < m) && (List.range ops.size).all fun j => j == i || dstOf ops j != some d
    | none => false) &&
  -- it waits only for what stands ahead of it
  (o.after.all fun x => !Region.binds .any x || decide (x.on < i)) &&
  -- one that may come late is apart from all that may come ahead of it
  (!e.fl || (!e.nw && o.guard == none && (List.range ops.size).all fun j => j == i || waits ops j i || waits ops i j || match ops[j]? with | some oj => o.apart ops oj | none => true))

/-- the tail: its first one waits for all of the head that may not come late; each waits for the one ahead. -/
def drawB (ops : Array Oper) (m n : Nat) (es : List Entry) : Bool :=
  Region.noSelect ops && es.length == n && decide (n ≤ ops.size) &&
  ((List.range n).all fun i => match ops[i]?, es[i]? with | some o, some e => entryB ops m i o e | _, _ => false) &&
  ((List.range n).all fun i => (es[i]?).any (·.fl) || n == ops.size || (List.range (n + 1)).any fun j => decide (i < j) && (j == n || !(es[j]?).any (·.fl)) && waits ops j i) &&
  ((List.range ops.size).all fun t => decide (t ≤ n) || waits ops t (t - 1)) &&
  Region.seqB .any ops (ops.size - n) n (Array.replicate n true ++ Array.replicate (ops.size - n) false)

section
variable {P : Program} {ops : Array Oper} {Q : Exit → Act → World → Prop} {C D : World → Prop} {a0 : Act} {n m : Nat} {es : List Entry} {hist : List Rel}

theorem waits_spec {j i : Nat} (h : waits ops j i = true) : ∃ oj, ops[j]? = some oj ∧ ∃ e ∈ oj.after, Region.binds .any e = true ∧ e.on = i :=
  Region.waitsFor_spec h

/-- How many of the head are not listed. -/
def left (n : Nat) (listed : Array Bool) : Nat := (List.range n).countP fun i => !listed.getD i false

theorem countP_less {l : List Nat} {p q : Nat → Bool} {i : Nat} (hnd : l.Nodup) (hi : i ∈ l) (hp : p i = true) (hq : q i = false) (he : ∀ j, j ≠ i → p j = q j) : l.countP q + 1 = l.countP p := by
  induction l with
  | nil => cases hi
  | cons x l ih =>
    simp only [List.nodup_cons] at hnd
    rcases List.mem_cons.1 hi with rfl | hi
    · have : l.countP q = l.countP p := List.countP_congr fun y hy => by
        rw [he y (fun e => hnd.1 (e ▸ hy))]
      rw [List.countP_cons_of_pos hp, List.countP_cons_of_neg (by simp [hq]), this]
    · have hx : x ≠ i := fun e => hnd.1 (e ▸ hi)
      have := ih hnd.2 hi
      simp only [List.countP_cons, he x hx]
      omega

theorem left_set {n i : Nat} {listed : Array Bool} (hi : i < n) (hl : i < listed.size) (hu : listed.getD i false = false) : left n (listed.setIfInBounds i true) + 1 = left n listed := by
  refine countP_less (i := i) List.nodup_range (List.mem_range.2 hi) (by simp [hu]) ?_ (fun j hj => by rw [getD_set_ne false (Ne.symm hj)])
  simp [Array.getD, hl]

/-- What holds while the head comes up. -/
structure Inv (ops : Array Oper) (C : World → Prop) (a0 : Act) (n : Nat) (es : List Entry) (hist : List Rel) (listed : Array Bool) (a : Act) (w : World) : Prop where
  size : listed.size = ops.size
  closed : ∀ j oj, ops[j]? = some oj → listed.getD j false = true → ∀ e ∈ oj.after, Region.binds .any e = true → listed.getD e.on false = true
  tail : ∀ t, n ≤ t → t < ops.size → listed.getD t false = false
  cls : C w
  defers : a.defers = a0.defers
  len : a.tmps.size = a0.tmps.size
  done : ∀ i t, i < n → listed.getD i false = true → dstOf ops i = some t → hist.getD i (fun _ _ => True) w (a.tmps.getD t undef)
  same : ∀ t, (∀ i, i < n → dstOf ops i = some t → listed.getD i false = false) → a.tmps.getD t undef = a0.tmps.getD t undef
  fresh : ∀ i e t, i < n → es[i]? = some e → e.nw = true → listed.getD i false = true → dstOf ops i = some t → blockOf (a.tmps.getD t undef) < w.heap.size
  ne : ∀ i e t j e' t', i < n → es[i]? = some e → e.nw = true → listed.getD i false = true → dstOf ops i = some t →
    j < n → es[j]? = some e' → e'.nw = true → listed.getD j false = true → dstOf ops j = some t' → i ≠ j → blockOf (a.tmps.getD t undef) ≠ blockOf (a.tmps.getD t' undef)

structure Good (ops : Array Oper) (m n : Nat) (es : List Entry) : Prop where
  sel : Region.noSelect ops = true
  len : es.length = n
  le : n ≤ ops.size
  entry : ∀ i o e, i < n → ops[i]? = some o → es[i]? = some e → entryB ops m i o e = true
  sink : ∀ i e, i < n → es[i]? = some e → e.fl = false → n = ops.size ∨ ∃ j, i < j ∧ j ≤ n ∧ (j = n ∨ ∃ e', es[j]? = some e' ∧ e'.fl = false) ∧ waits ops j i = true
  chain : ∀ t, n < t → t < ops.size → waits ops t (t - 1) = true
  seq : Region.seqB .any ops (ops.size - n) n (Array.replicate n true ++ Array.replicate (ops.size - n) false) = true

theorem good_of_draw (h : drawB ops m n es = true) : Good ops m n es := by
  simp only [drawB, Bool.and_eq_true, List.all_eq_true, List.mem_range, decide_eq_true_eq, beq_iff_eq, Bool.or_eq_true] at h
  obtain ⟨⟨⟨⟨⟨⟨h1, h2⟩, h3⟩, h4⟩, h5⟩, h6⟩, h7⟩ := h
  refine ⟨h1, h2, h3, ?_, ?_, ?_, h7⟩
  · intro i o e hi ho he
    have := h4 i hi
    simpa [ho, he] using this
  · intro i e hi he hf
    rcases h5 i hi with (h | h) | h
    · simp [he, hf] at h
    · exact .inl h
    · right
      obtain ⟨j, hj, hb⟩ := List.any_eq_true.1 h
      simp only [Bool.and_eq_true, decide_eq_true_eq, Bool.or_eq_true, beq_iff_eq, Bool.not_eq_true'] at hb
      have hjn : j < n + 1 := by simpa using hj
      refine ⟨j, hb.1.1, by omega, ?_, hb.2⟩
      rcases hb.1.2 with h | h
      · exact .inl h
      · by_cases hjn' : j = n
        · exact .inl hjn'
        · have hlt : j < es.length := by omega
          rw [List.getElem?_eq_getElem hlt] at h
          exact .inr ⟨_, List.getElem?_eq_getElem hlt, by simpa using h⟩
  · intro t ht hts
    rcases h6 t hts with h | h
    · omega
    · exact h

theorem getD_false_iff {listed : Array Bool} {i : Nat} (hi : i < listed.size) : listed.getD i true = false ↔ listed.getD i false = false := by
  simp [hi]

/-- The first one of the head that is not listed is ready. -/
theorem ready_least (g : Good ops m n es) {listed : Array Bool} (hs : listed.size = ops.size) {i : Nat} (hi : i < n) (hu : listed.getD i false = false) (hl : ∀ j, j < i → listed.getD j false = true) : i ∈ Region.ready .any ops listed := by
  have hio : i < ops.size := Nat.lt_of_lt_of_le hi g.le
  refine mem_ready.2 ⟨(getD_false_iff (by omega)).2 hu, ops[i], by simp [hio], fun e he hb => ?_⟩
  have hie : i < es.length := by rw [g.len]; exact hi
  have := g.entry i ops[i] es[i] hi (by simp [hio]) (by simp [hie])
  simp only [entryB, Bool.and_eq_true] at this
  have h6 := this.1.2
  have := (Array.all_eq_true_iff_forall_mem.1 h6) e he
  simp only [hb, Bool.not_true, Bool.false_or, decide_eq_true_eq] at this
  exact hl _ this

/-- What op i looks at is known when it comes up. -/
theorem known_of_inv (g : Good ops m n es) {listed : Array Bool} {a : Act} {w : World} (inv : Inv ops C a0 n es hist listed a w) {i : Nat} {o : Oper} {e : Entry} (hi : i < n) (ho : ops[i]? = some o) (he : es[i]? = some e)
    (hr : i ∈ Region.ready .any ops listed) : Known hist a0 a w e.fs := by
  have hb := g.entry i o e hi ho he
  simp only [entryB, Bool.and_eq_true, List.all_eq_true] at hb
  obtain ⟨⟨⟨⟨⟨⟨hlook, hsrc⟩, hother⟩, _⟩, _⟩, _⟩, _⟩ := hb
  obtain ⟨hun, o', ho', hall⟩ := mem_ready.1 hr
  obtain rfl : o = o' := Option.some.inj (ho.symm.trans ho')
  have hio : i < listed.size := by rw [inv.size]; exact (Array.getElem?_eq_some_iff.1 ho).1
  have hun' := (getD_false_iff hio).1 hun
  intro p hp
  have h1 := hsrc p hp
  have h2 := hother p hp
  cases hp2 : p.2 with
  | some j =>
    simp only [hp2, Bool.and_eq_true, decide_eq_true_eq, beq_iff_eq] at h1
    obtain ⟨⟨hji, hd⟩, hw⟩ := h1
    obtain ⟨oi, hoi, x, hx, hbx, hon⟩ := waits_spec hw
    obtain rfl : o = oi := Option.some.inj (ho.symm.trans hoi)
    have := hall x hx hbx
    rw [hon] at this
    exact inv.done j p.1 (by omega) this hd
  | none =>
    refine inv.same p.1 fun j hj hd => ?_
    have h3 := h2 j (List.mem_range.2 (Nat.lt_of_lt_of_le hj g.le))
    simp only [hp2, Bool.or_eq_true, beq_iff_eq, bne_iff_ne, ne_eq] at h3
    rcases h3 with ((h3 | h3) | h3) | h3
    · rw [h3]; exact hun'
    · exact absurd hd h3
    · cases h3
    · cases hjl : listed.getD j false with
      | false => rfl
      | true =>
        obtain ⟨oj, hoj, x, hx, hbx, hon⟩ := waits_spec h3
        have := inv.closed j oj hoj hjl x hx hbx
        rw [hon, hun'] at this
        cases this

theorem wanted_eq {i : Nat} {o : Oper} {e : Entry} (hb : entryB ops m i o e = true) (a : Act) : Region.wanted o (yielded ops a.tmps) = wantedB e.gd a := by
  simp only [entryB, Bool.and_eq_true] at hb
  have hg := hb.1.1.1.2
  unfold Region.wanted wantedB
  cases hgd : o.guard with
  | none => simp only [hgd, beq_iff_eq] at hg; rw [hg]
  | some p =>
    obtain ⟨j, want⟩ := p
    simp only [hgd, Bool.and_eq_true, beq_iff_eq] at hg
    obtain ⟨hg, hs⟩ := hg
    cases hd : dstOf ops j with
    | none => simp [hd] at hs
    | some s =>
      rw [hg, hd]
      simp only [Option.map_some, yielded]
      have : (ops[j]?).bind (·.dst) = some s := hd
      rw [this]
      simp only [Option.bind_some]
      cases a.tmps[s]? with
      | none => rfl
      | some v => cases v <;> rfl

theorem getD_put {a : Act} {d : Option Nat} {v : Value} {t : Nat} (ht : d ≠ some t) : (a.put d v).tmps.getD t undef = a.tmps.getD t undef := by
  cases d with
  | none => rfl
  | some d =>
    have : d ≠ t := fun e => ht (by rw [e])
    simp [Act.put, Array.getElem?_setIfInBounds_ne this]
theorem getD_put_same {a : Act} {v : Value} {t : Nat} (ht : t < a.tmps.size) : (a.put (some t) v).tmps.getD t undef = v := by
  simp [Act.put, ht]
theorem put_defers' (a : Act) (d : Option Nat) (v : Value) : (a.put d v).defers = a.defers := by cases d <;> rfl
theorem put_size (a : Act) (d : Option Nat) (v : Value) : (a.put d v).tmps.size = a.tmps.size := by cases d <;> simp [Act.put]

/-- One of the head has come up. -/
theorem inv_put (g : Good ops a0.tmps.size n es) (hst : ∀ j, Stable (hist.getD j (fun _ _ => True))) (hC : ∀ w w', C w → Below w.heap.size w w' → C w') {listed : Array Bool} {a : Act} {w : World} (inv : Inv ops C a0 n es hist listed a w) {i : Nat} {o : Oper} {e : Entry} (hi : i < n) (ho : ops[i]? = some o) (he : es[i]? = some e)
    (hr : i ∈ Region.ready .any ops listed) {v : Value} {w' : World} (hb : Below w.heap.size w w') (hv : hist.getD i (fun _ _ => True) w' v) (hnw : e.nw = true → w.heap.size ≤ blockOf v ∧ blockOf v < w'.heap.size) : Inv ops C a0 n es hist (listed.setIfInBounds i true) (a.put o.dst v) w' := by
  have hE := g.entry i o e hi ho he
  simp only [entryB, Bool.and_eq_true, List.all_eq_true] at hE
  obtain ⟨⟨⟨⟨⟨_, _⟩, _⟩, hdst⟩, _⟩, _⟩ := hE
  obtain ⟨hun, o', ho', hall⟩ := mem_ready.1 hr
  obtain rfl : o = o' := Option.some.inj (ho.symm.trans ho')
  have hdo : dstOf ops i = o.dst := by simp [dstOf, ho]
  have mine : ∀ t, o.dst = some t → t < a.tmps.size := by
    intro t ht
    simp only [ht, Bool.and_eq_true, decide_eq_true_eq] at hdst
    rw [inv.len]; exact hdst.1
  have other : ∀ j t, j < n → i ≠ j → dstOf ops j = some t → o.dst ≠ some t := by
    intro j t hj hij hd hot
    simp only [hot, Bool.and_eq_true, decide_eq_true_eq, List.all_eq_true, List.mem_range, Bool.or_eq_true, beq_iff_eq, bne_iff_ne, ne_eq] at hdst
    rcases hdst.2 j (Nat.lt_of_lt_of_le hj g.le) with h | h
    · exact hij h.symm
    · exact h hd
  refine ⟨by simp [inv.size], ?_, ?_, hC w w' inv.cls hb, by rw [put_defers']; exact inv.defers, by rw [put_size]; exact inv.len, ?_, ?_, ?_, ?_⟩
  · intro j oj hj hl x hx hbx
    by_cases hij : i = j
    · subst hij
      obtain rfl : o = oj := Option.some.inj (ho.symm.trans hj)
      exact getD_set_true (hall x hx hbx)
    · rw [getD_set_ne false hij] at hl
      exact getD_set_true (inv.closed j oj hj hl x hx hbx)
  · intro t ht hts
    rw [getD_set_ne false (by omega)]
    exact inv.tail t ht hts
  · intro j t hj hl hd
    by_cases hij : i = j
    · subst hij
      rw [hdo] at hd
      simp only [hd, Bool.and_eq_true, decide_eq_true_eq] at hdst
      rw [hd, getD_put_same (by rw [inv.len]; exact hdst.1)]
      exact hv
    · rw [getD_set_ne false hij] at hl
      rw [getD_put (other j t hj hij hd)]
      exact hst j w w' _ hb (inv.done j t hj hl hd)
  · intro t ht
    have hne : o.dst ≠ some t := by
      intro hot
      have := ht i hi (by rw [hdo, hot])
      have hsz : i < listed.size := by rw [inv.size]; exact (Array.getElem?_eq_some_iff.1 ho).1
      simp [Array.getD, hsz] at this
    rw [getD_put hne]
    refine inv.same t fun j hj hd => ?_
    have := ht j hj hd
    by_cases hij : i = j
    · subst hij; rw [hdo] at hd; exact absurd hd hne
    · rwa [getD_set_ne false hij] at this
  · intro j e' t hj he' hn hl hd
    by_cases hij : i = j
    · subst hij
      obtain rfl : e = e' := Option.some.inj (he.symm.trans he')
      rw [hdo] at hd
      rw [hd, getD_put_same (mine t hd)]
      exact (hnw hn).2
    · rw [getD_set_ne false hij] at hl
      rw [getD_put (other j t hj hij hd)]
      exact Nat.lt_of_lt_of_le (inv.fresh j e' t hj he' hn hl hd) hb.size
  · intro j e1 t j' e2 t' hj he1 hn hl hd hj' he2 hn' hl' hd' hne
    by_cases hij : i = j
    · subst hij
      obtain rfl : e = e1 := Option.some.inj (he.symm.trans he1)
      have hij' : i ≠ j' := hne
      rw [getD_set_ne false hij'] at hl'
      rw [getD_put (other j' t' hj' hij' hd')]
      rw [hdo] at hd
      rw [hd, getD_put_same (mine t hd)]
      have h1 := inv.fresh j' e2 t' hj' he2 hn' hl' hd'
      have h2 := (hnw hn).1
      omega
    · rw [getD_set_ne false hij] at hl
      rw [getD_put (other j t hj hij hd)]
      by_cases hij' : i = j'
      · subst hij'
        obtain rfl : e = e2 := Option.some.inj (he.symm.trans he2)
        rw [hdo] at hd'
        rw [hd', getD_put_same (mine t' hd')]
        have h1 := inv.fresh j e1 t hj he1 hn hl hd
        have h2 := (hnw hn').1
        omega
      · rw [getD_set_ne false hij'] at hl'
        rw [getD_put (other j' t' hj' hij' hd')]
        exact inv.ne j e1 t j' e2 t' hj he1 hn hl hd hj' he2 hn' hl' hd' hne

theorem known_take {i : Nat} {o : Oper} {e : Entry} (hb : entryB ops m i o e = true) {a : Act} {w : World} (h : Known hist a0 a w e.fs) : Known (hist.take i) a0 a w e.fs := by
  simp only [entryB, Bool.and_eq_true, List.all_eq_true] at hb
  obtain ⟨⟨⟨⟨⟨⟨_, hsrc⟩, _⟩, _⟩, _⟩, _⟩, _⟩ := hb
  intro p hp
  have h1 := h p hp
  have h2 := hsrc p hp
  cases hp2 : p.2 with
  | none => simpa [hp2] using h1
  | some j =>
    simp only [hp2] at h1
    simp only [hp2, Bool.and_eq_true, decide_eq_true_eq] at h2
    simp only
    rw [List.getD_eq_getElem?_getD, List.getElem?_take, if_pos h2.1.1, ← List.getD_eq_getElem?_getD]
    exact h1

theorem not_ready_tail (g : Good ops m n es) {listed : Array Bool} {a : Act} {w : World} (inv : Inv ops C a0 n es hist listed a w) {i : Nat} (hr : i ∈ Region.ready .any ops listed) (hin : n ≤ i) :
    ∀ d h e, n - h = d → h < n → es[h]? = some e → e.fl = false → listed.getD h false = false → False := by
  obtain ⟨_, o, ho, hall⟩ := mem_ready.1 hr
  have his : i < ops.size := (Array.getElem?_eq_some_iff.1 ho).1
  have hi : i = n := by
    rcases Nat.lt_or_ge n i with hlt | hge
    · exfalso
      obtain ⟨oj, hoj, x, hx, hbx, hon⟩ := waits_spec (g.chain i hlt his)
      obtain rfl : o = oj := Option.some.inj (ho.symm.trans hoj)
      have h1 := hall x hx hbx
      rw [hon, inv.tail (i - 1) (by omega) (by omega)] at h1
      cases h1
    · omega
  subst hi
  intro d
  induction d using Nat.strongRecOn with
  | _ d ih =>
    intro h e hd hh he hf hu
    rcases g.sink h e hh he hf with hs | ⟨j, hhj, hjn, hj, hw⟩
    · omega
    · obtain ⟨oj, hoj, x, hx, hbx, hon⟩ := waits_spec hw
      rcases hj with rfl | ⟨e', he', hf'⟩
      · obtain rfl : o = oj := Option.some.inj (ho.symm.trans hoj)
        have h1 := hall x hx hbx
        rw [hon, hu] at h1
        cases h1
      · by_cases hji : j = i
        · subst hji
          obtain rfl : o = oj := Option.some.inj (ho.symm.trans hoj)
          have h1 := hall x hx hbx
          rw [hon, hu] at h1
          cases h1
        · cases hl : listed.getD j false with
          | true =>
            have h1 := inv.closed j oj hoj hl x hx hbx
            rw [hon, hu] at h1
            cases h1
          | false => exact ih (i - j) (by omega) j e' rfl (by omega) he' hf' hl

/-- What holds of the frame when the whole head has come up. -/
structure Done (ops : Array Oper) (C : World → Prop) (a0 : Act) (n : Nat) (es : List Entry) (hist : List Rel) (a : Act) (w : World) : Prop where
  cls : C w
  defers : a.defers = a0.defers
  len : a.tmps.size = a0.tmps.size
  done : ∀ i t, i < n → dstOf ops i = some t → hist.getD i (fun _ _ => True) w (a.tmps.getD t undef)
  same : ∀ t, (∀ i, i < n → dstOf ops i ≠ some t) → a.tmps.getD t undef = a0.tmps.getD t undef
  ne : ∀ i e t j e' t', i < n → es[i]? = some e → e.nw = true → dstOf ops i = some t → j < n → es[j]? = some e' → e'.nw = true → dstOf ops j = some t' → i ≠ j →
    blockOf (a.tmps.getD t undef) ≠ blockOf (a.tmps.getD t' undef)

theorem listed_all (g : Good ops m n es) {listed : Array Bool} {a : Act} {w : World} (inv : Inv ops C a0 n es hist listed a w) (h : ∀ i, i < n → listed.getD i false = true) :
    listed = Array.replicate n true ++ Array.replicate (ops.size - n) false := by
  have hs := inv.size
  apply Array.ext
  · simp; have := g.le; omega
  · intro i h1 h2
    have hg : listed.getD i false = listed[i] := by simp [h1]
    rw [← hg]
    rcases Nat.lt_or_ge i n with hi | hi
    · rw [h i hi, Array.getElem_append_left (by simpa using hi)]; simp
    · rw [inv.tail i hi (by omega), Array.getElem_append_right (by simpa using hi)]; simp

theorem exists_unlisted {n : Nat} {listed : Array Bool} (h : left n listed ≠ 0) : ∃ i, i < n ∧ listed.getD i false = false ∧ ∀ j, j < i → listed.getD j false = true := by
  have hex : ∃ i, i < n ∧ listed.getD i false = false := by
    have : 0 < left n listed := by omega
    obtain ⟨i, hi, hp⟩ := List.countP_pos_iff.1 this
    exact ⟨i, List.mem_range.1 hi, by simpa using hp⟩
  obtain ⟨i, hi⟩ := hex
  induction i using Nat.strongRecOn with
  | _ i ih =>
    by_cases hj : ∃ j, j < i ∧ listed.getD j false = false
    · obtain ⟨j, hji, hjf⟩ := hj
      exact ih j hji ⟨by omega, hjf⟩
    · refine ⟨i, hi.1, hi.2, fun j hji => ?_⟩
      cases hl : listed.getD j false with
      | true => rfl
      | false => exact absurd ⟨j, hji, hl⟩ hj

theorem panic_put (hQ : ∀ c a t w, Q (.panic c) { tmps := t, defers := a.defers } w → Q (.panic c) a w) (c : List PanicEntry) (a : Act) (d : Option Nat) (v : Value) (w : World) (h : Q (.panic c) (a.put d v) w) : Q (.panic c) a w := by
  cases d with
  | none => exact h
  | some d => exact hQ c a _ w h

theorem wpAnyH_of_seq {Q' : Exit → Act → World → Prop} : ∀ (l : List Oper) (k : Nat) (listed : Array Bool) (a : Act) (w : World), (∀ j, l[j]? = ops[k + j]?) →
    Region.seqB .any ops l.length k listed = true → wpListD P ops Q' D l a w → wpAnyH P .any ops Q' D l.length listed a w
  | [], _, _, _, _, _, hB, h => ⟨by simpa [Region.seqB] using hB, h⟩
  | o :: l, k, listed, a, w, hl, hB, h => by
    have h0 : ops[k]? = some o := by simpa using (hl 0).symm
    simp only [List.length_cons, Region.seqB, Bool.and_eq_true, decide_eq_true_eq] at hB
    refine ⟨fun h1 => (by rw [hB.1] at h1; cases h1), fun i hi => ?_⟩
    rw [hB.1] at hi
    have hik : i = k := by simpa using hi
    subst hik
    have hw : wpOp P ops Q' i (fun a' w' => D w' ∧ wpListD P ops Q' D l a' w') a w := by unfold wpOp; simp only [h0]; exact h
    exact wpOp_mono (fun a' w' h' => ⟨h'.1, wpAnyH_of_seq l (i + 1) _ a' w' (fun j => by have := hl (j + 1); simpa [Nat.add_assoc, Nat.add_comm 1 j] using this) hB.2 h'.2⟩) hw

theorem wpListD_of_wpList : ∀ (l : List Oper) (a : Act) (w : World), wpList P ops Q l a w → wpListD P ops Q (fun _ => True) l a w
  | [], _, _, h => h
  | o :: l, a, w, h => by
    unfold wpListD
    unfold wpList at h
    split
    · rename_i hw
      rw [if_pos hw] at h
      exact h.imp (Oper.wp_mono fun a' w' h' => ⟨trivial, wpListD_of_wpList l a' w' h'⟩) id
    · rename_i hw
      rw [if_neg hw] at h
      exact ⟨trivial, wpListD_of_wpList l _ w h⟩

theorem wpAny_draw (g : Good ops a0.tmps.size n es) (hst : ∀ j, Stable (hist.getD j (fun _ _ => True))) (hC : ∀ w w', C w → Below w.heap.size w w' → C w')
    (hQ : ∀ c a t w, Q (.panic c) { tmps := t, defers := a.defers } w → Q (.panic c) a w)
    (hask : ∀ i o e, i < n → ops[i]? = some o → es[i]? = some e → Ask P Q C D a0 (hist.take i) o e (hist.getD i (fun _ _ => True)))
    (hD : ∀ w, C w → D w)
    (hT : ∀ a w, Done ops C a0 n es hist a w → wpListD P ops Q D (ops.toList.drop n) a w) :
    ∀ k listed a w, left n listed = k → Inv ops C a0 n es hist listed a w → wpAnyH P .any ops Q D (k + (ops.size - n)) listed a w := by
  intro k
  induction k with
  | zero =>
    intro listed a w hk inv
    have hall : ∀ i, i < n → listed.getD i false = true := by
      intro i hi
      cases hl : listed.getD i false with
      | true => rfl
      | false =>
        have : 0 < left n listed := List.countP_pos_iff.2 ⟨i, List.mem_range.2 hi, by simp [hl]⟩
        omega
    have hlen : (ops.toList.drop n).length = ops.size - n := by simp
    rw [Nat.zero_add, ← hlen]
    refine wpAnyH_of_seq (ops.toList.drop n) n listed a w (fun j => by simp [List.getElem?_drop]) ?_ (hT a w ⟨inv.cls, inv.defers, inv.len, fun i t hi => inv.done i t hi (hall i hi), fun t ht => inv.same t (fun i hi hd => absurd hd (ht i hi)), fun i e t j e' t' hi he hn hd hj he' hn' hd' => inv.ne i e t j e' t' hi he hn (hall i hi) hd hj he' hn' (hall j hj) hd'⟩)
    rw [hlen, listed_all g inv hall]
    exact g.seq
  | succ k ih =>
    intro listed a w hk inv
    obtain ⟨f, hfn, hfu, hfl⟩ := exists_unlisted (n := n) (listed := listed) (by omega)
    have hfr := ready_least g inv.size hfn hfu hfl
    have next : ∀ {i : Nat} {o : Oper} {e : Entry}, i < n → ops[i]? = some o → es[i]? = some e → i ∈ Region.ready .any ops listed → ∀ {v : Value} {w' : World}, Below w.heap.size w w' → hist.getD i (fun _ _ => True) w' v → (e.nw = true → w.heap.size ≤ blockOf v ∧ blockOf v < w'.heap.size) →
        D w' ∧ wpAnyH P .any ops Q D (k + (ops.size - n)) (listed.setIfInBounds i true) (a.put o.dst v) w' := by
      intro i o e hi ho he hr v w' hb hv hnw
      have hil : i < listed.size := by rw [inv.size]; exact (Array.getElem?_eq_some_iff.1 ho).1
      have := left_set hi hil ((getD_false_iff hil).1 (mem_ready.1 hr).1)
      have inv' := inv_put g hst hC inv hi ho he hr hb hv hnw
      exact ⟨hD _ inv'.cls, ih _ _ _ (by omega) inv'⟩
    have hlenE : ∀ i, i < n → ∃ e, es[i]? = some e := fun i hi => ⟨es[i]'(by rw [g.len]; exact hi), by simp [g.len, hi]⟩
    have hlenO : ∀ i, i < n → ∃ o, ops[i]? = some o := fun i hi => ⟨ops[i]'(Nat.lt_of_lt_of_le hi g.le), by simp [Nat.lt_of_lt_of_le hi g.le]⟩
    by_cases hB : ∃ h e, h < n ∧ es[h]? = some e ∧ e.fl = false ∧ listed.getD h false = false
    · rw [show k + 1 + (ops.size - n) = (k + (ops.size - n)) + 1 by omega]
      refine ⟨fun h0 => (by rw [h0] at hfr; cases hfr), fun i hi => ?_⟩
      have hin : i < n := by
        rcases Nat.lt_or_ge i n with h | h
        · exact h
        · obtain ⟨x, e, hx, he, hf, hu⟩ := hB
          exact (not_ready_tail g inv hi h _ x e rfl hx he hf hu).elim
      obtain ⟨o, ho⟩ := hlenO i hin
      obtain ⟨e, he⟩ := hlenE i hin
      have hb := g.entry i o e hin ho he
      have hkn := known_take (i := i) hb (known_of_inv g inv hin ho he hi)
      have hA := hask i o e hin ho he
      unfold Ask at hA
      unfold wpOp
      simp only [ho]
      rw [wanted_eq hb a]
      cases hfl' : e.fl with
      | true =>
        simp only [hfl', if_true] at hA
        obtain ⟨v, hR, hA⟩ := hA
        have hgd : e.gd = none := by
          simp only [entryB, Bool.and_eq_true] at hb
          have h1 := hb.2
          simp only [hfl', Bool.not_true, Bool.false_or, Bool.and_eq_true, beq_iff_eq] at h1
          have h2 := hb.1.1.1.2
          simp only [h1.1.2, beq_iff_eq] at h2
          exact h2
        have hnw' : e.nw = false := by
          simp only [entryB, Bool.and_eq_true] at hb
          have h1 := hb.2
          simp only [hfl', Bool.not_true, Bool.false_or, Bool.and_eq_true, Bool.not_eq_true'] at h1
          exact h1.1.1
        simp only [wantedB, hgd, if_true]
        left
        unfold Oper.wp
        rw [hA a w inv.cls inv.defers inv.len hkn w (hD w inv.cls)]
        exact next hin ho he hi (Below.refl _ _) (by rw [hR]; rfl) (fun h => by rw [hnw'] at h; cases h)
      | false =>
        simp only [hfl', Bool.false_eq_true, if_false] at hA
        have hA := hA a w inv.cls inv.defers inv.len hkn
        split
        · rename_i hw
          rw [if_pos hw] at hA
          left
          exact Oper.wp_mono (fun a' w' ⟨v, ha, hb', hR, hN⟩ => by rw [ha]; exact next hin ho he hi hb' hR hN) hA
        · rename_i hw
          rw [if_neg hw] at hA
          exact next hin ho he hi (Below.refl _ _) hA.1 (fun h => by rw [hA.2] at h; cases h)
    · obtain ⟨o, ho⟩ := hlenO f hfn
      obtain ⟨e, he⟩ := hlenE f hfn
      have hfe : e.fl = true := by
        cases h : e.fl with
        | true => rfl
        | false => exact absurd ⟨f, e, hfn, he, h, hfu⟩ hB
      have hb := g.entry f o e hfn ho he
      have hkn := known_take (i := f) hb (known_of_inv g inv hfn ho he hfr)
      have hA := hask f o e hfn ho he
      unfold Ask at hA
      simp only [hfe, if_true] at hA
      obtain ⟨v, hR, hA⟩ := hA
      simp only [entryB, Bool.and_eq_true] at hb
      have h1 := hb.2
      simp only [hfe, Bool.not_true, Bool.false_or, Bool.and_eq_true, beq_iff_eq, List.all_eq_true, List.mem_range, Bool.not_eq_true'] at h1
      rw [show k + 1 + (ops.size - n) = (k + (ops.size - n)) + 1 by omega]
      refine wpAnyH_first ho (Region.noSelect_spec g.sel) (fun c a w => panic_put hQ c a o.dst v w) _ listed a w ?_ hfr (.inl ⟨by simp [Region.wanted, h1.1.2], fun w' hw' => hA a w inv.cls inv.defers inv.len hkn w' hw'⟩) (hD w inv.cls) (next hfn ho he hfr (Below.refl _ _) (by rw [hR]; rfl) (fun h => by rw [h1.1.1] at h; cases h)).2
      intro j oj hj hjf hju hno
      have h2 := h1.2 j (Array.getElem?_eq_some_iff.1 hj).1
      simp only [Bool.or_eq_true, beq_iff_eq, hj] at h2
      rcases h2 with ((h2 | h2) | h2) | h2
      · exact absurd h2 hjf
      · obtain ⟨oj', hoj', x, hx, hbx, hon⟩ := waits_spec h2
        obtain rfl : oj = oj' := Option.some.inj (hj.symm.trans hoj')
        exact absurd hon (hno x hx hbx)
      · obtain ⟨of, hof, x, hx, hbx, hon⟩ := waits_spec h2
        obtain rfl : o = of := Option.some.inj (ho.symm.trans hof)
        have := (mem_ready.1 hfr).2
        obtain ⟨o2, ho2, hall⟩ := this
        obtain rfl : o = o2 := Option.some.inj (ho.symm.trans ho2)
        have h3 := hall x hx hbx
        rw [hon] at h3
        have hjs : j < listed.size := by rw [inv.size]; exact (Array.getElem?_eq_some_iff.1 hj).1
        rw [(getD_false_iff hjs).1 hju] at h3
        cases h3
      · exact h2

theorem wpSpec_hist {K : List Rel → Prop} : ∀ (l : List (Oper × Entry)) (rev : List Rel), wpSpec P Q C D a0 K l rev → (∀ j, Stable (rev.reverse.getD j (fun _ _ => True))) →
    ∃ new : List Rel, new.length = l.length ∧ (∀ j, Stable ((rev.reverse ++ new).getD j (fun _ _ => True))) ∧ K (rev.reverse ++ new) ∧
      ∀ i o e, l[i]? = some (o, e) → Ask P Q C D a0 ((rev.reverse ++ new).take (rev.length + i)) o e ((rev.reverse ++ new).getD (rev.length + i) (fun _ _ => True)) := by
  intro l
  induction l with
  | nil => intro hist h hs; exact ⟨[], rfl, by simpa using hs, by rw [List.append_nil]; exact h, by simp⟩
  | cons x l ih =>
    intro rev h hs
    obtain ⟨o, e⟩ := x
    obtain ⟨R, hR, hA, h⟩ := h
    obtain ⟨new, h1, h2, h3, h4⟩ := ih (R :: rev) h (fun j => by
      rw [List.reverse_cons, List.getD_eq_getElem?_getD, List.getElem?_append]
      split
      · have := hs j; rwa [List.getD_eq_getElem?_getD] at this
      · cases hj : j - rev.reverse.length with
        | zero => simpa [hj] using hR
        | succ d => simp; exact fun _ _ _ _ _ => trivial)
    simp only [List.reverse_cons, List.append_assoc, List.singleton_append, List.length_cons] at h2 h3 h4
    refine ⟨R :: new, by simp [h1], h2, h3, fun i o' e' hi => ?_⟩
    cases i with
    | zero =>
      simp only [List.getElem?_cons_zero, Option.some.injEq, Prod.mk.injEq] at hi
      obtain ⟨rfl, rfl⟩ := hi
      have e1 : (rev.reverse ++ R :: new).take (rev.length + 0) = rev.reverse := by rw [Nat.add_zero, show rev.length = rev.reverse.length by simp, List.take_left]
      have e2 : (rev.reverse ++ R :: new).getD (rev.length + 0) (fun _ _ => True) = R := by
        rw [Nat.add_zero, List.getD_eq_getElem?_getD, show rev.length = rev.reverse.length by simp]
        simp
      rw [e1, e2]
      exact hA
    | succ i =>
      have := h4 i o' e' (by simpa using hi)
      rwa [show rev.length + 1 + i = rev.length + (i + 1) by omega] at this

/-- The frame with these values laid in. -/
def fill (a : Act) : List (Oper × Entry) → Act → Act
  | [], a1 => a1
  | (o, _) :: l, a1 => fill a l (a1.put o.dst (match o.dst with | some d => a.tmps.getD d undef | none => undef))

theorem after_fill {G : Act → Prop} {w : World} {a : Act} : ∀ (l : List (Oper × Entry)) (hist : List Rel) (prev : List Value) (a1 : Act), After G w l hist prev a1 → l.length = hist.length →
    (∀ (i : Nat) (o : Oper) (e : Entry) (d : Nat), l[i]? = some (o, e) → o.dst = some d → hist.getD i (fun _ _ => True) w (a.tmps.getD d undef)) → (∀ (i : Nat) (o : Oper) (e : Entry), l[i]? = some (o, e) → o.dst.isSome = true) →
    (∀ (i : Nat) (o : Oper) (e : Entry) (d : Nat), l[i]? = some (o, e) → e.nw = true → o.dst = some d → ∀ u ∈ prev, blockOf u ≠ blockOf (a.tmps.getD d undef)) →
    (∀ (i j : Nat) (o o' : Oper) (e e' : Entry) (d d' : Nat), l[i]? = some (o, e) → e.nw = true → o.dst = some d → l[j]? = some (o', e') → e'.nw = true → o'.dst = some d' → i ≠ j → blockOf (a.tmps.getD d undef) ≠ blockOf (a.tmps.getD d' undef)) → G (fill a l a1) := by
  intro l
  induction l with
  | nil => intro hist prev a1 h _ _ _ _ _; exact h
  | cons x l ih =>
    intro hist prev a1 h hl hv hs hp hq
    obtain ⟨o, e⟩ := x
    cases hist with
    | nil => simp at hl
    | cons R hist =>
      have h0 := hs 0 o e rfl
      cases hd : o.dst with
      | none => simp [hd] at h0
      | some d =>
        unfold fill
        rw [hd]
        have hv' := fun (i : Nat) (o' : Oper) (e' : Entry) (d' : Nat) (hi : l[i]? = some (o', e')) (hd' : o'.dst = some d') => hv (i + 1) o' e' d' (by simpa using hi) hd'
        have hs' := fun (i : Nat) (o' : Oper) (e' : Entry) (hi : l[i]? = some (o', e')) => hs (i + 1) o' e' (by simpa using hi)
        have hq' := fun (i j : Nat) (o o' : Oper) (e e' : Entry) (d d' : Nat) (hi : l[i]? = some (o, e)) (h1 : e.nw = true) (h2 : o.dst = some d) (hj : l[j]? = some (o', e')) (h3 : e'.nw = true) (h4 : o'.dst = some d') (hne : i ≠ j) =>
          hq (i + 1) (j + 1) o o' e e' d d' (by simpa using hi) h1 h2 (by simpa using hj) h3 h4 (by omega)
        obtain ⟨fs, gd, fl, nw⟩ := e
        cases nw with
        | false =>
          have := h _ (hv 0 o _ d rfl hd)
          rw [hd] at this
          exact ih hist prev _ this (by simpa using hl) hv' hs' (fun i o' e' d' hi hn hd' => hp (i + 1) o' e' d' (by simpa using hi) hn hd') hq'
        | true =>
          have := h _ (hv 0 o _ d rfl hd) (hp 0 o _ d rfl rfl hd)
          rw [hd] at this
          refine ih hist _ _ this (by simpa using hl) hv' hs' (fun i o' e' d' hi hn hd' u hu => ?_) hq'
          rcases List.mem_cons.1 hu with rfl | hu
          · exact hq 0 (i + 1) o o' _ e' d d' rfl rfl hd (by simpa using hi) hn hd' (by omega)
          · exact hp (i + 1) o' e' d' (by simpa using hi) hn hd' u hu

theorem fill_size (a : Act) : ∀ (l : List (Oper × Entry)) (a1 : Act), (fill a l a1).tmps.size = a1.tmps.size
  | [], _ => rfl
  | (o, _) :: l, a1 => by unfold fill; rw [fill_size a l, put_size]
theorem fill_defers (a : Act) : ∀ (l : List (Oper × Entry)) (a1 : Act), (fill a l a1).defers = a1.defers
  | [], _ => rfl
  | (o, _) :: l, a1 => by unfold fill; rw [fill_defers a l, put_defers']
theorem fill_get_ne (a : Act) (t : Nat) : ∀ (l : List (Oper × Entry)) (a1 : Act), (∀ x ∈ l, x.1.dst ≠ some t) → (fill a l a1).tmps.getD t undef = a1.tmps.getD t undef
  | [], _, _ => rfl
  | (o, e) :: l, a1, h => by
    unfold fill
    rw [fill_get_ne a t l _ (fun x hx => h x (by simp [hx])), getD_put (h (o, e) (by simp))]
theorem fill_get (a : Act) (t : Nat) : ∀ (l : List (Oper × Entry)) (a1 : Act), t < a1.tmps.size → (∃ x ∈ l, x.1.dst = some t) → (fill a l a1).tmps.getD t undef = a.tmps.getD t undef
  | [], _, _, h => by obtain ⟨x, hx, _⟩ := h; cases hx
  | (o, e) :: l, a1, ht, h => by
    unfold fill
    by_cases hl : ∃ x ∈ l, x.1.dst = some t
    · exact fill_get a t l _ (by rw [put_size]; exact ht) hl
    · rw [fill_get_ne a t l _ (fun x hx hd => hl ⟨x, hx, hd⟩)]
      obtain ⟨x, hx, hd⟩ := h
      rcases List.mem_cons.1 hx with rfl | hx
      · simp only at hd
        rw [hd, getD_put_same ht]
      · exact absurd ⟨x, hx, hd⟩ hl

theorem Act.ext' {a b : Act} (h : a.tmps = b.tmps) (h' : a.defers = b.defers) : a = b := by
  cases a; cases b; simp_all

theorem wpSpec_mono {K K' : List Rel → Prop} (hK : ∀ hist, K hist → K' hist) : ∀ (l : List (Oper × Entry)) (hist : List Rel), wpSpec P Q C D a0 K l hist → wpSpec P Q C D a0 K' l hist
  | [], hist, h => hK hist.reverse h
  | _ :: l, hist, ⟨R, h1, h2, h3⟩ => ⟨R, h1, h2, wpSpec_mono hK l _ h3⟩
theorem after_mono {G G' : Act → Prop} {w : World} (hG : ∀ a, G a → G' a) : ∀ (l : List (Oper × Entry)) (hist : List Rel) (prev : List Value) (a : Act), After G w l hist prev a → After G' w l hist prev a
  | [], _, _, a, h => hG a h
  | _ :: _, [], _, _, _ => trivial
  | (o, ⟨_, _, _, false⟩) :: os, R :: Rs, prev, a, h => fun v hv => after_mono hG os Rs prev _ (h v hv)
  | (o, ⟨_, _, _, true⟩) :: os, R :: Rs, prev, a, h => fun v hv hn => after_mono hG os Rs _ _ (h v hv hn)

/-- **A region that draws its order, looked at once.** -/
theorem wp_region_draws_D {id : Nat} {L : List Oper} {w : World} (es : List Entry) (m : Nat) (C D : World → Prop) (hm : P.follows .mixedOrders = true) (hsz : a0.tmps.size = m) (hB : drawB L.toArray m es.length es = true)
    (hC0 : C { w with drawn := w.drawn + 1 }) (hC : ∀ w w', C w → Below w.heap.size w w' → C w') (hD : ∀ w, C w → D w) (hQ : ∀ c a t w, Q (.panic c) { tmps := t, defers := a.defers } w → Q (.panic c) a w)
    (h : wpSpec P Q C D a0 (fun hist => ∀ w', C w' → After (fun a => wpListD P L.toArray Q D (L.drop es.length) a w') w' ((L.take es.length).zip es) hist [] a0) ((L.take es.length).zip es) []) :
    (Code.region id L.toArray true).wp P Q a0 w := by
  subst hsz
  have g := good_of_draw hB
  obtain ⟨hist, h1, h2, h3, h4⟩ := wpSpec_hist _ _ h (by intro j; simp; exact fun _ _ _ _ _ => trivial)
  simp only [List.reverse_nil, List.nil_append, List.length_nil, Nat.zero_add] at h1 h2 h3 h4
  have hle : es.length ≤ L.length := by simpa using g.le
  have hzl : ((L.take es.length).zip es).length = es.length := by simp; omega
  have hzip : ∀ i o e, i < es.length → L[i]? = some o → es[i]? = some e → ((L.take es.length).zip es)[i]? = some (o, e) := by
    intro i o e hi ho he
    rw [List.getElem?_zip_eq_some]
    exact ⟨by rw [List.getElem?_take, if_pos hi]; exact ho, he⟩
  have hzip' : ∀ i o e, ((L.take es.length).zip es)[i]? = some (o, e) → i < es.length ∧ L[i]? = some o ∧ es[i]? = some e := by
    intro i o e hi
    rw [List.getElem?_zip_eq_some] at hi
    have h5 := (List.getElem?_eq_some_iff.1 hi.2).1
    refine ⟨h5, ?_, hi.2⟩
    have := hi.1
    rwa [List.getElem?_take, if_pos h5] at this
  refine wp_region_held (S := D) hm ?_
  have hleft : left es.length (Array.replicate L.toArray.size false) = es.length := by
    unfold left
    rw [List.countP_eq_length.2]
    · simp
    · intro i _; rw [getD_replicate_false]; rfl
  have inv0 : Inv L.toArray C a0 es.length es hist (Array.replicate L.toArray.size false) a0 { w with drawn := w.drawn + 1 } :=
    ⟨by simp, fun j oj _ hl => (by rw [getD_replicate_false] at hl; cases hl), fun t _ _ => getD_replicate_false _ _, hC0, rfl, rfl, fun i t _ hl => (by rw [getD_replicate_false] at hl; cases hl), fun _ _ => rfl, fun i e t _ _ _ hl => (by rw [getD_replicate_false] at hl; cases hl), fun i e t _ _ _ _ _ _ hl => (by rw [getD_replicate_false] at hl; cases hl)⟩
  have := wpAny_draw g h2 hC hQ (fun i o e hi ho he => h4 i o e (hzip i o e hi (by simpa using ho) he)) hD (fun a w' hd => ?_) es.length _ a0 _ hleft inv0
  · rwa [show es.length + (L.toArray.size - es.length) = L.toArray.size by simp; omega] at this
  · have hdst : ∀ (i : Nat) (o : Oper) (e : Entry), ((L.take es.length).zip es)[i]? = some (o, e) → o.dst.isSome = true := by
      intro i o e hi
      obtain ⟨h5, h6, h7⟩ := hzip' i o e hi
      have hE := g.entry i o e h5 (by simpa using h6) h7
      simp only [entryB, Bool.and_eq_true] at hE
      have := hE.1.1.2
      cases hd : o.dst with
      | none => simp [hd] at this
      | some d => rfl
    have hA := after_fill (a := a) _ hist [] a0 (h3 w' hd.cls) (by rw [hzl]; omega) (fun i o e d hi hod => by
      obtain ⟨h5, h6, h7⟩ := hzip' i o e hi
      exact hd.done i d h5 (by simp [dstOf, h6, hod])) hdst (by simp) (fun i j o o' e e' d d' hi hn hod hj hn' hod' hne => by
      obtain ⟨h5, h6, h7⟩ := hzip' i o e hi
      obtain ⟨h8, h9, h10⟩ := hzip' j o' e' hj
      exact hd.ne i e d j e' d' h5 h7 hn (by simp [dstOf, h6, hod]) h8 h10 hn' (by simp [dstOf, h9, hod']) hne)
    have he : fill a ((L.take es.length).zip es) a0 = a := by
      refine Act.ext' ?_ (by rw [fill_defers]; exact hd.defers.symm)
      apply Array.ext
      · rw [fill_size]; exact hd.len.symm
      · intro t ht1 ht2
        have ht0 : t < a0.tmps.size := by rw [fill_size] at ht1; exact ht1
        have e1 : (fill a ((L.take es.length).zip es) a0).tmps.getD t undef = (fill a ((L.take es.length).zip es) a0).tmps[t] := by simp [Array.getD, ht1]
        have e2 : a.tmps.getD t undef = a.tmps[t] := by simp [Array.getD, ht2]
        rw [← e1, ← e2]
        by_cases hn : ∃ x ∈ (L.take es.length).zip es, x.1.dst = some t
        · exact fill_get a t _ a0 ht0 hn
        · rw [fill_get_ne a t _ a0 (fun x hx hd => hn ⟨x, hx, hd⟩)]
          refine (hd.same t fun i hi hdi => hn ?_).symm
          obtain ⟨e, he⟩ : ∃ e, es[i]? = some e := ⟨es[i], by simp [hi]⟩
          have hil : i < L.length := by omega
          have hz := hzip i L[i] e hi (by simp [hil]) he
          refine ⟨(L[i], e), List.mem_of_getElem? hz, ?_⟩
          simpa [dstOf, hil] using hdi
    rw [he] at hA
    simpa using hA

/-- The same where what may come late looks at no memory. -/
theorem wp_region_draws {id : Nat} {L : List Oper} {w : World} (es : List Entry) (m : Nat) (C : World → Prop) (hm : P.follows .mixedOrders = true) (hsz : a0.tmps.size = m) (hB : drawB L.toArray m es.length es = true)
    (hC0 : C { w with drawn := w.drawn + 1 }) (hC : ∀ w w', C w → Below w.heap.size w w' → C w') (hQ : ∀ c a t w, Q (.panic c) { tmps := t, defers := a.defers } w → Q (.panic c) a w)
    (h : wpSpec P Q C (fun _ => True) a0 (fun hist => ∀ w', C w' → After (fun a => wpList P L.toArray Q (L.drop es.length) a w') w' ((L.take es.length).zip es) hist [] a0) ((L.take es.length).zip es) []) :
    (Code.region id L.toArray true).wp P Q a0 w :=
  wp_region_draws_D es m C (fun _ => True) hm hsz hB hC0 hC (fun _ _ => trivial) hQ (wpSpec_mono (fun hist h w' hw => after_mono (fun a h => wpListD_of_wpList _ _ _ h) _ _ _ _ (h w' hw)) _ _ h)

/-! ### What one operation is asked, by its kind -/
theorem ask_run {o : Oper} {e : Entry} {v : Value} (hf : e.fl = false) (hg : e.gd = none) (hn : e.nw = false) (h : ∀ a w, C w → Known hist a0 a w e.fs → (execOp a.eval o).run P w = .ok (.value v) w) : Ask P Q C D a0 hist o e (Is v) := by
  unfold Ask
  rw [if_neg (by simp [hf])]
  intro a w hw _ _ hk
  rw [if_pos (by simp [hg, wantedB])]
  unfold Oper.wp
  rw [h a w hw hk]
  exact ⟨v, rfl, Below.refl _ _, rfl, fun h => by rw [hn] at h; cases h⟩
theorem ask_late {o : Oper} {e : Entry} {v : Value} (hf : e.fl = true) (h : ∀ a w w', C w → Known hist a0 a w e.fs → D w' → (execOp a.eval o).run P w' = .ok (.value v) w') : Ask P Q C D a0 hist o e (Is v) := by
  unfold Ask
  rw [if_pos hf]
  exact ⟨v, rfl, fun a w hw _ _ hk w' hw' => h a w w' hw hk hw'⟩
theorem ask_call {o : Oper} {e : Entry} {v : Value} {f : FuncId} {args : Array Value} (hf : e.fl = false) (hg : e.gd = none) (hn : e.nw = false) (h : ∀ a w, C w → Known hist a0 a w e.fs → (execOp a.eval o).run P w = .ok (.enter f args) w)
    (hc : ∀ w, C w → Calls P f args w fun e w' => e = .returned v ∧ Below w.heap.size w w') : Ask P Q C D a0 hist o e (Is v) := by
  unfold Ask
  rw [if_neg (by simp [hf])]
  intro a w hw _ _ hk
  rw [if_pos (by simp [hg, wantedB])]
  unfold Oper.wp
  rw [h a w hw hk]
  exact (hc w hw).mono fun e w' ⟨he, hb⟩ => by subst he; exact ⟨v, rfl, hb, rfl, fun h => by rw [hn] at h; cases h⟩
/-- A guarded operation whose guard says no. -/
theorem ask_not {o : Oper} {e : Entry} {s : Nat} {want : Bool} (hf : e.fl = false) (hg : e.gd = some (s, want)) (hn : e.nw = false) (h : ∀ a w, C w → Known hist a0 a w e.fs → a.tmps.getD s undef = .bool (!want)) : Ask P Q C D a0 hist o e (Is undef) := by
  unfold Ask
  rw [if_neg (by simp [hf])]
  intro a w hw _ _ hk
  have h1 := h a w hw hk
  rw [if_neg]
  · exact ⟨rfl, hn⟩
  · simp only [hg, wantedB]
    cases ht : a.tmps[s]? with
    | none => simp
    | some v =>
      have : v = .bool (!want) := by simpa [ht] using h1
      subst this
      cases want <;> simp
theorem wanted_yes {a : Act} {s : Nat} {want : Bool} (h : a.tmps.getD s undef = .bool want) : wantedB (some (s, want)) a = true := by
  unfold wantedB
  cases ht : a.tmps[s]? with
  | none => simp [ht, undef] at h
  | some v =>
    have : v = .bool want := by simpa [ht] using h
    subst this
    simp only [ht, beq_self_eq_true]
theorem ask_run_if {o : Oper} {e : Entry} {v : Value} {s : Nat} {want : Bool} (hf : e.fl = false) (hg : e.gd = some (s, want)) (hn : e.nw = false) (hs : ∀ a w, C w → Known hist a0 a w e.fs → a.tmps.getD s undef = .bool want)
    (h : ∀ a w, C w → Known hist a0 a w e.fs → (execOp a.eval o).run P w = .ok (.value v) w) : Ask P Q C D a0 hist o e (Is v) := by
  unfold Ask
  rw [if_neg (by simp [hf])]
  intro a w hw _ _ hk
  rw [if_pos (by rw [hg]; exact wanted_yes (hs a w hw hk))]
  unfold Oper.wp
  rw [h a w hw hk]
  exact ⟨v, rfl, Below.refl _ _, rfl, fun h => by rw [hn] at h; cases h⟩
theorem ask_call_if {o : Oper} {e : Entry} {v : Value} {f : FuncId} {args : Array Value} {s : Nat} {want : Bool} (hf : e.fl = false) (hg : e.gd = some (s, want)) (hn : e.nw = false) (hs : ∀ a w, C w → Known hist a0 a w e.fs → a.tmps.getD s undef = .bool want)
    (h : ∀ a w, C w → Known hist a0 a w e.fs → (execOp a.eval o).run P w = .ok (.enter f args) w)
    (hc : ∀ w, C w → Calls P f args w fun e w' => e = .returned v ∧ Below w.heap.size w w') : Ask P Q C D a0 hist o e (Is v) := by
  unfold Ask
  rw [if_neg (by simp [hf])]
  intro a w hw _ _ hk
  rw [if_pos (by rw [hg]; exact wanted_yes (hs a w hw hk))]
  unfold Oper.wp
  rw [h a w hw hk]
  exact (hc w hw).mono fun e w' ⟨he, hb⟩ => by subst he; exact ⟨v, rfl, hb, rfl, fun h => by rw [hn] at h; cases h⟩

/-- Operations that make a row: what is known of the pointer or slice. -/
def NewPtr (cs : Array Value) : Rel := fun w v => ∃ k, v = .pointer (some ⟨k, 0, none⟩) ∧ Blk w k cs
def NewSlice (n : Nat) (cs : Array Value) : Rel := fun w v => ∃ k, v = .slice (some ⟨k, 0, none⟩) n n ∧ Blk w k cs
theorem stable_ptr (cs : Array Value) : Stable (NewPtr cs) := fun _ _ _ hb ⟨k, h1, h2⟩ => ⟨k, h1, h2.below hb⟩
theorem stable_slice (n : Nat) (cs : Array Value) : Stable (NewSlice n cs) := fun _ _ _ hb ⟨k, h1, h2⟩ => ⟨k, h1, h2.below hb⟩
/-- A new row of the call's own. -/
def Mine (S : Nat → Prop) (w0 : World) (H R : List (Nat × Array Value)) (cs : Array Value) : Rel := fun w v => ∃ k, v = .pointer (some ⟨k, 0, none⟩) ∧ Ok S w0 w ((k, cs) :: H) R
theorem stable_mine (S : Nat → Prop) (w0 : World) (H R : List (Nat × Array Value)) (cs : Array Value) : Stable (Mine S w0 H R cs) := fun _ _ _ hb ⟨k, h1, h2⟩ => ⟨k, h1, h2.grow hb⟩
theorem ask_grow {o : Oper} {e : Entry} {R : Rel} (hf : e.fl = false) (hg : e.gd = none) (h : ∀ a w, C w → Known hist a0 a w e.fs → ∃ v w', (execOp a.eval o).run P w = .ok (.value v) w' ∧ Below w.heap.size w w' ∧ R w' v ∧ w.heap.size ≤ blockOf v ∧ blockOf v < w'.heap.size) : Ask P Q C D a0 hist o e R := by
  unfold Ask
  rw [if_neg (by simp [hf])]
  intro a w hw _ _ hk
  rw [if_pos (by simp [hg, wantedB])]
  obtain ⟨v, w', h1, h2, h3, h4⟩ := h a w hw hk
  unfold Oper.wp
  rw [h1]
  exact ⟨v, rfl, h2, h3, fun _ => h4⟩
/-- 'x := T{}'. -/
theorem ask_alloc {S : Nat → Prop} {w0 : World} {H R : List (Nat × Array Value)} {o : Oper} {e : Entry} (hf : e.fl = false) (hg : e.gd = none) (t : TypeId) (ho : o.op = .alloc t) (cs : Array Value) (hz : Zero P t cs) :
    Ask P Q (fun w => Ok S w0 w H R) D a0 hist o e (Mine S w0 H R cs) :=
  ask_grow hf hg fun _ w hw _ => ⟨_, _, run_alloc ho hz w, below_alloc _ _, ⟨_, rfl, hw.new _ _⟩, Nat.le_refl _, by simp [blockOf]⟩
/-- Two new rows. -/
theorem Ok.two {S : Nat → Prop} {w0 w : World} {H R : List (Nat × Array Value)} {k k' : Nat} {cs ds : Array Value} (h : Ok S w0 w ((k, cs) :: H) R) (h' : Ok S w0 w ((k', ds) :: H) R) (hne : k ≠ k') : Ok S w0 w ((k', ds) :: (k, cs) :: H) R := by
  refine ⟨h.os, h.tape, h.output, h.size, h.old, ?_, h.reads, ?_, ?_, ?_⟩
  · intro p hp
    rcases List.mem_cons.1 hp with rfl | hp
    · exact h'.rows _ (by simp)
    · exact h.rows p hp
  · intro p hp
    rcases List.mem_cons.1 hp with rfl | hp
    · exact h'.own _ (by simp)
    · exact h.own p hp
  · have n1 := h.nd
    have n2 := h'.nd
    simp only [List.map_cons, List.nodup_cons, List.mem_cons, not_or] at n1 n2 ⊢
    exact ⟨⟨fun e => hne e.symm, n2.1⟩, n1⟩
  · intro p hp q hq
    rcases List.mem_cons.1 hp with rfl | hp
    · exact h'.ap _ (by simp) q hq
    · exact h.ap p hp q hq

/-- A call by its contract. -/
theorem ask_gives {o : Oper} {e : Entry} {v : Value} {f : FuncId} {args : Array Value} {R' : List (Nat × Array Value)} (hf : e.fl = false) (hg : e.gd = none) (hn : e.nw = false) (h : ∀ a w, C w → Known hist a0 a w e.fs → (execOp a.eval o).run P w = .ok (.enter f args) w)
    (g : Gives P f args R' v) (hR : ∀ w, C w → ∀ p ∈ R', Blk w p.1 p.2) : Ask P Q C D a0 hist o e (Is v) :=
  ask_call hf hg hn h fun w hw => g w (hR w hw)
theorem ask_gives_if {o : Oper} {e : Entry} {v : Value} {f : FuncId} {args : Array Value} {R' : List (Nat × Array Value)} {s : Nat} {want : Bool} (hf : e.fl = false) (hg : e.gd = some (s, want)) (hn : e.nw = false) (hs : ∀ a w, C w → Known hist a0 a w e.fs → a.tmps.getD s undef = .bool want)
    (h : ∀ a w, C w → Known hist a0 a w e.fs → (execOp a.eval o).run P w = .ok (.enter f args) w)
    (g : Gives P f args R' v) (hR : ∀ w, C w → ∀ p ∈ R', Blk w p.1 p.2) : Ask P Q C D a0 hist o e (Is v) :=
  ask_call_if hf hg hn hs h fun w hw => g w (hR w hw)

/-- What a slot holds, out of what is known. -/
theorem getD_reverse {rev : List Rel} {i j : Nat} (hl : rev.length = i + j + 1) (R : Rel) : rev.reverse.getD j R = rev.getD i R := by
  rw [List.getD_eq_getElem?_getD, List.getD_eq_getElem?_getD, List.getElem?_reverse (by omega), show rev.length - 1 - j = i by omega]
theorem known_op {rev : List Rel} {a : Act} {w : World} {fs : List (Nat × Option Nat)} (hk : Known rev.reverse a0 a w fs) (t j i : Nat) (hm : (t, some j) ∈ fs) (hl : rev.length = i + j + 1) {v : Value} (hj : rev.getD i (fun _ _ => True) = Is v) : a.tmps[t]?.getD undef = v := by
  have := hk (t, some j) hm
  simp only at this
  rw [getD_reverse hl, hj] at this
  simpa using (show a.tmps.getD t undef = v from this)
theorem known_rel {rev : List Rel} {a : Act} {w : World} {fs : List (Nat × Option Nat)} (hk : Known rev.reverse a0 a w fs) (t j i : Nat) (hm : (t, some j) ∈ fs) (hl : rev.length = i + j + 1) {R : Rel} (hj : rev.getD i (fun _ _ => True) = R) : R w (a.tmps[t]?.getD undef) := by
  have := hk (t, some j) hm
  simp only at this
  rw [getD_reverse hl, hj] at this
  simpa using this
theorem known_old {a : Act} {w : World} {fs : List (Nat × Option Nat)} (hk : Known hist a0 a w fs) (t : Nat) (hm : (t, none) ∈ fs) {v : Value} (hv : a0.tmps[t]?.getD undef = v) : a.tmps[t]?.getD undef = v := by
  have := hk (t, none) hm
  rw [← hv]
  simpa using this
theorem eval_of {a : Act} {t : Nat} {v : Value} (h : a.tmps[t]?.getD undef = v) : a.eval (.tmp t) = v := by
  simpa [Act.eval] using h
theorem getD_of {a : Act} {t : Nat} {v : Value} (h : a.tmps[t]?.getD undef = v) : a.tmps.getD t undef = v := by
  simpa using h

end
end Go.Proofs.YtcodmeljjphoeaaDoor
