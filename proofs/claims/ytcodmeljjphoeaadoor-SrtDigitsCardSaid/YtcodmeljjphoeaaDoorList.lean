/-
  Lists that grow: append.
-/
import Derived.Test.YtcodmeljjphoeaaDoorProdC
import Derived.ArgAppend
namespace Go.Proofs.YtcodmeljjphoeaaDoor
open Go.RowKit
set_option linter.unusedVariables false
set_option linter.unusedSimpArgs false

/-- A new row that a call has made. -/
theorem Ok.add {S : Nat → Prop} {w0 w w' : World} {H R : List (Nat × Array Value)} (h : Ok S w0 w H R) (hb : Below w.heap.size w w') {k : Nat} {cs : Array Value} (hk : Blk w' k cs) (hn : w.heap.size ≤ k) : Ok S w0 w' ((k, cs) :: H) R := by
  have g := h.grow hb
  refine ⟨g.os, g.tape, g.output, g.size, g.old, ?_, g.reads, ?_, ?_, ?_⟩
  · intro p hp
    rcases List.mem_cons.1 hp with rfl | hp
    · exact hk
    · exact g.rows p hp
  · intro p hp
    rcases List.mem_cons.1 hp with rfl | hp
    · exact .inl (Nat.le_trans h.size hn)
    · exact g.own p hp
  · simp only [List.map_cons, List.nodup_cons]
    refine ⟨fun hm => ?_, h.nd⟩
    obtain ⟨q, hq, he⟩ := List.mem_map.1 hm
    have := (h.rows q hq).lt
    omega
  · intro p hp q hq
    rcases List.mem_cons.1 hp with rfl | hp
    · have := (h.reads q hq).lt
      simp only [ne_eq]
      omega
    · exact h.ap p hp q hq

theorem Ok.front {S : Nat → Prop} {w0 w : World} {R : List (Nat × Array Value)} (A T H : List (Nat × Array Value)) (h : Ok S w0 w (A ++ (T ++ H)) R) : Ok S w0 w (T ++ (A ++ H)) R :=
  h.perm (List.perm_append_comm_assoc T A H)

theorem below_grown {w w' : World} (h : w.grownBy w' none) : Below w.heap.size w w' :=
  ⟨h.os, h.tape, h.output, h.size, fun k hk => h.block k hk (by simp)⟩

theorem turns_trans {k : Nat} {cs ds : Array Value} {w w' w'' : World} (h : Turns k cs w w') (h' : Turns k ds w' w'') : Turns k ds w w'' :=
  ⟨h'.os.trans h.os, h'.tape.trans h.tape, h'.output.trans h.output, h'.size.trans h.size, h'.new, fun j hj => (h'.other j hj).trans (h.other j hj)⟩

theorem turns_setCells {k : Nat} : ∀ (news : List Value) (off : Nat) (cs : Array Value) (w : World), Blk w k cs → off + news.length ≤ cs.size →
    ∃ ds : Array Value, Turns k ds w (w.setCells k off news) ∧ ds.size = cs.size ∧ (∀ i, i < off → ds[i]? = cs[i]?) ∧ (∀ i, i < news.length → ds[off + i]? = news[i]?)
  | [], off, cs, w, hb, _ => ⟨cs, ⟨rfl, rfl, rfl, rfl, hb, fun _ _ => rfl⟩, rfl, fun _ _ => rfl, fun i hi => by simp at hi⟩
  | v :: rest, off, cs, w, hb, hl => by
    have ht := turns_setCell hb off v
    simp only [List.length_cons] at hl
    obtain ⟨ds, h1, h2, h3, h4⟩ := turns_setCells rest (off + 1) (cs.setIfInBounds off v) (w.setCell ⟨k, off, none⟩ v) ht.new (by simp; omega)
    refine ⟨ds, ?_, by simpa using h2, ?_, ?_⟩
    · show Turns k ds w (World.setCells (w.setCell ⟨k, off, none⟩ v) k (off + 1) rest)
      exact turns_trans ht h1
    · intro i hi
      rw [h3 i (by omega), Array.getElem?_setIfInBounds, if_neg (by omega)]
    · intro i hi
      cases i with
      | zero => rw [Nat.add_zero, h3 off (by omega), Array.getElem?_setIfInBounds, if_pos rfl, if_pos (by omega)]; rfl
      | succ i =>
        have := h4 i (by simpa using hi)
        rw [show off + (i + 1) = off + 1 + i by omega, this]; rfl

/-- A list of cells: 'v' shows xs, T being its row (none, where it is nil). -/
inductive Lst : List (Nat × Array Value) → Value → List Value → Prop
  | nil : Lst [] (.slice none 0 0) []
  | row (g cap : Nat) (cs : Array Value) (xs : List Value) (hc : xs.length ≤ cap) (hm : cap ≤ maxLen) (hs : cs.size = cap) (hx : ∀ i, i < xs.length → cs[i]? = xs[i]?) : Lst [(g, cs)] (.slice (some ⟨g, 0, none⟩) xs.length cap) xs

section
variable {P : Program} {ops : Array Oper} {Q : Exit → Act → World → Prop} {rest : List Oper} {o : Oper} {a : Act} {S : Nat → Prop} {w0 w : World} {T H R : List (Nat × Array Value)}
/-- Is it a type of one cell of so many bytes, with a zero? -/
def Elem (P : Program) (e : TypeId) : Prop := ∃ i z, P.info? e = some i ∧ i.zero = some z ∧ i.size = 1 ∧ z.cells.size = 1 ∧ i.bytes ≤ 8

def elemB (P : Program) (e : TypeId) : Bool :=
  match P.info? e with
  | some i => match i.zero with
    | some z => i.size == 1 && z.cells.size == 1 && decide (i.bytes ≤ 8)
    | none => false
  | none => false
theorem elem_of {P : Program} {e : TypeId} (h : elemB P e = true) : Elem P e := by
  unfold elemB at h
  cases hi : P.info? e with
  | none => simp [hi] at h
  | some i =>
    cases hz : i.zero with
    | none => simp [hi, hz] at h
    | some z =>
      simp [hi, hz] at h
      exact ⟨i, z, hi, hz, h.1.1, h.1.2, h.2⟩

theorem ok_append (h : Ok S w0 w (T ++ H) R) (hgd : o.guard = none) (s x : Operand) (t : TypeId) (hop : o.op = Op.call { callee := Callee.builtin Builtin.append, args := #[s, x], argTypes := #[t, t] }) (e : TypeId) (ht : P.underlying t = some (.slice e)) (he : Elem P e)
    (v : Value) (hs : a.eval s = v) (xs : List Value) (hl : Lst T v xs) (k m c : Nat) (hx : a.eval x = .slice (some ⟨k, 0, none⟩) m c) (ns : Array Value) (hk : Has (T ++ H) R k ns) (hm : ns.size = m) (h1 : ∀ u ∈ ns, u.oneCell' = true) (hsm : xs.length + m ≤ 1000000)
    (hK : ∀ w' T' v', Lst T' v' (xs ++ ns.toList) → Ok S w0 w' (T' ++ H) R → wpList P ops Q rest (a.put o.dst v') w') : wpList P ops Q (o :: rest) a w := by
  obtain ⟨i, z, h2, h3, h4, h5, h6⟩ := he
  have hcell : ∀ j u, ns.toList[j]? = some u → w.cell? ((⟨k, 0, none⟩ : Addr).add j) = some u := fun j u hj => by
    have hadd : (⟨k, 0, none⟩ : Addr).add j = ⟨k, j, none⟩ := by unfold Addr.add; split <;> simp_all
    rw [hadd, (h.has hk).cell]; simpa using hj
  have hb2 : (xs.length + m) * i.bytes ≤ 140737488355328 := by
    have := Nat.mul_le_mul hsm h6; omega
  have hmax : xs.length + m ≤ maxLen := by unfold maxLen; omega
  have grows : ∀ (ao : Option Addr) (n cap : Nat), a.eval s = .slice ao n cap → (ao = none → n = 0 ∧ cap = 0) → n = xs.length → (∀ b, ao = some b → ∀ j u, xs[j]? = some u → w.cell? (b.add j) = some u) → cap < n + m → wpList P ops Q (o :: rest) a w := by
    intro ao n cap hs' hnone hn holds hfull
    subst hn
    refine wpList_append_grows w hgd s x t hop e i z 1 i.bytes ht h2 h3 h4 rfl h5 (by omega) ao _ cap xs hs' hnone (by omega) holds ⟨k, 0, none⟩ m c ns.toList hx (by simp [hm]) hcell (by simpa using h1) hfull hmax hb2 ?_
    intro v' w' ho hg
    obtain ⟨hlen, hz | ⟨g, cap', cur, rfl, hb, hgg, hc1, hc2, hc3, hc4⟩⟩ := ho
    · omega
    · have hadd := h.add (below_grown hg) (k := g) (cs := cur) ⟨e, hgg⟩ hb
      have hok : Ok S w0 w' ([(g, cur)] ++ H) R := hadd.sub (List.Sublist.cons_cons _ (List.sublist_append_right T H)) (fun q hq => hq)
      have hlst : Lst [(g, cur)] (.slice (some ⟨g, 0, none⟩) (xs ++ ns.toList).length cap') (xs ++ ns.toList) := by
        have hl2 : (xs ++ ns.toList).length = xs.length + m := by simp [hm]
        refine .row g cap' cur _ (by omega) hc2 (by omega) fun j hj => ?_
        have : (cur.toList.take ((xs.length + m) * 1))[j]? = (xs ++ ns.toList)[j]? := by rw [hc4]
        rw [List.getElem?_take, if_pos (by omega)] at this
        simpa using this
      rw [show (xs ++ ns.toList).length = xs.length + m by simp [hm]] at hlst
      exact hK w' _ _ hlst hok
  cases hl with
  | nil => 
    by_cases hm0 : m = 0
    · refine wpList_plain hgd fun K hK' => ?_
      obtain ⟨v', w', hrun, r1, r2, r3⟩ := run_append_own (P := P) w w.heap.size t o.type e i z 1 i.bytes ht h2 h3 h4 rfl h5 (by omega) (.slice none 0 0) 0 [] (World.ownsRow_nil w _ e 1) ⟨k, 0, none⟩ m c ns.toList (by simp [hm]) hcell (by simpa using h1) hmax hb2 (Nat.le_refl _)
      have hv : v' = .slice none 0 0 := r3.2 ⟨rfl, hm0⟩
      subst hv
      unfold Oper.wp
      simp [execOp, hop, resolve, invoke, builtin, hs, hx, hrun, Result.andThen]
      have hns : ns.toList = [] := by apply List.eq_nil_of_length_eq_zero; simp [hm, hm0]
      refine hK' _ _ (hK w' [] _ ?_ (h.grow (below_grown r2)))
      rw [hns]; exact .nil
    · exact grows none 0 0 hs (fun _ => ⟨rfl, rfl⟩) rfl (fun b hb => by cases hb) (by omega)
  | row g cap cs xs hc hmx hsz hxs =>
    have hcells : ∀ j u, xs[j]? = some u → w.cell? ((⟨g, 0, none⟩ : Addr).add j) = some u := fun j u hj => by
      have hadd : (⟨g, 0, none⟩ : Addr).add j = ⟨g, j, none⟩ := by unfold Addr.add; split <;> simp_all
      have hj2 := (List.getElem?_eq_some_iff.1 hj).1
      rw [hadd, (h.rows (g, cs) (by simp)).cell, hxs j hj2]; exact hj
    by_cases hroom : xs.length + m ≤ cap
    · have hblk : Blk w g cs := h.rows (g, cs) (by simp)
      obtain ⟨ds, t1, t2, t3, t4⟩ := turns_setCells (k := g) ns.toList xs.length cs w hblk (by simp [hm]; omega)
      have hrun := run_append_room_cells (P := P) w t o.type e i ht h2 g 0 xs.length cap ⟨k, 0, none⟩ m c ns.toList (by simp [hm, h4]) hcell (by simpa using h1) hroom
        (fun j hj => by rw [hblk.cell, h4]; simp at hj ⊢; omega) (fun j hj => hblk.frozen _)
      rw [h4, Nat.mul_one, Nat.zero_add] at hrun
      refine wpList_plain hgd fun K hK' => ?_
      unfold Oper.wp
      simp [execOp, hop, resolve, invoke, builtin, hs, hx, hrun, Result.andThen]
      refine hK' _ _ (hK _ [(g, ds)] _ ?_ (h.turnAt (.head _) t1))
      have hl2 : (xs ++ ns.toList).length = xs.length + m := by simp [hm]
      rw [← hl2]
      refine .row g cap ds _ (by omega) hmx (by omega) fun j hj => ?_
      by_cases hj1 : j < xs.length
      · rw [t3 j hj1, hxs j hj1, List.getElem?_append_left hj1]
      · rw [List.getElem?_append_right (by omega), ← t4 (j - xs.length) (by simp [hm]; omega), show xs.length + (j - xs.length) = j by omega]
    · exact grows (some ⟨g, 0, none⟩) xs.length cap hs (fun hn => by cases hn) rfl (fun b hb => by cases hb; exact hcells) (by omega)
end
end Go.Proofs.YtcodmeljjphoeaaDoor
