/- The engine, part 7: new blocks. -/
import Derived.Test.YtabhhckaclibaaaGreatEngC
import Derived.Laws.Append
import Derived.Laws.IdiomStrings
import Derived.Laws.Tables
set_option linter.all false
namespace Go.Eng

/-! ### lists of blocks -/
theorem lk_cons_self (b : Nat) (x : Blk) (l : List (Nat × Blk)) : lk ((b, x) :: l) b = some x := by simp [lk]
theorem lk_cons_ne {b i : Nat} (h : i ≠ b) (x : Blk) (l : List (Nat × Blk)) : lk ((b, x) :: l) i = lk l i := by simp [lk, Ne.symm h]
theorem lk_up (l : List (Nat × Blk)) (b i : Nat) (x : Blk) : lk (up l b x) i = if i = b then (lk l b).map fun _ => x else lk l i := by
  induction l with
  | nil => simp [up, lk]
  | cons p l ih =>
    obtain ⟨j, y⟩ := p
    simp only [up]
    split
    · rename_i h; subst h
      by_cases hi : i = j
      · subst hi; simp [lk]
      · simp [lk, hi, Ne.symm hi]
    · rename_i h
      by_cases hi : i = b
      · subst hi; simp [lk, h, ih]
      · simp only [lk, ih, hi, if_false]
theorem lk_del (l : List (Nat × Blk)) (b i : Nat) : lk (del l b) i = if i = b then none else lk l i := by
  induction l with
  | nil => simp [del, lk]
  | cons p l ih =>
    obtain ⟨j, y⟩ := p
    simp only [del]
    split
    · rename_i h; subst h
      rw [ih]
      by_cases hi : i = j
      · simp [hi]
      · simp [lk, hi, Ne.symm hi]
    · rename_i h
      by_cases hi : i = b
      · subst hi; simp [lk, h, ih]
      · simp only [lk, ih, hi, if_false]

theorem AH.get_set (h : AH) (b i : Nat) (x : Blk) : (h.set b x).get i = if i = b then (h.get b).map fun _ => x else h.get i := lk_up _ _ _ _
theorem AH.get_del (h : AH) (b i : Nat) : (h.del b).get i = if i = b then none else h.get i := lk_del _ _ _
theorem AH.get_add (h : AH) (b i : Nat) (x : Blk) : (h.add b x).get i = if i = b then some x else h.get i := by
  unfold AH.add AH.get
  by_cases hi : i = b
  · subst hi; simp [lk]
  · simp [lk, hi, Ne.symm hi]
@[simp] theorem AH.next_set (h : AH) (b : Nat) (x : Blk) : (h.set b x).next = h.next := rfl
@[simp] theorem AH.next_del (h : AH) (b : Nat) : (h.del b).next = h.next := rfl
@[simp] theorem AH.next_add (h : AH) (b : Nat) (x : Blk) : (h.add b x).next = h.next := rfl

/-! ### a new block -/
structure Laid (w w' : World) (obj : Obj) : Prop where
  heap : w'.heap = w.heap.push obj
  os : w'.os = w.os
  tape : w'.tape = w.tape
  out : w'.output = w.output

theorem Laid.get {w w' : World} {obj : Obj} (h : Laid w w' obj) (k : Nat) : w'.heap[k]? = if k = w.heap.size then some obj else w.heap[k]? := by
  rw [h.heap, Array.getElem?_push]
theorem Laid.size {w w' : World} {obj : Obj} (h : Laid w w' obj) : w'.heap.size = w.heap.size + 1 := by rw [h.heap, Array.size_push]

theorem laid_alloc (w : World) (o : Obj) : Laid w (w.alloc o) o := ⟨rfl, rfl, rfl, rfl⟩
theorem laid_drew (w : World) (o : Obj) : Laid w (w.drew.alloc o) o := ⟨rfl, rfl, rfl, rfl⟩

/-- The place after a new block is laid. -/
def Cx.lay (x : Cx) (w' : World) (b : Nat) (h' : AH) : Cx := { w := w', β := fun i => if i = b then some (x.w.heap.size, 0) else x.β i, h := h', Fr := x.Fr, R := fun i => i = b ∨ x.R i }

/-- Where else the memory is as it was. -/
structure NewAt (h h' : AH) (b : Nat) (blk : Blk) : Prop where
  next : h'.next = h.next
  at_ : h'.get b = some blk
  other : ∀ i, i ≠ b → h'.get i = h.get i

theorem lay_step {x : Cx} {P : Program} {cfg : Cfg} (hs : Sim P cfg x) {w' : World} {obj : Obj} {b : Nat} {h' : AH} {blk : Blk} (hl : Laid x.w w' obj) (hR : ¬ x.R b) (hn : NewAt x.h h' b blk) : Step x (x.lay w' b h') where
  fr := rfl
  size := by show _ ≤ w'.heap.size; rw [hl.size]; omega
  same k hk _ := by show w'.heap[k]? = _; rw [hl.get]; rw [if_neg (by omega)]
  cells k c T fr h := by
    have hk := (Array.getElem?_eq_some_iff.1 h).1
    refine ⟨c, fr, ?_, rfl⟩
    show w'.heap[k]? = _
    rw [hl.get, if_neg (by omega)]; exact h
  os := hl.os
  tape := hl.tape
  out := hl.out
  next := by show _ ≤ h'.next; rw [hn.next]; omega
  loc i hi := ⟨.inr hi, by
    show (if i = b then _ else _) = _
    rw [if_neg (fun e => by subst e; exact hR hi)]⟩
  own k ho := by
    obtain ⟨i, off, h1, h2⟩ := ho
    simp only [Cx.lay] at h1 h2
    by_cases hi : i = b
    · subst hi
      simp at h2
      right; omega
    · left
      rw [if_neg hi] at h2
      rw [hn.other i hi] at h1
      exact ⟨i, off, h1, h2⟩

theorem lay_sim {x : Cx} {P : Program} {cfg : Cfg} (hs : Sim P cfg x) {w' : World} {obj : Obj} {b : Nat} {h' : AH} {blk : Blk} (hl : Laid x.w w' obj) (hR : ¬ x.R b) (hb : b < x.h.next) (hn : NewAt x.h h' b blk)
    (hblk : BlkOk P cfg (x.lay w' b h') b blk) : Sim P cfg (x.lay w' b h') := by
  have st := lay_step hs hl hR hn
  refine ⟨fun i hi => ?_, fun i hi => ?_, fun i hi => ?_, fun i blk' hi hRi => ?_, fun i j k off off' hi hj ei ej => ?_, fun k ho => ?_, fun k hk => ?_⟩
  · show i < h'.next
    rw [hn.next]
    by_cases e : i = b
    · omega
    · exact hs.lt i (by simpa only [Cx.lay, hn.other i e] using hi)
  · show i < h'.next
    rw [hn.next]
    rcases hi with e | e
    · omega
    · exact hs.rlt i e
  · show (if i = b then _ else _) = _
    simp only [Cx.lay, not_or] at hi
    rw [if_neg hi.1]; exact hs.nr i hi.2
  · by_cases e : i = b
    · subst e
      simp only [Cx.lay] at hi
      rw [hn.at_] at hi
      simp only [Option.some.injEq] at hi
      subst hi; exact hblk
    · simp only [Cx.lay] at hi hRi
      rw [hn.other i e] at hi
      have hRi' : x.R i := hRi.resolve_left e
      refine (hs.ok i blk' hi hRi').step st (st.loc i hRi').2 fun k off hβ => ?_
      have := (hs.own k ⟨i, off, by simp [hi], hβ⟩).1
      show w'.heap[k]? = _
      rw [hl.get, if_neg (by omega)]
  · simp only [Cx.lay] at hi hj ei ej
    by_cases e : i = b
    · subst e
      by_cases e' : j = i
      · exact e'.symm
      · simp at ei
        rw [if_neg e'] at ej
        rw [hn.other j e'] at hj
        have := (hs.own k ⟨j, off', hj, ej⟩).1
        omega
    · rw [if_neg e] at ei
      rw [hn.other i e] at hi
      by_cases e' : j = b
      · subst e'
        simp at ej
        have := (hs.own k ⟨i, off, hi, ei⟩).1
        omega
      · rw [if_neg e'] at ej
        rw [hn.other j e'] at hj
        exact hs.inj i j k off off' hi hj ei ej
  · obtain ⟨i, off, h1, h2⟩ := ho
    simp only [Cx.lay] at h1 h2 ⊢
    by_cases e : i = b
    · subst e
      simp at h2
      refine ⟨by rw [hl.size]; omega, fun hf => ?_⟩
      have := hs.fr k hf
      omega
    · rw [if_neg e] at h2
      rw [hn.other i e] at h1
      have := hs.own k ⟨i, off, h1, h2⟩
      exact ⟨by rw [hl.size]; omega, this.2⟩
  · have := hs.fr k hk
    show k < w'.heap.size
    rw [hl.size]; omega

theorem lay_keeps {x : Cx} {w' : World} {b : Nat} {h' : AH} {blk : Blk} (hn : NewAt x.h h' b blk) : Keeps (· = b) x (x.lay w' b h') := fun i _ hr hd =>
  ⟨hn.other i hd, fun h => h.elim hd hr⟩

/-! ### rows out of cells -/
theorem ARow_of {x : Cx} {k : Nat} : ∀ {row : List AV} {vs : List Value} {off : Nat}, CAs x row vs → (∀ u ∈ vs, leafV u) → (∀ (j : Nat) (v : Value), vs[j]? = some v → x.w.cell? ⟨k, off + j, none⟩ = some v) → ARow x k off row
  | [], _, _, _, _, _ => by simp [ARow]
  | _ :: _, [], _, h, _, _ => by simp [CAs] at h
  | y :: ys, v :: vs, off, h, hl, hc => by
    simp only [CAs] at h
    simp only [ARow]
    refine ⟨⟨v, by simpa using hc 0 v rfl, hl v (by simp), h.1⟩, ARow_of h.2 (fun u hu => hl u (by simp [hu])) fun j u hj => ?_⟩
    have := hc (j + 1) u (by simpa using hj)
    rw [show off + 1 + j = off + (j + 1) by omega]; exact this

theorem ARows_of {x : Cx} {k : Nat} : ∀ {rows : List (List AV)} {vs : List Value} {off : Nat}, CAs x rows.flatten vs → (∀ u ∈ vs, leafV u) → (∀ (j : Nat) (v : Value), vs[j]? = some v → x.w.cell? ⟨k, off + j, none⟩ = some v) → ARows x k off rows
  | [], _, _, _, _, _ => by simp [ARows]
  | r :: rs, vs, off, h, hl, hc => by
    simp only [List.flatten_cons] at h
    simp only [ARows]
    have h1 := CAs_take h r.length
    have h2 := CAs_drop h r.length
    simp only [List.take_left, List.drop_left] at h1 h2
    refine ⟨ARow_of h1 (fun u hu => hl u (List.mem_of_mem_take hu)) fun j v hj => ?_, ARows_of h2 (fun u hu => hl u (List.mem_of_mem_drop hu)) fun j v hj => ?_⟩
    · rw [List.getElem?_take] at hj
      split at hj
      · exact hc j v hj
      · cases hj
    · rw [List.getElem?_drop] at hj
      rw [Nat.add_assoc]; exact hc _ v hj

theorem cell_of {w : World} {k : Nat} {c : Array Value} {T : TypeId} {fr : Nat × Nat} (h : w.heap[k]? = some (.cells c T fr)) (j : Nat) : w.cell? ⟨k, j, none⟩ = c[j]? := by
  simp [World.cell?, h]

/-- A value's cells, with those of its abstract one. -/
theorem cellsA_ok (x : Cx) {v : Value} (h : okVal v = true) (ht : isTup v = false) : CAs x (cellsA (ofVal v)) v.cells.toList ∧ ∀ u ∈ v.cells.toList, leafV u := by
  have h0 := ofVal_ok x v h
  cases v with
  | agg cs =>
    obtain ⟨l⟩ := cs
    simp only [okVal] at h
    simpa [ofVal, cellsA, Value.cells] using ofLeaves_ok x l h
  | tuple cs => cases ht
  | _ =>
    refine ⟨?_, by simp [Value.cells, leafV]⟩
    simp only [Value.cells, cellsA]
    generalize hg : ofVal _ = y at h0
    cases y <;> first
      | (simp only [CAs]; exact ⟨h0, trivial⟩)
      | (exfalso; simp only [CA] at h0; obtain ⟨_, e, _⟩ := h0; cases e; done)

end Go.Eng

