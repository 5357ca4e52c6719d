/- The engine, part 9: what writing does to a place. -/
import Derived.Test.YtabhhckaclibaaaGreatEngE
import Derived.Laws.IdiomCopy
set_option linter.all false
namespace Go.Eng

structure Wrote (w w' : World) (k : Nat) : Prop where
  size : w'.heap.size = w.heap.size
  other : ∀ j, j ≠ k → w'.heap[j]? = w.heap[j]?
  cells : ∀ (c : Array Value) (T : TypeId) (fr : Nat × Nat), w.heap[k]? = some (Obj.cells c T fr) → ∃ c' fr', w'.heap[k]? = some (Obj.cells c' T fr') ∧ c'.size = c.size
  os : w'.os = w.os
  tape : w'.tape = w.tape
  out : w'.output = w.output

theorem Wrote.refl (w : World) (k : Nat) : Wrote w w k := ⟨rfl, fun _ _ => rfl, fun c _ fr h => ⟨c, fr, h, rfl⟩, rfl, rfl, rfl⟩

theorem wrote_step {x y : Cx} {k : Nat} (hk : Own x.β x.h k) (hw : Wrote x.w y.w k) (hf : y.Fr = x.Fr) (hn : y.h.next = x.h.next)
    (hl : ∀ i, x.R i → y.R i ∧ y.β i = x.β i) (ho : ∀ k, Own y.β y.h k → Own x.β x.h k) : Step x y where
  fr := hf
  size := by rw [hw.size]; omega
  same j _ hj := hw.other j fun e => by subst e; exact hj hk
  cells j c T fr h := by
    by_cases e : j = k
    · subst e; exact hw.cells c T fr h
    · exact ⟨c, fr, (hw.other j e).trans h, rfl⟩
  os := hw.os
  tape := hw.tape
  out := hw.out
  next := by omega
  loc := hl
  own j h := .inl (ho j h)

/-- A block's content is another one. -/
theorem put_sim {P : Program} {cfg : Cfg} {x : Cx} (hs : Sim P cfg x) {w' : World} {b k off : Nat} {blk blk' : Blk} (hg : x.h.get b = some blk) (hR : x.R b) (hβ : x.β b = some (k, off)) (hw : Wrote x.w w' k)
    (hblk : Step x { x with w := w', h := x.h.set b blk' } → BlkOk P cfg { x with w := w', h := x.h.set b blk' } b blk') :
    Step x { x with w := w', h := x.h.set b blk' } ∧ Sim P cfg { x with w := w', h := x.h.set b blk' } ∧ ∀ D, Keeps D x { x with w := w', h := x.h.set b blk' } := by
  have hsome : ∀ i, ((x.h.set b blk').get i).isSome = (x.h.get i).isSome := fun i => by
    rw [AH.get_set]
    split
    · rename_i e; subst e; simp [hg]
    · rfl
  have hown : ∀ k, Own x.β (x.h.set b blk') k → Own x.β x.h k := fun k ⟨i, o, h1, h2⟩ => ⟨i, o, (hsome i) ▸ h1, h2⟩
  have hk : Own x.β x.h k := ⟨b, off, by simp [hg], hβ⟩
  have st : Step x { x with w := w', h := x.h.set b blk' } := wrote_step hk hw rfl rfl (fun i hi => ⟨hi, rfl⟩) hown
  refine ⟨st, ⟨fun i hi => hs.lt i ((hsome i) ▸ hi), hs.rlt, hs.nr, fun i blk2 hi hRi => ?_, fun i j k off off' hi hj => hs.inj i j k off off' ((hsome i) ▸ hi) ((hsome j) ▸ hj), fun j hj => ?_, fun j hj => ?_⟩, fun D i _ hRi _ => ⟨?_, hRi⟩⟩
  · simp only [AH.get_set] at hi
    split at hi
    · rename_i e; subst e
      simp only [hg, Option.map_some, Option.some.injEq] at hi
      subst hi
      exact hblk st
    · rename_i e
      refine (hs.ok i blk2 hi hRi).step st rfl fun k2 off2 h2 => hw.other k2 fun e2 => ?_
      subst e2
      exact e (hs.inj i b k2 off2 off (by simp [hi]) (by simp [hg]) h2 hβ)
  · have := hs.own j (hown j hj)
    exact ⟨by show j < w'.heap.size; rw [hw.size]; exact this.1, this.2⟩
  · show j < w'.heap.size
    rw [hw.size]; exact hs.fr j hj
  · show (x.h.set b blk').get i = _
    rw [AH.get_set, if_neg (fun e => by subst e; exact hRi hR)]

/-- A block is given up. -/
theorem del_sim {P : Program} {cfg : Cfg} {x : Cx} (hs : Sim P cfg x) {b : Nat} (hR : x.R b) :
    Step x { x with h := x.h.del b } ∧ Sim P cfg { x with h := x.h.del b } ∧ ∀ D, Keeps D x { x with h := x.h.del b } := by
  have hsome : ∀ i, ((x.h.del b).get i).isSome = true → (x.h.get i).isSome = true ∧ i ≠ b := fun i h => by
    rw [AH.get_del] at h
    split at h
    · simp at h
    · rename_i e; exact ⟨h, e⟩
  have hown : ∀ k, Own x.β (x.h.del b) k → Own x.β x.h k := fun k ⟨i, o, h1, h2⟩ => ⟨i, o, (hsome i h1).1, h2⟩
  have st : Step x { x with h := x.h.del b } := ⟨rfl, Nat.le_refl _, fun _ _ _ => rfl, fun _ c _ fr h => ⟨c, fr, h, rfl⟩, rfl, rfl, rfl, Nat.le_refl _, fun i hi => ⟨hi, rfl⟩, fun k h => .inl (hown k h)⟩
  refine ⟨st, ⟨fun i hi => hs.lt i (hsome i hi).1, hs.rlt, hs.nr, fun i blk2 hi hRi => ?_, fun i j k off off' hi hj => hs.inj i j k off off' (hsome i hi).1 (hsome j hj).1, fun j hj => hs.own j (hown j hj), hs.fr⟩, fun D i _ hRi _ => ⟨?_, hRi⟩⟩
  · simp only [AH.get_del] at hi
    split at hi
    · cases hi
    · exact (hs.ok i blk2 hi hRi).step st rfl fun _ _ _ => rfl
  · show (x.h.del b).get i = _
    rw [AH.get_del, if_neg (fun e => by subst e; exact hRi hR)]

/-- A block that lies in no memory, or in memory that nobody owned: taken over as b. -/
def Cx.adopt (x : Cx) (w' : World) (b : Nat) (loc : Option (Nat × Nat)) (h' : AH) : Cx := { w := w', β := fun i => if i = b then loc else x.β i, h := h', Fr := x.Fr, R := fun i => i = b ∨ x.R i }

/-- From a place where b0 is given up, and what it lay in taken over as b. -/
theorem move_sim {P : Program} {cfg : Cfg} {x : Cx} (hs : Sim P cfg x) {w' : World} {b b0 k off off' : Nat} {blk0 blk : Blk} (hg0 : x.h.get b0 = some blk0) (hR0 : x.R b0) (hβ0 : x.β b0 = some (k, off)) (hw : Wrote x.w w' k)
    (hR : ¬ x.R b) (hb : b < x.h.next) {h' : AH} (hn : NewAt (x.h.del b0) h' b blk)
    (hblk : Step x (x.adopt w' b (some (k, off')) h') → BlkOk P cfg (x.adopt w' b (some (k, off')) h') b blk) :
    Step x (x.adopt w' b (some (k, off')) h') ∧ Sim P cfg (x.adopt w' b (some (k, off')) h') ∧ Keeps (· = b) x (x.adopt w' b (some (k, off')) h') := by
  have hne : ∀ i, x.R i → i ≠ b := fun i hi e => by subst e; exact hR hi
  have hget : ∀ i, i ≠ b → ∀ y, h'.get i = some y → x.h.get i = some y ∧ i ≠ b0 := fun i hi y h => by
    rw [hn.other i hi, AH.get_del] at h
    split at h
    · cases h
    · rename_i e; exact ⟨h, e⟩
  have hk : Own x.β x.h k := ⟨b0, off, by simp [hg0], hβ0⟩
  have hown : ∀ k2, Own (x.adopt w' b (some (k, off')) h').β h' k2 → Own x.β x.h k2 := fun k2 ⟨i, o, h1, h2⟩ => by
    simp only [Cx.adopt] at h2
    split at h2
    · simp only [Option.some.injEq, Prod.mk.injEq] at h2
      exact h2.1 ▸ hk
    · rename_i e
      obtain ⟨y, hy⟩ := Option.isSome_iff_exists.1 h1
      exact ⟨i, o, by simp [(hget i e y hy).1], h2⟩
  have st : Step x (x.adopt w' b (some (k, off')) h') := wrote_step hk hw rfl hn.next (fun i hi => ⟨.inr hi, by simp only [Cx.adopt]; rw [if_neg (hne i hi)]⟩) hown
  refine ⟨st, ⟨fun i hi => ?_, fun i hi => ?_, fun i hi => ?_, fun i blk2 hi hRi => ?_, fun i j k1 o1 o2 hi hj e1 e2 => ?_, fun j hj => ?_, fun j hj => ?_⟩, fun i hin hRi hd => ⟨?_, fun h => h.elim hd hRi⟩⟩
  · show i < h'.next
    rw [hn.next, AH.next_del]
    by_cases e : i = b
    · omega
    · obtain ⟨y, hy⟩ := Option.isSome_iff_exists.1 hi
      exact hs.lt i (by simp [(hget i e y hy).1])
  · show i < h'.next
    rw [hn.next, AH.next_del]
    rcases hi with e | e
    · omega
    · exact hs.rlt i e
  · simp only [Cx.adopt, not_or] at hi ⊢
    rw [if_neg hi.1]; exact hs.nr i hi.2
  · by_cases e : i = b
    · subst e
      have : h'.get i = some blk2 := hi
      rw [hn.at_] at this
      simp only [Option.some.injEq] at this
      subst this; exact hblk st
    · obtain ⟨h1, h2⟩ := hget i e blk2 hi
      have hRi' : x.R i := hRi.resolve_left e
      refine (hs.ok i blk2 h1 hRi').step st (st.loc i hRi').2 fun k2 off2 h3 => hw.other k2 fun e2 => ?_
      subst e2
      exact h2 (hs.inj i b0 k2 off2 off (by simp [h1]) (by simp [hg0]) h3 hβ0)
  · have hi' : (h'.get i).isSome = true := hi
    have hj' : (h'.get j).isSome = true := hj
    obtain ⟨yi, hyi⟩ := Option.isSome_iff_exists.1 hi'
    obtain ⟨yj, hyj⟩ := Option.isSome_iff_exists.1 hj'
    simp only [Cx.adopt] at e1 e2
    by_cases ei : i = b
    · by_cases ej : j = b
      · rw [ei, ej]
      · rw [if_pos ei] at e1
        rw [if_neg ej] at e2
        simp only [Option.some.injEq, Prod.mk.injEq] at e1
        obtain ⟨h1, h2⟩ := hget j ej yj hyj
        exact absurd (hs.inj j b0 k1 o2 off (by simp [h1]) (by simp [hg0]) e2 (e1.1 ▸ hβ0)) h2
    · rw [if_neg ei] at e1
      obtain ⟨h1, h2⟩ := hget i ei yi hyi
      by_cases ej : j = b
      · rw [if_pos ej] at e2
        simp only [Option.some.injEq, Prod.mk.injEq] at e2
        exact absurd (hs.inj i b0 k1 o1 off (by simp [h1]) (by simp [hg0]) e1 (e2.1 ▸ hβ0)) h2
      · rw [if_neg ej] at e2
        obtain ⟨h3, h4⟩ := hget j ej yj hyj
        exact hs.inj i j k1 o1 o2 (by simp [h1]) (by simp [h3]) e1 e2
  · have := hs.own j (hown j hj)
    exact ⟨by show j < w'.heap.size; rw [hw.size]; exact this.1, this.2⟩
  · show j < w'.heap.size
    rw [hw.size]; exact hs.fr j hj
  · show h'.get i = _
    rw [hn.other i hd, AH.get_del, if_neg (fun e => by subst e; exact hRi hR0)]

/-- A block without memory. -/
theorem adopt_none {P : Program} {cfg : Cfg} {x : Cx} (hs : Sim P cfg x) {b sz : Nat} (hR : ¬ x.R b) (hb : b < x.h.next) {h' : AH} (hn : NewAt x.h h' b (.cells sz [])) :
    Step x (x.adopt x.w b none h') ∧ Sim P cfg (x.adopt x.w b none h') ∧ Keeps (· = b) x (x.adopt x.w b none h') := by
  have hne : ∀ i, x.R i → i ≠ b := fun i hi e => by subst e; exact hR hi
  have hown : ∀ k2, Own (x.adopt x.w b none h').β h' k2 → Own x.β x.h k2 := fun k2 ⟨i, o, h1, h2⟩ => by
    simp only [Cx.adopt] at h2
    split at h2
    · cases h2
    · rename_i e
      rw [hn.other i e] at h1
      exact ⟨i, o, h1, h2⟩
  have st : Step x (x.adopt x.w b none h') := ⟨rfl, Nat.le_refl _, fun _ _ _ => rfl, fun _ c _ fr h => ⟨c, fr, h, rfl⟩, rfl, rfl, rfl, by show _ ≤ h'.next; rw [hn.next]; exact Nat.le_refl _,
    fun i hi => ⟨.inr hi, by simp only [Cx.adopt]; rw [if_neg (hne i hi)]⟩, fun k h => .inl (hown k h)⟩
  refine ⟨st, ⟨fun i hi => ?_, fun i hi => ?_, fun i hi => ?_, fun i blk2 hi hRi => ?_, fun i j k1 o1 o2 hi hj e1 e2 => ?_, fun j hj => hs.own j (hown j hj), hs.fr⟩, fun i hin hRi hd => ⟨hn.other i hd, fun h => h.elim hd hRi⟩⟩
  · show i < h'.next
    rw [hn.next]
    by_cases e : i = b
    · omega
    · exact hs.lt i (by rw [← hn.other i e]; exact hi)
  · show i < h'.next
    rw [hn.next]
    rcases hi with e | e
    · omega
    · exact hs.rlt i e
  · simp only [Cx.adopt, not_or] at hi ⊢
    rw [if_neg hi.1]; exact hs.nr i hi.2
  · by_cases e : i = b
    · subst e
      have : h'.get i = some blk2 := hi
      rw [hn.at_] at this
      simp only [Option.some.injEq] at this
      subst this
      simp only [BlkOk]
      refine ⟨fun k off e => ?_, fun e => absurd rfl e⟩
      simp [Cx.adopt] at e
    · have h1 : x.h.get i = some blk2 := by rw [← hn.other i e]; exact hi
      have hRi' : x.R i := hRi.resolve_left e
      exact (hs.ok i blk2 h1 hRi').step st (st.loc i hRi').2 fun _ _ _ => rfl
  · simp only [Cx.adopt] at e1 e2 hi hj
    split at e1
    · cases e1
    · split at e2
      · cases e2
      · rename_i n1 n2
        rw [hn.other i n1] at hi
        rw [hn.other j n2] at hj
        exact hs.inj i j k1 o1 o2 hi hj e1 e2

/-! ### cells that are stored -/
theorem setCell_heap (w : World) (k o : Nat) (v : Value) (j : Nat) : (w.setCell ⟨k, o, none⟩ v).heap[j]? = if j = k then (w.heap[j]?).map fun | .cells c e f => .cells (c.setIfInBounds o v) e f | ob => ob else w.heap[j]? := by
  unfold World.setCell
  simp only [Array.getElem?_modify]
  by_cases h : k = j
  · subst h
    simp only [if_true]
    cases w.heap[k]? with
    | none => rfl
    | some ob => cases ob <;> simp
  · simp [h, Ne.symm h]

theorem setCells_heap (k : Nat) {T : TypeId} {fr : Nat × Nat} : ∀ (vs : List Value) (o : Nat) (w : World) (c : Array Value), w.heap[k]? = some (.cells c T fr) → o + vs.length ≤ c.size →
    (w.setCells k o vs).heap[k]? = some (.cells (c.toList.take o ++ vs ++ c.toList.drop (o + vs.length)).toArray T fr)
  | [], o, w, c, h, _ => by simp [World.setCells, h]
  | v :: vs, o, w, c, h, hl => by
    simp only [List.length_cons] at hl
    rw [World.setCells, setCells_heap (T := T) (fr := fr) k vs (o + 1) _ (c.setIfInBounds o v) (by rw [setCell_heap]; simp [h]) (by simp; omega)]
    have hlc : o < c.toList.length := by simp; omega
    have e : (c.toList.take o).length = o := by simp; omega
    rw [Array.toList_setIfInBounds, List.set_eq_take_append_cons_drop, if_pos hlc]
    generalize c.toList = l at *
    congr 2
    simp only [List.take_append, List.drop_append, e, List.length_cons, List.take_take, List.drop_take]
    rw [show min (o + 1) o = o by omega, show o + 1 - o = 1 by omega, show o - (o + 1 + vs.length) = 0 by omega, show o + 1 + vs.length - o = vs.length + 1 by omega]
    simp [Nat.add_comm, Nat.add_left_comm]

theorem setCells_other (k : Nat) : ∀ (vs : List Value) (o : Nat) (w : World) (j : Nat), j ≠ k → (w.setCells k o vs).heap[j]? = w.heap[j]?
  | [], _, _, _, _ => rfl
  | v :: vs, o, w, j, h => by rw [World.setCells, setCells_other k vs _ _ j h, setCell_heap, if_neg h]
theorem setCells_size (k : Nat) : ∀ (vs : List Value) (o : Nat) (w : World), (w.setCells k o vs).heap.size = w.heap.size
  | [], _, _ => rfl
  | v :: vs, o, w => by rw [World.setCells, setCells_size k vs]; simp
theorem setCells_os (k : Nat) : ∀ (vs : List Value) (o : Nat) (w : World), (w.setCells k o vs).os = w.os ∧ (w.setCells k o vs).tape = w.tape ∧ (w.setCells k o vs).output = w.output
  | [], _, _ => ⟨rfl, rfl, rfl⟩
  | v :: vs, o, w => by rw [World.setCells]; exact setCells_os k vs _ _

theorem setCells_wrote {k : Nat} {vs : List Value} {o : Nat} {w : World} {c : Array Value} {T : TypeId} {fr : Nat × Nat} (h : w.heap[k]? = some (.cells c T fr)) (hl : o + vs.length ≤ c.size) : Wrote w (w.setCells k o vs) k where
  size := setCells_size _ _ _ _
  other j hj := setCells_other _ _ _ _ j hj
  cells c' T' fr' h' := by
    rw [h] at h'
    simp only [Option.some.injEq, Obj.cells.injEq] at h'
    obtain ⟨rfl, rfl, rfl⟩ := h'
    refine ⟨_, _, setCells_heap k vs o w c h hl, ?_⟩
    simp; omega
  os := (setCells_os _ _ _ _).1
  tape := (setCells_os _ _ _ _).2.1
  out := (setCells_os _ _ _ _).2.2

/-- Storing cells into a block that may be written. -/
theorem storeCells_ok {P : Program} {w : World} {k o : Nat} {vs : List Value} (hf : Free w k) (hr : HasRoom w k (o + vs.length)) (hl : ∀ v ∈ vs, leafV v) :
    (storeCells ⟨k, o, none⟩ vs).run P w = .ok () (w.setCells k o vs) := by
  obtain ⟨c, T, fr, hc, hfr⟩ := hf
  obtain ⟨c', T', fr', hc', hsz⟩ := hr
  rw [hc] at hc'
  simp only [Option.some.injEq, Obj.cells.injEq] at hc'
  obtain ⟨rfl, rfl, rfl⟩ := hc'
  have := run_storeCells_cells (P := P) k o vs 0 w (fun j hj => ?_) (fun j hj => ?_) (fun v hv => ?_)
  · simpa using this
  · rw [cell_of hc]
    simp
    omega
  · simp only [World.frozen?, hc]
    obtain ⟨lo, hi⟩ := fr
    simp only [Bool.and_eq_false_iff, decide_eq_false_iff_not]
    simp only at hfr
    omega
  · have := hl v hv
    cases v <;> simp_all [leafV, Value.oneCell']

theorem cell_setCells {w : World} {k o : Nat} {vs : List Value} (hr : HasRoom w k (o + vs.length)) (j : Nat) :
    (w.setCells k o vs).cell? ⟨k, j, none⟩ = if j < o then w.cell? ⟨k, j, none⟩ else if j < o + vs.length then vs[j - o]? else w.cell? ⟨k, j, none⟩ := by
  obtain ⟨c, T, fr, hc, hsz⟩ := hr
  rw [cell_of (setCells_heap k vs o w c hc hsz), cell_of hc]
  have hlc : c.toList.length = c.size := by simp
  simp only [List.getElem?_toArray, List.getElem?_append, List.length_append, List.length_take, hlc, List.getElem?_take, List.getElem?_drop, Array.getElem?_toList]
  rw [Nat.min_eq_left (by omega)]
  by_cases h1 : j < o
  · rw [if_pos (by omega), if_pos h1, if_pos h1, if_pos h1]
  · by_cases h2 : j < o + vs.length
    · rw [if_pos h2, if_neg h1, if_neg h1, if_pos h2]
    · rw [if_neg h2, if_neg h1, if_neg h2, show o + vs.length + (j - (o + vs.length)) = j by omega]

theorem Free.set {w : World} {k o : Nat} {vs : List Value} (h : Free w k) (hr : HasRoom w k (o + vs.length)) : Free (w.setCells k o vs) k := by
  obtain ⟨c, T, fr, hc, hfr⟩ := h
  obtain ⟨c', T', fr', hc', hsz⟩ := hr
  rw [hc] at hc'
  simp only [Option.some.injEq, Obj.cells.injEq] at hc'
  obtain ⟨rfl, rfl, rfl⟩ := hc'
  refine ⟨_, _, _, setCells_heap k vs o w c hc hsz, ?_⟩
  simp only [List.size_toArray, List.length_append, List.length_take, List.length_drop, Array.length_toList]
  omega

/-- Rows whose cells stay. -/
theorem ARow_cells {x y : Cx} (s : Step x y) {k k' : Nat} : ∀ (l : List AV) (off : Nat), (∀ j, j < l.length → y.w.cell? ⟨k, off + j, none⟩ = x.w.cell? ⟨k, off + j, none⟩) → ARow x k off l → ARow y k off l
  | [], _, _, _ => by simp [ARow]
  | a :: as, off, hc, h => by
    simp only [ARow] at h ⊢
    obtain ⟨⟨v, h1, h2, h3⟩, h4⟩ := h
    refine ⟨⟨v, ?_, h2, CA_step s _ _ h3⟩, ARow_cells s (k' := k') as _ (fun j hj => ?_) h4⟩
    · have := hc 0 (by simp); rw [Nat.add_zero] at this; rw [this]; exact h1
    · have := hc (j + 1) (by simp; omega)
      rw [show off + 1 + j = off + (j + 1) by omega]; exact this
theorem ARows_cells {x y : Cx} (s : Step x y) {k : Nat} : ∀ (rows : List (List AV)) (off : Nat), (∀ j, j < (rows.map List.length).sum → y.w.cell? ⟨k, off + j, none⟩ = x.w.cell? ⟨k, off + j, none⟩) → ARows x k off rows → ARows y k off rows
  | [], _, _, _ => by simp [ARows]
  | r :: rs, off, hc, h => by
    simp only [List.map_cons, List.sum_cons] at hc
    simp only [ARows] at h ⊢
    refine ⟨ARow_cells s (k' := k) r off (fun j hj => hc j (by omega)) h.1, ARows_cells s rs _ (fun j hj => ?_) h.2⟩
    rw [Nat.add_assoc]; exact hc _ (by omega)

end Go.Eng

/- The engine, part 10: the operations that write. -/
namespace Go.Eng

theorem ARows_flatten {x : Cx} {k : Nat} : ∀ {rows : List (List AV)} {off : Nat}, ARows x k off rows ↔ ARow x k off rows.flatten
  | [], off => by simp [ARows, ARow]
  | r :: rs, off => by
    simp only [ARows, List.flatten_cons, ARow_append]
    rw [ARows_flatten]

theorem flatten_length {α : Type} {sz : Nat} {rows : List (List α)} (h : ∀ r ∈ rows, r.length = sz) : rows.flatten.length = rows.length * sz := by
  rw [List.length_flatten, sum_len h]

/-- What is there to be read of a slice, or a string. -/
structure Reads (P : Program) (x : Cx) (sz : Nat) (rows : List (List AV)) (u : Value) (vs : List Value) : Prop where
  len : ∀ w, (Builtin.lenOf u).run P w = .ok rows.length w
  cas : CAs x rows.flatten vs
  leaf : ∀ v ∈ vs, leafV v
  uni : ∀ r ∈ rows, r.length = sz
  pos : rows ≠ [] → 0 < sz
  first : ∀ (w : World) (m : Nat), w.heap = x.w.heap → m ≤ rows.length → (Builtin.firstCells sz m u).run P w = .ok (vs.take (m * sz)).toArray w

theorem run_loadCells {P : Program} {w : World} {k off n : Nat} {vs : List Value} (hn : n = vs.length) (h : ∀ (j : Nat) (v : Value), vs[j]? = some v → w.cell? ⟨k, off + j, none⟩ = some v) :
    (loadCells ⟨k, off, none⟩ n).run P w = .ok vs.toArray w := by
  subst hn
  have := loadCells_ok (P := P) (w := w) (k := k) vs off 0 #[] (fun j v hj => by rw [Nat.add_zero]; exact h j v hj)
  simpa [loadCells] using this

theorem cell_heap {w w' : World} (h : w'.heap = w.heap) (a : Addr) : w'.cell? a = w.cell? a := by unfold World.cell?; rw [h]

theorem Reads.of_rows {P : Program} {x : Cx} {sz k off cap : Nat} {rows : List (List AV)} (hr : ARows x k off rows) (hu : ∀ r ∈ rows, r.length = sz) (hp : rows ≠ [] → 0 < sz) {a : Option Addr}
    (ha : rows ≠ [] → a = some ⟨k, off, none⟩) : ∃ vs, Reads P x sz rows (.slice a rows.length cap) vs := by
  rw [ARows_flatten] at hr
  obtain ⟨vs, h1, h2, h3⟩ := ARow_values hr
  have hl : vs.length = rows.length * sz := by rw [CAs_length h1, flatten_length hu]
  refine ⟨vs, fun w => by simp [Builtin.lenOf], h1, h2, hu, hp, fun w m hw hm => ?_⟩
  by_cases hne : rows = []
  · subst hne
    have : m = 0 := by simpa using hm
    subst this
    cases a with
    | none => simp [Builtin.firstCells]
    | some ad => simp [Builtin.firstCells, loadCells, loadCellsFrom]
  · rw [ha hne]
    simp only [Builtin.firstCells]
    refine run_loadCells (by rw [List.length_take, hl]; exact (Nat.min_eq_left (Nat.mul_le_mul_right _ hm)).symm) fun j v hj => ?_
    rw [List.getElem?_take] at hj
    split at hj
    · rw [cell_heap hw]; exact h3 j v hj
    · cases hj

theorem uni_ok {α : Type} {sz : Nat} {rows : List (List α)} (h : uni sz rows = true) : ∀ r ∈ rows, r.length = sz := by
  simpa [uni] using h

theorem map_bytes (s : List UInt8) (n : Nat) : (((ByteArray.mk s.toArray).extract 0 n).data.map fun b => Value.int .u8 b.toNat) = ((s.map fun u => Value.int .u8 (u.toNat : Int)).take n).toArray := by
  apply Array.ext'
  simp [← List.map_take]

theorem rowsRead_ok {P : Program} {cfg : Cfg} {x : Cx} (hs : Sim P cfg x) {sz : Nat} {v : AV} {u : Value} (h : CA x v u) {rows : List (List AV)} (he : rowsRead x.h sz v = some rows) : ∃ vs, Reads P x sz rows u vs := by
  unfold rowsRead at he
  split at he
  · split at he
    case isFalse => cases he
    rename_i rows' hun
    simp only [Option.some.injEq] at he
    subst he
    simp only [CA, CI] at h
    obtain ⟨a, cap, rfl, _, _, hr⟩ := h
    have hu := uni_ok hun
    have hl : rows'.length = (rows'.map fun r => r.map AV.iv).length := by simp
    rw [hl]
    by_cases hne : rows' = []
    · subst hne
      exact Reads.of_rows (k := 0) (off := 0) (by simp [ARows]) (by simp) (by simp) (by simp)
    · obtain ⟨k, off, sz', rfl, hA, hsz, hall, hrows⟩ := hr hne
      refine Reads.of_rows (k := k) (off := off) (ARows_of_CRows (CRows_sub hA hrows)) (fun r hr => ?_) (fun _ => ?_) (fun _ => rfl)
      · simp only [List.mem_map] at hr
        obtain ⟨r', hr', rfl⟩ := hr
        simpa using hu r' hr'
      · cases rows' with
        | nil => exact absurd rfl hne
        | cons r rs => rw [← hu r (by simp), hall r (by simp)]; exact hsz
  · split at he
    case isFalse => cases he
    rename_i l hsz
    simp only [Option.some.injEq] at he
    subst he
    subst hsz
    have h := CA_s h
    subst h
    refine ⟨l.map fun u => .int .u8 u.toNat, fun w => by simp [Builtin.lenOf, byteRows, ByteArray.size], ?_, by simp [leafV], ?_, by simp, fun w m _ hm => ?_⟩
    · rw [byteRows_flatten]; exact CAs_map l fun u _ => CA_i' _ _ _
    · intro r hr
      simp only [byteRows, List.mem_map] at hr
      obtain ⟨_, _, rfl⟩ := hr
      rfl
    · simp only [Builtin.firstCells, Sem.run_pure, map_bytes, Nat.mul_one]
  · rename_i b s st len cp
    split at he
    case isFalse => cases he
    rename_i hc
    simp only [CA] at h
    obtain ⟨hR, a, cap, rfl, hlc, _, hm⟩ := h
    split at he
    · rename_i h0
      subst h0
      simp only [Option.some.injEq] at he
      subst he
      exact Reads.of_rows (rows := []) (k := 0) (off := 0) (by simp [ARows]) (by simp) (by simp) (by simp)
    · rename_i h0
      have hssz : s = sz := hc.resolve_right h0
      subst hssz
      simp only [Option.bind_eq_some_iff] at he
      obtain ⟨rows0, hrows0, he⟩ := he
      split at he
      case isFalse => cases he
      rename_i hle
      simp only [Option.some.injEq] at he
      subst he
      have hblk := hs.ok b _ (rowsOf_some hrows0) hR
      simp only [BlkOk] at hblk
      have hne : rows0 ≠ [] := by rintro rfl; simp at hle; omega
      obtain ⟨k, off, hβ, hpos, hall, har⟩ := hblk.2 hne
      have hl : len = ((rows0.drop st).take len).length := by simp; omega
      have ha : a = some ⟨k, off + st * s, none⟩ := by
        cases a with
        | none => simp only at hm; omega
        | some ad =>
          rcases hm with hm | ⟨k', off', hβ', rfl, _⟩
          · omega
          · rw [hβ] at hβ'
            simp only [Option.some.injEq, Prod.mk.injEq] at hβ'
            obtain ⟨rfl, rfl⟩ := hβ'
            rfl
      have := Reads.of_rows (P := P) (x := x) (sz := s) (k := k) (off := off + st * s) (cap := cap) (rows := (rows0.drop st).take len) (a := a) (ARows_take (ARows_drop har hall st (by omega)) _)
        (fun r hr => hall r (List.mem_of_mem_drop (List.mem_of_mem_take hr))) (fun _ => hpos) (fun _ => ha)
      rw [← hl] at this
      exact this
  · simp only [Option.some.injEq] at he
    subst he
    simp only [CA, CI] at h
    subst h
    exact Reads.of_rows (rows := []) (k := 0) (off := 0) (by simp [ARows]) (by simp) (by simp) (by simp)
  · cases he

/-! ### append -/
section
variable {P : Program} {T U e ty : TypeId} {i : TypeInfo} {z : Value} {base : Option Addr} {sLen sCap n : Nat} {u : Value} {news : List Value} {w : World} {tys : Array TypeId}

theorem run_append_fit (hT : P.underlying T = some (.slice e)) (hi : P.info? e = some i) (h0 : tys[0]? = some T) (h1 : tys[1]? = some U) (hU : P.underlying U = some .string ∨ ∃ e', P.underlying U = some (.slice e'))
    (hlen : (Builtin.lenOf u).run P w = .ok n w) (hf : (Builtin.firstCells i.size n u).run P w = .ok news.toArray w) (hfit : sLen + n ≤ sCap) {w' : World}
    (hst : match base with | none => w' = w | some a => (storeCells (a.add (sLen * i.size)) news).run P w = .ok () w') :
    (Builtin.append_ tys ty #[.slice base sLen sCap, u]).run P w = .ok (.slice base (sLen + n) sCap) w' := by
  rcases hU with hU | ⟨e', hU⟩ <;> cases base <;> simp only at hst <;>
    simp [Builtin.append_, h0, h1, run_underlying hT, run_underlying hU, sizeOf, typeInfo, hi, hlen, hfit, hf, hst]

theorem run_append_more (hT : P.underlying T = some (.slice e)) (hi : P.info? e = some i) (hz : i.zero = some z) (h0 : tys[0]? = some T) (h1 : tys[1]? = some U) (hU : P.underlying U = some .string ∨ ∃ e', P.underlying U = some (.slice e'))
    {olds : List Value} (hlen : (Builtin.lenOf u).run P w = .ok n w) (hf : (Builtin.firstCells i.size n u).run P w.drew = .ok news.toArray w.drew) (hfo : (Builtin.firstCells i.size sLen (.slice base sLen sCap)).run P w.drew = .ok olds.toArray w.drew)
    (hg : sCap < sLen + n) (hroom : roomy (sLen + n) i.bytes = true) :
    (Builtin.append_ tys ty #[.slice base sLen sCap, u]).run P w =
      .ok (.slice (some ⟨w.heap.size, 0, none⟩) (sLen + n) (grownCap w (sLen + n) sCap e))
        (w.drew.alloc (.cells (olds ++ news ++ (Builtin.zeroCells z.cells (grownCap w (sLen + n) sCap e - (sLen + n))).toList).toArray e)) := by
  simp only [roomy, Bool.and_eq_true, decide_eq_true_eq] at hroom
  have hn : ¬ (sLen + n ≤ sCap) := by omega
  have h63' : ¬ (9223372036854775807 < ((sLen : Int) + (n : Int))) := by omega
  have h48' : ¬ (281474976710656 < Builtin.nextslicecap (sLen + n) sCap * i.bytes) := by
    have := growslice_fits (need := sLen + n) (old := sCap) (bytes := i.bytes) (by omega) (by omega)
    omega
  have fin : ∀ (c : Nat), (olds.toArray ++ news.toArray ++ Builtin.zeroCells z.cells c) = (olds ++ news ++ (Builtin.zeroCells z.cells c).toList).toArray := fun c => by
    apply Array.ext'; simp
  rcases hU with hU | ⟨e', hU⟩ <;>
    simp [Builtin.append_, h0, h1, run_underlying hT, run_underlying hU, sizeOf, typeInfo, zeroValue, hi, hz, hlen, hn, h63', h48', Question.forced, hf, hfo, newRow, grownCap] <;>
    (congr 2; apply Array.ext'; simp [List.append_assoc])

/-- Append of zeros. -/
theorem run_appendz_fit (hT : P.underlying T = some (.slice e)) (hi : P.info? e = some i) (hz : i.zero = some z) (h0 : tys[0]? = some T) (h1 : tys[1]? = some U) {k k' : IntKind} (hU : P.underlying U = some (.int k))
    (hn : n < 1099511627776) (hroom : n * i.bytes ≤ 35184372088832) (hfit : sLen + n ≤ sCap) {w' : World}
    (hst : match base with | none => w' = w | some a => (storeCells (a.add (sLen * i.size)) (if n * i.size = 0 then [] else (Builtin.zeroCells z.cells n).toList)).run P w = .ok () w') :
    (Builtin.append_ tys ty #[.slice base sLen sCap, .int k' (n : Int)]).run P w = .ok (.slice base (sLen + n) sCap) w' := by
  have hw1 : IntKind.i64.wrap (n : Int) = n := by rw [IntKind.wrap_i64]; omega
  have h2 : ¬ ((n : Int) < 0) := by omega
  have h3 : ¬ (281474976710656 < (n : Int) * (i.bytes : Int)) := by
    have : ((n * i.bytes : Nat) : Int) = (n : Int) * (i.bytes : Int) := Int.natCast_mul _ _
    omega
  by_cases hs0 : n * i.size = 0 <;> simp only [hs0, if_true, if_false] at hst <;> cases base <;> simp only at hst <;>
    simp [Builtin.append_, h0, h1, run_underlying hT, run_underlying hU, asInt, asIntOf, hw1, h2, h3, sizeOf, typeInfo, zeroValue, hi, hz, hfit, hs0, hst]

theorem run_appendz_more (hT : P.underlying T = some (.slice e)) (hi : P.info? e = some i) (hz : i.zero = some z) (h0 : tys[0]? = some T) (h1 : tys[1]? = some U) {k k' : IntKind} (hU : P.underlying U = some (.int k))
    {olds : List Value} (hfo : (Builtin.firstCells i.size sLen (.slice base sLen sCap)).run P w.drew = .ok olds.toArray w.drew)
    (hg : sCap < sLen + n) (hroom : roomy (sLen + n) i.bytes = true) :
    (Builtin.append_ tys ty #[.slice base sLen sCap, .int k' (n : Int)]).run P w =
      .ok (.slice (some ⟨w.heap.size, 0, none⟩) (sLen + n) (grownCap w (sLen + n) sCap e))
        (w.drew.alloc (.cells (olds ++ (if n * i.size = 0 then [] else (Builtin.zeroCells z.cells n).toList) ++ (Builtin.zeroCells z.cells (grownCap w (sLen + n) sCap e - (sLen + n))).toList).toArray e)) := by
  simp only [roomy, Bool.and_eq_true, decide_eq_true_eq] at hroom
  have hn : ¬ (sLen + n ≤ sCap) := by omega
  have h63' : ¬ (9223372036854775807 < ((sLen : Int) + (n : Int))) := by omega
  have h48' : ¬ (281474976710656 < Builtin.nextslicecap (sLen + n) sCap * i.bytes) := by
    have := growslice_fits (need := sLen + n) (old := sCap) (bytes := i.bytes) (by omega) (by omega)
    omega
  have hw1 : IntKind.i64.wrap (n : Int) = n := by rw [IntKind.wrap_i64]; omega
  have h2 : ¬ ((n : Int) < 0) := by omega
  have h3 : ¬ (281474976710656 < (n : Int) * (i.bytes : Int)) := by
    have : ((n * i.bytes : Nat) : Int) = (n : Int) * (i.bytes : Int) := Int.natCast_mul _ _
    have : n * i.bytes ≤ (sLen + n) * i.bytes := Nat.mul_le_mul_right _ (by omega)
    omega
  by_cases hs0 : n * i.size = 0 <;>
    simp [Builtin.append_, h0, h1, run_underlying hT, run_underlying hU, asInt, asIntOf, hw1, h2, h3, sizeOf, typeInfo, zeroValue, hi, hz, hn, h63', h48', Question.forced, hfo, newRow, grownCap, hs0] <;>
    (congr 2; apply Array.ext'; simp [List.append_assoc])
end

end Go.Eng

/- The engine, part 11: append. -/
namespace Go.Eng

theorem HasRoom.le {w : World} {k n m : Nat} (h : HasRoom w k n) (hm : m ≤ n) : HasRoom w k m := by
  obtain ⟨c, T, fr, h1, h2⟩ := h
  exact ⟨c, T, fr, h1, Nat.le_trans hm h2⟩

theorem CAs_cast {x : Cx} {l l' : List AV} {vs : List Value} (h : CAs x l vs) (e : l = l') : CAs x l' vs := e ▸ h

section
variable {P : Program} {cfg : Cfg} {x : Cx} (hs : Sim P cfg x)
include hs

/-- What an append of cells comes to. -/
theorem append_core {xv : AV} {u0 : Value} (hxv : CA x xv u0) {sz bytes b : Nat} {new : List (List AV)} {v : AV} {h' : AH} (he : appendRows x.h sz bytes b xv new = some (v, h')) (hb : b < x.h.next) (hR : ¬ x.R b)
    {nvs : List Value} (hn1 : CAs x new.flatten nvs) (hn2 : ∀ u ∈ nvs, leafV u) (hn3 : ∀ r ∈ new, r.length = sz) (hn4 : new ≠ [] → 0 < sz) :
    ∃ base sLen sCap, u0 = .slice base sLen sCap ∧ sLen ≤ sCap ∧ roomy (sLen + new.length) bytes = true ∧
      (sLen + new.length ≤ sCap → ∃ w', (match base with | none => w' = x.w | some a => (storeCells (a.add (sLen * sz)) nvs).run P x.w = .ok () w') ∧
        ∃ y : Cx, y.w = w' ∧ y.h = h' ∧ Step x y ∧ Sim P cfg y ∧ Keeps (· = b) x y ∧ CA y v (.slice base (sLen + new.length) sCap)) ∧
      (sCap < sLen + new.length → ∃ olds : List Value, (∀ w : World, w.heap = x.w.heap → (Builtin.firstCells sz sLen u0).run P w = .ok olds.toArray w) ∧
        ∀ (cap : Nat) (rest : List Value) (e : TypeId) (w' : World), sLen + new.length ≤ cap → rest.length = (cap - (sLen + new.length)) * sz → Laid x.w w' (.cells (olds ++ nvs ++ rest).toArray e) →
        ∃ y : Cx, y.w = w' ∧ y.h = h' ∧ Step x y ∧ Sim P cfg y ∧ Keeps (· = b) x y ∧ CA y v (.slice (some ⟨x.w.heap.size, 0, none⟩) (sLen + new.length) cap)) := by
  have hnl : nvs.length = new.length * sz := by rw [CAs_length hn1, flatten_length hn3]
  have hne0 : new.length = 0 → nvs = [] := fun h => by rw [h, Nat.zero_mul] at hnl; exact List.eq_nil_of_length_eq_zero hnl
  have hnew : new.length = 0 → new = [] := List.eq_nil_of_length_eq_zero
  have newat : ∀ (h : AH) (rows : List (List AV)), NewAt h (h.add b (.cells sz rows)) b (.cells sz rows) := fun h rows => ⟨rfl, by simp [AH.get_add], fun i hi => by simp [AH.get_add, hi]⟩
  -- the grown row
  have grown : ∀ (x1 : Cx) (_ : Step x x1) (_ : Sim P cfg x1) (_ : ∀ D, Keeps D x x1) (_ : x1.w = x.w) (_ : ¬ x1.R b) (_ : b < x1.h.next) (_ : x1.h.next = x.h.next) (old : List (List AV)) (olds : List Value) (_ : CAs x old.flatten olds) (_ : ∀ u ∈ olds, leafV u) (_ : ∀ r ∈ old, r.length = sz) (need : Nat) (_ : need = old.length + new.length) (_ : 0 < new.length)
      (_ : h' = x1.h.add b (.cells sz (old ++ new))) (_ : v = .sl b sz 0 need none) (cap : Nat) (rest : List Value) (e : TypeId) (w' : World) (_ : need ≤ cap) (_ : rest.length = (cap - need) * sz) (_ : Laid x.w w' (.cells (olds ++ nvs ++ rest).toArray e)),
      ∃ y : Cx, y.w = w' ∧ y.h = h' ∧ Step x y ∧ Sim P cfg y ∧ Keeps (· = b) x y ∧ CA y v (.slice (some ⟨x.w.heap.size, 0, none⟩) need cap) := by
    intro x1 st1 hs1 hk1 hw1 hR1 hb1 hnx old olds ho1 ho2 ho3 need hneed hpos hh' hv cap rest e w' hcap hrest hlaid
    have hsz : 0 < sz := hn4 (by intro e; rw [e] at hpos; simp at hpos)
    rw [← hw1] at hlaid
    have hna : NewAt x1.h h' b (.cells sz (old ++ new)) := hh' ▸ newat _ _
    have stl := lay_step hs1 hlaid hR1 hna
    have sty : Step x (x1.lay w' b h') := st1.trans stl
    have hget : (x1.lay w' b h').w.heap[x1.w.heap.size]? = some (.cells (olds ++ nvs ++ rest).toArray e (0, 0)) := by
      show w'.heap[_]? = _
      rw [hlaid.get, if_pos rfl]
    have hβ : (x1.lay w' b h').β b = some (x1.w.heap.size, 0) := by simp [Cx.lay]
    have hol : olds.length = old.length * sz := by rw [CAs_length ho1, flatten_length ho3]
    refine ⟨x1.lay w' b h', rfl, rfl, sty, lay_sim hs1 hlaid hR1 hb1 hna ?_, Keeps.trans (by omega) (hk1 _) (lay_keeps hna), ?_⟩
    · simp only [BlkOk]
      refine ⟨fun k off e' => ?_, fun _ => ⟨_, _, hβ, hsz, fun r hr => ?_, ARows_of (vs := olds ++ nvs) ?_ ?_ fun j u hj => ?_⟩⟩
      · rw [hβ] at e'
        simp only [Option.some.injEq, Prod.mk.injEq] at e'
        exact ⟨_, _, _, e'.1 ▸ hget, .inl rfl⟩
      · rcases List.mem_append.1 hr with h | h
        · exact ho3 r h
        · exact hn3 r h
      · rw [List.flatten_append]
        exact CAs_append (CAs_step sty _ _ ho1) (CAs_step sty _ _ hn1)
      · intro u hu
        rcases List.mem_append.1 hu with h | h
        · exact ho2 u h
        · exact hn2 u h
      · rw [Nat.zero_add, cell_of hget]
        have := (List.getElem?_eq_some_iff.1 hj).1
        rw [List.getElem?_toArray, List.getElem?_append_left (by simpa using this)]
        exact hj
    · rw [hv]
      simp only [CA]
      refine ⟨.inl rfl, _, _, rfl, hcap, by simp, .inr ⟨_, _, hβ, by simp [hw1], ⟨_, _, _, hget, ?_⟩, hsz⟩⟩
      simp only [List.size_toArray, List.length_append, hol, hnl, hrest, Nat.zero_add]
      have : (old.length + new.length + (cap - need)) * sz = cap * sz := by congr 1; omega
      rw [Nat.add_mul, Nat.add_mul] at this
      omega
  unfold appendRows at he
  split at he
  · rename_i rows
    split at he
    case isFalse => cases he
    rename_i hroom
    simp only [Option.some.injEq, Prod.mk.injEq] at he
    obtain ⟨rfl, rfl⟩ := he
    simp only [CA, CI] at hxv
    obtain ⟨a, cap0, rfl, hc0, hnil, _⟩ := hxv
    obtain ⟨rfl, rfl⟩ := hnil trivial
    have hr0 : rows.length = 0 := by omega
    rw [hr0]
    refine ⟨none, 0, 0, rfl, Nat.le_refl _, by simpa using hroom, fun hfit => ⟨x.w, rfl, ?_⟩, fun hlt => ⟨[], fun w _ => by simp [Builtin.firstCells], fun cap rest e w' h1 h2 h3 => ?_⟩⟩
    · have h0 : new.length = 0 := by omega
      have h0' := hnew h0
      subst h0'
      obtain ⟨s1, s2, s3⟩ := adopt_none hs hR hb (newat x.h [])
      exact ⟨x.adopt x.w b none (x.h.add b (.cells sz [])), rfl, rfl, s1, s2, s3, by simp only [CA]; exact ⟨.inl rfl, none, 0, rfl, Nat.le_refl _, by simp, rfl, rfl⟩⟩
    · have := grown x (Step.refl x) hs (fun D => Keeps.refl D x) rfl hR hb rfl [] [] (by simp [CAs]) (by simp) (by simp) (0 + new.length) (by simp) (by omega) (by simp) (by simp) cap rest e w' h1 h2 (by simpa using h3)
      exact this
  · rename_i b0 s st len
    split at he
    case h_2 => cases he
    rename_i s' rows hg
    split at he
    case isFalse => cases he
    rename_i hc
    obtain ⟨rfl, hss, hle, hroom⟩ := hc
    simp only [Option.some.injEq, Prod.mk.injEq] at he
    obtain ⟨rfl, rfl⟩ := he
    have hxv0 := hxv
    simp only [CA] at hxv
    obtain ⟨hR0, a, c, rfl, hlc, _, hm⟩ := hxv
    have hne : ∀ i, x.R i → i ≠ b := fun i hi e => by subst e; exact hR hi
    have hrd : rowsRead x.h sz (.sl b0 s' st len none) = some ((rows.drop st).take len) := by
      simp only [rowsRead]
      by_cases h0 : len = 0
      · subst h0; simp
      · have : s' = sz := by rcases hss with h | h; exact h; exact absurd h.2 h0
        subst this
        simp only [true_or, if_true, h0, if_false, rowsOf, hg, Option.bind_some, hle]
    obtain ⟨olds, ho⟩ := rowsRead_ok hs hxv0 hrd
    have hol : ((rows.drop st).take len).length = len := by simp; omega
    have hols : olds.length = len * sz := by rw [CAs_length ho.cas, flatten_length ho.uni, hol]
    obtain ⟨d1, d2, d3⟩ := del_sim hs hR0
    refine ⟨a, len, c, rfl, hlc, hroom, fun hfit => ?_, fun hlt => ⟨olds, fun w hw => ?_, fun cap rest e w' h1 h2 h3 => ?_⟩⟩
    · by_cases hcz : c = 0
      · have h0 : new.length = 0 := by omega
        have h0' := hnew h0
        subst h0'
        have hl0 : len = 0 := by omega
        subst hl0
        have hnv := hne0 rfl
        subst hnv
        obtain ⟨s1, s2, s3⟩ := adopt_none (x := { x with h := x.h.del b0 }) d2 hR hb (newat (x.h.del b0) [])
        refine ⟨x.w, ?_, Cx.adopt { x with h := x.h.del b0 } x.w b none ((x.h.del b0).add b (.cells sz [])), rfl, by simp [Cx.adopt], d1.trans s1, s2, Keeps.trans (by simp) (d3 _) s3, ?_⟩
        · cases a with
          | none => rfl
          | some ad => simp [storeCells]
        · simp only [CA]
          refine ⟨.inl rfl, a, c, rfl, by simp, by simp, ?_⟩
          cases a with
          | none => exact ⟨rfl, hcz⟩
          | some ad => exact .inl hcz
      · cases a with
        | none => simp only at hm; omega
        | some ad =>
          rcases hm with hm | ⟨k, off, hβ, rfl, hroom2, hs0⟩
          · exact absurd hm hcz
          have hss' : s' = sz := by rcases hss with h | h; exact h; omega
          subst hss'
          have hblk := hs.ok b0 _ hg hR0
          simp only [BlkOk] at hblk
          have hfree := hblk.1 k off hβ
          have hr2 : HasRoom x.w k (off + st * s' + len * s' + nvs.length) := hroom2.le (by
            rw [hnl, Nat.add_mul]
            have : (len + new.length) * s' ≤ c * s' := Nat.mul_le_mul_right _ hfit
            rw [Nat.add_mul] at this
            omega)
          obtain ⟨cc, TT, fr, hh1, hh2⟩ := hr2
          have hwr := setCells_wrote (vs := nvs) hh1 hh2
          have hst : (storeCells ((⟨k, off + st * s', none⟩ : Addr).add (len * s')) nvs).run P x.w = .ok () (x.w.setCells k (off + st * s' + len * s') nvs) := by
            rw [add_mk]
            exact storeCells_ok hfree ⟨cc, TT, fr, hh1, hh2⟩ hn2
          refine ⟨_, hst, ?_⟩
          have hmv := move_sim (off' := off + st * s') (b := b) hs hg hR0 hβ hwr hR hb (newat (x.h.del b0) ((rows.drop st).take len ++ new)) (fun st0 => by
            simp only [BlkOk]
            refine ⟨fun k' off' e' => ?_, fun hnn => ⟨k, off + st * s', by simp [Cx.adopt], hs0, fun r hr => ?_, ?_⟩⟩
            · simp only [Cx.adopt, if_true, Option.some.injEq, Prod.mk.injEq] at e'
              rw [← e'.1]
              exact hfree.set ⟨cc, TT, fr, hh1, hh2⟩
            · rcases List.mem_append.1 hr with h | h
              · exact ho.uni r h
              · exact hn3 r h
            · rw [ARows_append]
              refine ⟨?_, ?_⟩
              · by_cases hrn : rows = []
                · subst hrn; simp [ARows]
                · obtain ⟨k2, off2, hβ2, _, hall, har⟩ := hblk.2 hrn
                  rw [hβ] at hβ2
                  simp only [Option.some.injEq, Prod.mk.injEq] at hβ2
                  obtain ⟨rfl, rfl⟩ := hβ2
                  refine ARows_cells st0 _ _ (fun j hj => ?_) (ARows_take (ARows_drop har hall st (by omega)) len)
                  rw [sum_len ho.uni, hol] at hj
                  show (x.w.setCells _ _ _).cell? _ = _
                  rw [cell_setCells ⟨cc, TT, fr, hh1, hh2⟩, if_pos (by omega)]
              · rw [sum_len ho.uni, hol]
                refine ARows_of (vs := nvs) (CAs_step st0 _ _ hn1) hn2 fun j u hj => ?_
                have hjl := (List.getElem?_eq_some_iff.1 hj).1
                show (x.w.setCells _ _ _).cell? _ = _
                rw [cell_setCells ⟨cc, TT, fr, hh1, hh2⟩, if_neg (by omega), if_pos (by omega), show off + st * s' + len * s' + j - (off + st * s' + len * s') = j by omega]
                exact hj)
          obtain ⟨m1, m2, m3⟩ := hmv
          refine ⟨x.adopt (x.w.setCells k (off + st * s' + len * s') nvs) b (some (k, off + st * s')) ((x.h.del b0).add b (.cells s' ((rows.drop st).take len ++ new))), rfl, rfl, m1, m2, m3, ?_⟩
          simp only [CA]
          refine ⟨.inl rfl, _, _, rfl, hfit, by simp, .inr ⟨k, off + st * s', by simp [Cx.adopt], by simp, ?_, hs0⟩⟩
          refine HasRoom.step m1 (hroom2.le ?_)
          rw [Nat.zero_add, Nat.add_mul]; omega
    · have := ho.first w len hw (by omega)
      rw [this, List.take_of_length_le (by omega)]
    · exact grown { x with h := x.h.del b0 } d1 d2 d3 rfl hR hb rfl _ olds ho.cas ho.leaf ho.uni (len + new.length) (by rw [hol]) (by omega) rfl rfl cap rest e w' h1 h2 h3
  · rename_i b0 s st len c
    split at he
    case h_2 => cases he
    rename_i s' rows hg
    split at he
    case isFalse => cases he
    rename_i hc
    obtain ⟨rfl, rfl, hle, hfits, hroom⟩ := hc
    have hxv0 := hxv
    simp only [CA] at hxv
    obtain ⟨hR0, a, c', rfl, hlc, hcc, hm⟩ := hxv
    have hce := hcc c rfl
    subst hce
    refine ⟨a, len, c', rfl, hlc, hroom, fun hfit => ?_, fun hlt => absurd hlt (by omega)⟩
    split at he
    · rename_i hnil
      have hnil' := List.isEmpty_iff.1 hnil
      subst hnil'
      have hnv := hne0 rfl
      subst hnv
      simp only [Option.some.injEq, Prod.mk.injEq] at he
      obtain ⟨rfl, rfl⟩ := he
      refine ⟨x.w, ?_, x, rfl, rfl, Step.refl x, hs, Keeps.refl _ x, hxv0⟩
      cases a with
      | none => rfl
      | some ad => simp [storeCells]
    · rename_i hnn
      simp only [Option.some.injEq, Prod.mk.injEq] at he
      obtain ⟨rfl, rfl⟩ := he
      have hpos : 0 < new.length := List.length_pos_iff.2 fun e => hnn (List.isEmpty_iff.2 e)
      cases a with
      | none => simp only at hm; omega
      | some ad =>
        rcases hm with hm | ⟨k, off, hβ, rfl, hroom2, hs0⟩
        · omega
        have hblk := hs.ok b0 _ hg hR0
        simp only [BlkOk] at hblk
        have hfree := hblk.1 k off hβ
        have hr2 : HasRoom x.w k (off + st * s' + len * s' + nvs.length) := hroom2.le (by
          rw [hnl, Nat.add_mul]
          have : (len + new.length) * s' ≤ c' * s' := Nat.mul_le_mul_right _ hfit
          rw [Nat.add_mul] at this
          omega)
        obtain ⟨cc, TT, fr, hh1, hh2⟩ := hr2
        have hwr := setCells_wrote (vs := nvs) hh1 hh2
        have hst : (storeCells ((⟨k, off + st * s', none⟩ : Addr).add (len * s')) nvs).run P x.w = .ok () (x.w.setCells k (off + st * s' + len * s') nvs) := by
          rw [add_mk]
          exact storeCells_ok hfree ⟨cc, TT, fr, hh1, hh2⟩ hn2
        refine ⟨_, hst, ?_⟩
        have hput := put_sim (blk' := .cells s' (splice rows (st + len) new)) hs hg hR0 hβ hwr fun st0 => by
          simp only [BlkOk]
          have hlen : ∀ r ∈ rows, r.length = s' := fun r hr => by
            obtain ⟨_, _, _, _, hall, _⟩ := hblk.2 (by rintro rfl; cases hr)
            exact hall r hr
          refine ⟨fun k' off' e' => ?_, fun hnn2 => ⟨k, off, hβ, hs0, fun r hr => ?_, ?_⟩⟩
          · rw [hβ] at e'
            simp only [Option.some.injEq, Prod.mk.injEq] at e'
            rw [← e'.1]
            exact hfree.set ⟨cc, TT, fr, hh1, hh2⟩
          · unfold splice at hr
            rcases List.mem_append.1 hr with h | h
            · rcases List.mem_append.1 h with h | h
              · exact hlen r (List.mem_of_mem_take h)
              · exact hn3 r h
            · exact hlen r (List.mem_of_mem_drop h)
          · have har : ARows x k off rows := by
              by_cases hrn : rows = []
              · subst hrn; simp [ARows]
              · obtain ⟨k2, off2, hβ2, _, _, har⟩ := hblk.2 hrn
                rw [hβ] at hβ2
                simp only [Option.some.injEq, Prod.mk.injEq] at hβ2
                obtain ⟨rfl, rfl⟩ := hβ2
                exact har
            have htl : ∀ r ∈ rows.take (st + len), r.length = s' := fun r hr => hlen r (List.mem_of_mem_take hr)
            have ht1 : (rows.take (st + len)).length = st + len := by simp; omega
            unfold splice
            rw [ARows_append, ARows_append]
            refine ⟨⟨?_, ?_⟩, ?_⟩
            · refine ARows_cells st0 _ _ (fun j hj => ?_) (ARows_take har (st + len))
              rw [sum_len htl, ht1, Nat.add_mul] at hj
              show (x.w.setCells _ _ _).cell? _ = _
              rw [cell_setCells ⟨cc, TT, fr, hh1, hh2⟩, if_pos (by omega)]
            · rw [sum_len htl, ht1, Nat.add_mul]
              refine ARows_of (vs := nvs) (CAs_step st0 _ _ hn1) hn2 fun j u hj => ?_
              have hjl := (List.getElem?_eq_some_iff.1 hj).1
              show (x.w.setCells _ _ _).cell? _ = _
              rw [cell_setCells ⟨cc, TT, fr, hh1, hh2⟩, if_neg (by omega), if_pos (by omega), show off + (st * s' + len * s') + j - (off + st * s' + len * s') = j by omega]
              exact hj
            · by_cases hov : st + len + new.length ≤ rows.length
              · have hsum : (((rows.take (st + len)) ++ new).map List.length).sum = (st + len + new.length) * s' := by
                  rw [sum_len (sz := s') (fun r hr => by
                    rcases List.mem_append.1 hr with h | h
                    · exact htl r h
                    · exact hn3 r h)]
                  simp only [List.length_append, ht1]
                rw [hsum]
                refine ARows_cells st0 _ _ (fun j _ => ?_) (ARows_drop har hlen _ hov)
                show (x.w.setCells _ _ _).cell? _ = _
                rw [cell_setCells ⟨cc, TT, fr, hh1, hh2⟩, if_neg (by rw [Nat.add_mul, Nat.add_mul]; omega), if_neg (by rw [hnl, Nat.add_mul, Nat.add_mul]; omega)]
              · rw [List.drop_eq_nil_of_le (by omega)]
                simp [ARows]
        obtain ⟨m1, m2, m3⟩ := hput
        refine ⟨_, rfl, rfl, m1, m2, m3 _, ?_⟩
        simp only [CA]
        exact ⟨hR0, _, _, rfl, hfit, by simp, .inr ⟨k, off, hβ, rfl, HasRoom.step m1 hroom2, hs0⟩⟩
  · cases he
end

end Go.Eng
