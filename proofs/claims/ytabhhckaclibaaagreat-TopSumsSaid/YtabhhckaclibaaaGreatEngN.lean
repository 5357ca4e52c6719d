/- The engine, part 30: arguments that were read as data. -/
import Derived.Test.YtabhhckaclibaaaGreatEngM
import Derived.DataReads
import Derived.ChangeOld
import Derived.OpenShut
import Derived.Below
import Derived.Carry
set_option linter.all false
namespace Go.Eng
open Go.RowKit

def offsT (P : Program) : Nat → List Field → Option Nat
  | o, [] => some o
  | o, f :: fs => if f.offset = o then offsT P (o + P.cellsOf f.type) fs else none

/-- Types that arguments may be of: S is closed. -/
def closedT (P : Program) (S : List TypeId) : Bool := S.all fun t => match P.underlying t with
  | some .bool => true
  | some (.int _) => true
  | some (.slice e) => S.contains e && decide (0 < P.cellsOf e)
  | some (.struct fs) => fs.toList.all (fun f => S.contains f.type) && offsT P 0 fs.toList == some (P.cellsOf t)
  | some (.array n e) => S.contains e && n * P.cellsOf e == P.cellsOf t
  | _ => false

/-- Cells of a type, as they may come. -/
def TyRow (P : Program) : Nat → TypeId → List IV → Prop
  | 0, _, _ => False
  | n + 1, t, r => match P.underlying t with
    | some .bool => ∃ b, r = [.b b]
    | some (.int k) => ∃ m, r = [.i k m] ∧ (Lit.int k m).wf = true
    | some (.slice e) => ∃ rows, r = [.rsl .p rows] ∧ rows.length ≤ maxLen ∧ ∀ q ∈ rows, TyRow P n e q ∧ q.length = P.cellsOf e
    | some (.struct fs) => r.length = P.cellsOf t ∧ ∀ f ∈ fs.toList, TyRow P n f.type ((r.drop f.offset).take (P.cellsOf f.type))
    | some (.array k e) => r.length = P.cellsOf t ∧ ∀ i, i < k → TyRow P n e ((r.drop (i * P.cellsOf e)).take (P.cellsOf e))
    | _ => False

theorem CIs_len {w : World} {A : Bool → Nat → Prop} : ∀ {l : List IV} {vs : List Value}, CIs w A l vs → vs.length = l.length
  | [], [], _ => rfl
  | [], _ :: _, h => by simp [CIs] at h
  | _ :: _, [], h => by simp [CIs] at h
  | a :: as, v :: vs, h => by simp only [CIs] at h; simp [CIs_len h.2]

theorem CIs_app {w : World} {A : Bool → Nat → Prop} : ∀ {l : List IV} {vs : List Value} {l' : List IV} {vs' : List Value}, CIs w A l vs → CIs w A l' vs' → CIs w A (l ++ l') (vs ++ vs')
  | [], [], _, _, _, h => by simpa using h
  | [], _ :: _, _, _, h, _ => by simp [CIs] at h
  | _ :: _, [], _, _, h, _ => by simp [CIs] at h
  | a :: as, v :: vs, _, _, h, h' => by
    simp only [CIs] at h
    simp only [List.cons_append, CIs]
    exact ⟨h.1, CIs_app h.2 h'⟩

theorem mapM_each {α β : Type} {f : α → Option β} : ∀ {l : List α} {ys : List β}, l.mapM f = some ys → ∀ x ∈ l, ∃ y, f x = some y
  | [], _, _, x, hx => by cases hx
  | a :: l, ys, h, x, hx => by
    rw [List.mapM_cons] at h
    simp only [Option.bind_eq_bind, Option.bind_eq_some_iff] at h
    obtain ⟨y, h1, zs, h2, _⟩ := h
    rcases List.mem_cons.1 hx with rfl | hx
    · exact ⟨y, h1⟩
    · exact mapM_each h2 x hx

theorem offsT_le {P : Program} : ∀ {fs : List Field} {o tot : Nat}, offsT P o fs = some tot → o ≤ tot ∧ ∀ f ∈ fs, o ≤ f.offset ∧ f.offset + P.cellsOf f.type ≤ tot
  | [], o, tot, h => by
    simp only [offsT, Option.some.injEq] at h
    exact ⟨by omega, fun f hf => by cases hf⟩
  | g :: fs, o, tot, h => by
    simp only [offsT] at h
    split at h
    case isFalse => cases h
    rename_i e
    obtain ⟨h1, h2⟩ := offsT_le h
    refine ⟨by omega, fun f hf => ?_⟩
    rcases List.mem_cons.1 hf with rfl | hf
    · exact ⟨by omega, by omega⟩
    · have := h2 f hf
      exact ⟨by omega, this.2⟩

section
variable {P : Program} {w : World} {A : Bool → Nat → Prop}

theorem struct_rows {n : Nat} {cs : List Value} : ∀ (fs : List Field) (o : Nat), offsT P o fs = some cs.length → (∀ f ∈ fs, ∃ r, CIs w A r ((cs.drop f.offset).take (P.cellsOf f.type)) ∧ TyRow P n f.type r ∧ ∀ v ∈ (cs.drop f.offset).take (P.cellsOf f.type), leafV v) →
    ∃ r, CIs w A r (cs.drop o) ∧ (∀ f ∈ fs, TyRow P n f.type ((r.drop (f.offset - o)).take (P.cellsOf f.type))) ∧ ∀ v ∈ cs.drop o, leafV v
  | [], o, h, _ => by
    simp only [offsT, Option.some.injEq] at h
    subst h
    exact ⟨[], by simp [CIs], by simp, by simp⟩
  | g :: fs, o, h, hf => by
    simp only [offsT] at h
    split at h
    case isFalse => cases h
    rename_i e
    obtain ⟨r2, h1, h2, h3⟩ := struct_rows fs _ h fun f hf' => hf f (by simp [hf'])
    obtain ⟨r1, q1, q2, q3⟩ := hf g (by simp)
    obtain ⟨hle, hoff⟩ := offsT_le h
    have hl1 : r1.length = P.cellsOf g.type := by
      rw [← CIs_len q1]; simp; omega
    have hsplit : cs.drop o = (cs.drop o).take (P.cellsOf g.type) ++ cs.drop (o + P.cellsOf g.type) := by
      rw [← List.drop_drop, List.take_append_drop]
    rw [e] at q1 q3
    refine ⟨r1 ++ r2, ?_, fun f hf' => ?_, fun v hv => ?_⟩
    · rw [hsplit]; exact CIs_app q1 h1
    · rcases List.mem_cons.1 hf' with rfl | hf'
      · rw [e, Nat.sub_self, List.drop_zero, List.take_append_of_le_length (by omega), List.take_of_length_le (by omega)]
        exact q2
      · have := hoff f hf'
        have e2 : (r1 ++ r2).drop (f.offset - o) = r2.drop (f.offset - (o + P.cellsOf g.type)) := by
          rw [List.drop_append, List.drop_of_length_le (by omega), List.nil_append]
          congr 1
          omega
        rw [e2]
        exact h2 f hf'
    · rw [hsplit] at hv
      rcases List.mem_append.1 hv with h | h
      · exact q3 v h
      · exact h3 v h

theorem array_rows {n sz : Nat} {e : TypeId} {cs : List Value} : ∀ (m i : Nat), (i + m) * sz = cs.length → (∀ j, i ≤ j → j < i + m → ∃ r, CIs w A r ((cs.drop (j * sz)).take sz) ∧ TyRow P n e r ∧ ∀ v ∈ (cs.drop (j * sz)).take sz, leafV v) →
    ∃ r, CIs w A r (cs.drop (i * sz)) ∧ (∀ j, j < m → TyRow P n e ((r.drop (j * sz)).take sz)) ∧ ∀ v ∈ cs.drop (i * sz), leafV v
  | 0, i, h, _ => ⟨[], by rw [List.drop_of_length_le (by rw [← h]; simp)]; simp [CIs], fun j hj => by omega, by rw [List.drop_of_length_le (by rw [← h]; simp)]; simp⟩
  | m + 1, i, h, hf => by
    obtain ⟨r2, h1, h2, h3⟩ := array_rows m (i + 1) (by rw [← h]; congr 1; omega) fun j hj1 hj2 => hf j (by omega) (by omega)
    obtain ⟨r1, q1, q2, q3⟩ := hf i (Nat.le_refl _) (by omega)
    have hl : i * sz + sz ≤ cs.length := by
      rw [← h, show i + (m + 1) = i + 1 + m by omega, Nat.add_mul, Nat.add_mul]; omega
    have hl1 : r1.length = sz := by
      rw [← CIs_len q1]; simp; omega
    have e1 : (i + 1) * sz = i * sz + sz := by rw [Nat.add_mul, Nat.one_mul]
    have hsplit : cs.drop (i * sz) = (cs.drop (i * sz)).take sz ++ cs.drop ((i + 1) * sz) := by
      rw [e1, ← List.drop_drop, List.take_append_drop]
    refine ⟨r1 ++ r2, ?_, fun j hj => ?_, fun v hv => ?_⟩
    · rw [hsplit]; exact CIs_app q1 h1
    · cases j with
      | zero =>
        rw [Nat.zero_mul, List.drop_zero, List.take_append_of_le_length (by omega), List.take_of_length_le (by omega)]
        exact q2
      | succ j =>
        have e2 : (r1 ++ r2).drop ((j + 1) * sz) = r2.drop (j * sz) := by
          rw [List.drop_append, List.drop_of_length_le (by rw [Nat.add_mul]; omega), List.nil_append]
          congr 1
          rw [Nat.add_mul]; omega
        rw [e2]
        exact h2 j (by omega)
    · rw [hsplit] at hv
      rcases List.mem_append.1 hv with h | h
      · exact q3 v h
      · exact h3 v h

theorem CRow_of {k : Nat} : ∀ {r : List IV} {cs : List Value} {off : Nat}, CIs w A r cs → (∀ v ∈ cs, leafV v) → (∀ (j : Nat) (v : Value), cs[j]? = some v → w.cell? ⟨k, off + j, none⟩ = some v) → CRow w A k off r
  | [], _, _, _, _, _ => by simp [CRow]
  | y :: ys, [], _, h, _, _ => by simp [CIs] at h
  | y :: ys, c :: cs, off, h, hl, hc => by
    simp only [CIs] at h
    simp only [CRow]
    exact ⟨⟨c, by simpa using hc 0 c rfl, hl c (by simp), h.1⟩, CRow_of h.2 (fun v hv => hl v (by simp [hv])) fun j v hj => by
      have := hc (j + 1) v (by simpa using hj)
      rw [show off + 1 + j = off + (j + 1) by omega]
      exact this⟩

end

/-- **What was read as data is a value that may not be written.** -/
theorem read_row {P : Program} {w : World} {H : Type} {enc : TypeId × Value → H} {sp : Nat → Bool} {held : Bool} {S : List TypeId} (hS : closedT P S = true) : ∀ (fuel : Nat) (t : TypeId) (cs : List Value) (y : DataW H × List MemPlace), t ∈ S →
    DataW.trod enc P w 0 sp held fuel t cs = some y → ∃ r, CIs w (fun _ _ => True) r cs ∧ TyRow P fuel t r ∧ ∀ v ∈ cs, leafV v
  | 0, t, cs, y, _, h => by simp [DataW.trod] at h
  | fuel + 1, t, cs, y, ht, h => by
    have hc := List.all_eq_true.1 hS t ht
    simp only [TyRow]
    split at hc
    · rename_i hu
      obtain ⟨b, rfl, _⟩ := DataW.trod_bool hu h
      exact ⟨[.b b], by simp [CIs, CI], ⟨b, rfl⟩, by simp [leafV]⟩
    · rename_i k hu
      obtain ⟨m, rfl, _, hw⟩ := DataW.trod_int hu h
      exact ⟨[.i k m], by simp [CIs, CI], ⟨m, rfl, hw⟩, by simp [leafV]⟩
    · rename_i e hu
      simp only [Bool.and_eq_true, List.contains_eq_mem, decide_eq_true_eq] at hc
      obtain ⟨he, hpos⟩ := hc
      rcases DataW.trod_slice hu h with ⟨rfl, _⟩ | ⟨a, len, cap, elems, rest, n, hn, rfl, _, hb, hl, hcap, hel, hcell, _, _⟩
      · refine ⟨[.rsl .p []], ?_, ⟨[], rfl, by simp, by simp⟩, by simp [leafV]⟩
        simp only [CIs, CI, and_true]
        exact ⟨none, 0, rfl, Nat.le_refl _, by simp, fun h => absurd rfl h⟩
      · have hn' : fuel = n := by omega
        subst hn'
        by_cases h0 : len = 0
        · subst h0
          refine ⟨[.rsl .p []], ?_, ⟨[], rfl, by simp, by simp⟩, by simp [leafV]⟩
          simp only [CIs, CI, and_true]
          exact ⟨some a, cap, rfl, by simp, by simp, fun h => absurd rfl h⟩
        · obtain ⟨k, off, rfl⟩ : ∃ k off, a = ⟨k, off, none⟩ := by
            have h1 := hcell 0 (by omega)
            rw [List.getElem?_eq_getElem (by omega)] at h1
            simp only [Option.bind_eq_some_iff] at h1
            obtain ⟨cs, hcs, _⟩ := h1
            obtain ⟨_, hlen, hget⟩ := World.cells?_some hcs
            have h0 := hget 0 hpos
            rw [List.getElem?_eq_getElem (by omega)] at h0
            have hs := World.cell?_spot h0
            simp only [Nat.zero_mul, Addr.add, if_true] at hs
            exact ⟨a.block, a.off, by cases a; simp only at hs; rw [hs]⟩
          have each : ∀ (m i : Nat), i + m = len → ∃ (rows : List (List IV)), rows.length = m ∧ CRows w (fun _ _ => True) k (off + i * P.cellsOf e) rows ∧ ∀ q ∈ rows, TyRow P fuel e q ∧ q.length = P.cellsOf e := by
            intro m
            induction m with
            | zero => intro i _; exact ⟨[], rfl, by simp [CRows], by simp⟩
            | succ m ih =>
              intro i him
              have h1 := hcell i (by omega)
              rw [List.getElem?_eq_getElem (by omega)] at h1
              simp only [Option.bind_eq_some_iff] at h1
              obtain ⟨cs, hcs, hd⟩ := h1
              obtain ⟨r, q1, q2, q3⟩ := read_row hS fuel e cs _ he hd
              obtain ⟨_, hlen, hget⟩ := World.cells?_some hcs
              have hrow : CRow w (fun _ _ => True) k (off + i * P.cellsOf e) r := CRow_of q1 q3 fun j v hj => by
                have hjl := (List.getElem?_eq_some_iff.1 hj).1
                have := hget j (by omega)
                rw [add_mk, add_mk] at this
                rw [this, hj]
              have hrl : r.length = P.cellsOf e := by rw [← CIs_len q1]; exact hlen
              obtain ⟨rows, e2, e3, e4⟩ := ih (i + 1) (by omega)
              refine ⟨r :: rows, by simp [e2], ?_, fun q hq => ?_⟩
              · simp only [CRows]
                refine ⟨hrow, ?_⟩
                rw [hrl, show off + i * P.cellsOf e + P.cellsOf e = off + (i + 1) * P.cellsOf e by rw [Nat.add_mul, Nat.one_mul]; omega]
                exact e3
              · rcases List.mem_cons.1 hq with rfl | hq
                · exact ⟨q2, hrl⟩
                · exact e4 q hq
          obtain ⟨rows, e2, e3, e4⟩ := each len 0 (by omega)
          refine ⟨[.rsl .p rows], ?_, ⟨rows, rfl, by omega, e4⟩, by simp [leafV]⟩
          simp only [CIs, CI, and_true]
          refine ⟨some ⟨k, off, none⟩, cap, by rw [e2], by omega, by simp, fun _ => ⟨k, off, P.cellsOf e, rfl, trivial, hpos, fun r hr => (e4 r hr).2, ?_⟩⟩
          rw [Nat.zero_mul, Nat.add_zero] at e3
          exact e3
    · rename_i fs hu
      simp only [Bool.and_eq_true, List.all_eq_true, List.contains_eq_mem, decide_eq_true_eq, beq_iff_eq] at hc
      obtain ⟨hin, hoff⟩ := hc
      obtain ⟨xs, n, hn, _, hl, hxl, hf⟩ := DataW.trod_struct hu h
      have hn' : fuel = n := by omega
      subst hn'
      rw [← hl] at hoff
      obtain ⟨r, q1, q2, q3⟩ := struct_rows (w := w) (A := fun _ _ => True) (n := fuel) (cs := cs) fs.toList 0 hoff fun f hff => by
        obtain ⟨i, hi, rfl⟩ := List.getElem_of_mem hff
        have h1 := hf i _ (by rw [Array.getElem?_eq_getElem (by simpa using hi)])
        rw [List.getElem?_eq_getElem (by simp at hi; omega)] at h1
        obtain ⟨r, g1, g2, g3⟩ := read_row hS fuel _ _ _ (hin _ hff) h1
        exact ⟨r, g1, g2, g3⟩
      rw [List.drop_zero] at q1 q3
      refine ⟨r, q1, ?_, q3⟩
      exact ⟨by rw [← CIs_len q1]; exact hl, fun f hff => by have := q2 f hff; rwa [Nat.sub_zero] at this⟩
    · rename_i n e hu
      simp only [Bool.and_eq_true, List.contains_eq_mem, decide_eq_true_eq, beq_iff_eq] at hc
      obtain ⟨he, hsz⟩ := hc
      obtain ⟨xs, m, hm, _, hl, hxl, hf⟩ := DataW.trod_array hu h
      have hm' : fuel = m := by omega
      subst hm'
      obtain ⟨r, q1, q2, q3⟩ := array_rows (w := w) (A := fun _ _ => True) (n := fuel) (e := e) (sz := P.cellsOf e) (cs := cs) n 0 (by rw [Nat.zero_add, hsz, hl]) fun j _ hj => by
        have h1 := hf j (by omega)
        rw [List.getElem?_eq_getElem (by omega)] at h1
        obtain ⟨r, g1, g2, g3⟩ := read_row hS fuel _ _ _ he h1
        exact ⟨r, g1, g2, g3⟩
      rw [Nat.zero_mul, List.drop_zero] at q1 q3
      refine ⟨r, q1, ?_, q3⟩
      exact ⟨by rw [← CIs_len q1]; exact hl, q2⟩
    · cases hc

/-- Where a function is called on what was read: nothing is owned. -/
def outer (w : World) : Cx := { w := w, β := fun _ => none, h := .empty, Fr := fun _ => False, R := fun _ => False }

theorem outer_sim {P : Program} {cfg : Cfg} (w : World) : Sim P cfg (outer w) :=
  ⟨fun b h => (by simp [outer, AH.empty, AH.get, lk] at h), fun b h => h.elim, fun _ _ => rfl, fun b _ _ h => h.elim, fun b _ _ _ _ _ _ h => (by cases h), fun k ⟨_, _, _, h⟩ => (by cases h), fun k h => h.elim⟩

/-- What a value of a type is. -/
def ofRow (ag : Bool) (r : List IV) : AV := if ag then .agg (r.map .iv) else match r with | [y] => .iv y | _ => .undef

theorem outer_ok (w : World) (l : Bool) (k : Nat) : (outer w).ok l k := ⟨fun ⟨_, _, _, h⟩ => (by cases h), fun _ h => h⟩

theorem outer_CIs {w : World} {l : List IV} {vs : List Value} (h : CIs w (fun _ _ => True) l vs) : CIs (outer w).w (outer w).ok l vs :=
  CIs_go ⟨fun l k _ _ => ⟨outer_ok w l k, fun _ _ _ _ => rfl⟩⟩ l vs h

theorem Step.below {w : World} {y : Cx} (st : Step (outer w) y) : Below w.heap.size w y.w :=
  ⟨st.os, st.tape, st.out, st.size, fun k hk => st.same k hk fun ⟨_, _, _, h⟩ => by cases h⟩

end Go.Eng

