/- The engine, part 28: functions of Go's library that are taken whole. -/
import Derived.Test.YtabhhckaclibaaaGreatEngL
import Derived.Lib.BytesEntry
set_option linter.all false
namespace Go.Eng

/-- A table of one function. -/
def one (f : Nat) (a : AFn) : Tab := ⟨fun k => if k = f then some a else none, fun _ => none, fun _ => none⟩

theorem one_ok {P : Program} {cfg : Cfg} {f g : Nat} {F : Func} {a : AFn} (hF : P.funcs[f]? = some F) (hc : cFn P cfg g F = some a) (hn : F.name ≠ "runtime.NumGoroutine") : TabOk P cfg (one f a) where
  fn k fn h := by
    simp only [one] at h
    split at h
    · rename_i e
      simp only [Option.some.injEq] at h
      subst h; subst e
      exact ⟨F, g, hF, hc, hn⟩
    · cases h
  prim k p h := by simp [one] at h
  dprim k p h := by simp [one] at h

/-- Less is known. -/
theorem less_sim {P : Program} {cfg : Cfg} {x : Cx} (hs : Sim P cfg x) {h' : AH} (hn : x.h.next ≤ h'.next)
    (hg : ∀ i blk, h'.get i = some blk → x.h.get i = some blk ∨ ∃ sz rows n, x.h.get i = some (.cells sz rows) ∧ blk = .cells sz (rows.take n)) (hk : ∀ i, ¬ x.R i → h'.get i = x.h.get i) :
    Step x { x with h := h' } ∧ Sim P cfg { x with h := h' } ∧ ∀ D, Keeps D x { x with h := h' } := by
  have hsome : ∀ i, (h'.get i).isSome = true → (x.h.get i).isSome = true := fun i h => by
    obtain ⟨b, hb⟩ := Option.isSome_iff_exists.1 h
    rcases hg i b hb with h1 | ⟨_, _, _, h1, _⟩ <;> simp [h1]
  have hown : ∀ k, Own x.β h' k → Own x.β x.h k := fun k ⟨i, o, h1, h2⟩ => ⟨i, o, hsome i h1, h2⟩
  have st : Step x { x with h := h' } := ⟨rfl, Nat.le_refl _, fun _ _ _ => rfl, fun _ c _ fr h => ⟨c, fr, h, rfl⟩, rfl, rfl, rfl, hn, fun i hi => ⟨hi, rfl⟩, fun k h => .inl (hown k h)⟩
  refine ⟨st, ⟨fun i hi => Nat.lt_of_lt_of_le (hs.lt i (hsome i hi)) hn, fun i hi => Nat.lt_of_lt_of_le (hs.rlt i hi) hn, hs.nr, fun i blk hi hR => ?_, fun i j k off off' hi hj => hs.inj i j k off off' (hsome i hi) (hsome j hj), fun k hk => hs.own k (hown k hk), hs.fr⟩, fun D i _ hR _ => ⟨hk i hR, hR⟩⟩
  rcases hg i blk hi with h1 | ⟨sz, rows, n, h1, rfl⟩
  · exact (hs.ok i blk h1 hR).step st rfl fun _ _ _ => rfl
  · have hb := hs.ok i _ h1 hR
    have hb2 : BlkOk P cfg x i (.cells sz (rows.take n)) := by
      simp only [BlkOk] at hb ⊢
      refine ⟨hb.1, fun hne => ?_⟩
      obtain ⟨k, off, q1, q2, q3, q4⟩ := hb.2 (by rintro rfl; simp at hne)
      exact ⟨k, off, q1, q2, fun r hr => q3 r (List.mem_of_mem_take hr), ARows_take q4 n⟩
    exact hb2.step st rfl fun _ _ _ => rfl

theorem rowsRead_add {h : AH} {b : Nat} {x : Blk} (hf : h.get b = none) {sz : Nat} {v : AV} {rows : List (List AV)} (e : rowsRead h sz v = some rows) : rowsRead (h.add b x) sz v = some rows := by
  unfold rowsRead at e ⊢
  split at e
  · exact e
  · exact e
  · split at e
    · rename_i hc
      rw [if_pos hc]
      split at e
      · rename_i h0; rw [if_pos h0]; exact e
      · rename_i h0
        rw [if_neg h0]
        simp only [Option.bind_eq_some_iff] at e ⊢
        obtain ⟨r, h1, h2⟩ := e
        exact ⟨r, rowsOf_add hf h1, h2⟩
    · cases e
  · exact e
  · cases e

theorem rowsRead_bump {h : AH} {n sz : Nat} {v : AV} : rowsRead (h.bump n) sz v = rowsRead h sz v := rfl

/-- What is read is a slice. -/
theorem rowsRead_slice {P : Program} {cfg : Cfg} {x : Cx} (hs : Sim P cfg x) {sz : Nat} {v : AV} {u : Value} (h : CA x v u) (hns : ∀ l, v ≠ .iv (.s l)) {rows : List (List AV)} (he : rowsRead x.h sz v = some rows) :
    ∃ a c, u = .slice a rows.length c ∧ (a = none → rows = []) := by
  unfold rowsRead at he
  split at he
  · split at he
    case isFalse => cases he
    rename_i rows' hun
    simp only [Option.some.injEq] at he
    subst he
    simp only [CA, CI] at h
    obtain ⟨a, cap, rfl, _, _, hr⟩ := h
    refine ⟨a, cap, by simp, fun e => ?_⟩
    by_cases hne : rows' = []
    · simp [hne]
    · obtain ⟨k, off, sz', e', _⟩ := hr hne
      rw [e] at e'; cases e'
  · exact absurd rfl (hns _)
  · rename_i b s st len cp
    split at he
    case isFalse => cases he
    simp only [CA] at h
    obtain ⟨hR, a, cap, rfl, hlc, _, hm⟩ := h
    split at he
    · rename_i h0
      simp only [Option.some.injEq] at he
      subst he
      subst h0
      exact ⟨a, cap, rfl, fun _ => rfl⟩
    · rename_i h0
      simp only [Option.bind_eq_some_iff] at he
      obtain ⟨rows0, _, he⟩ := he
      split at he
      case isFalse => cases he
      simp only [Option.some.injEq] at he
      subst he
      have hl : ((rows0.drop st).take len).length = len := by simp; omega
      rw [hl]
      refine ⟨a, cap, rfl, fun e => ?_⟩
      subst e
      simp only at hm
      exact absurd hm.1 h0
  · simp only [Option.some.injEq] at he
    subst he
    simp only [CA, CI] at h
    exact ⟨_, _, h, fun _ => rfl⟩
  · cases he

/-! ### Clone -/
def cloneA (sz bytes : Nat) (z : List AV) : AFn := ⟨8, [.t 2], .seq (.reg 0 [⟨some 2, none, 0, .mov (.c (.iv (.rsl .n []))), []⟩]) (.seq (.seq (.reg 0 [⟨some 3, none, 0, .mov (.t 0), []⟩, ⟨some 4, none, 0, .eqn .sl false (.t 3), []⟩])
  (.cond (.t 4) (.seq (.reg 0 [⟨some 2, none, 0, .mov (.c (.iv (.rsl .n []))), []⟩]) .ret) .skip)) (.seq (.reg 2 [⟨some 5, none, 0, .bsl sz 0 z [], []⟩, ⟨some 6, none, 1, .mov (.t 0), []⟩, ⟨some 7, none, 1, .app sz bytes (.t 5) (.t 6), []⟩, ⟨some 2, none, 2, .mov (.t 7), []⟩]) .ret))⟩

theorem clone_nil {f sz bytes : Nat} {z : List AV} {X : AV} {h : AH} (hX : isNil .sl X = some true) : call (one f (cloneA sz bytes z)) 2 (.fn f) [X] h = some (.iv (.rsl .n []), h) := by
  simp [call, one, cloneA, start, run, execs, exec1, opV, AOp.cls, evalP, guardOf, setD, Eng.X.ev, hX, AH.bump, List.replicate, results, resVal, defers]

theorem clone_some {f sz bytes : Nat} {z : List AV} (hz : z.length = sz) (hs0 : 0 < sz) {X : AV} {h : AH} (hX : isNil .sl X = some false) {rows : List (List AV)} (hr : rowsRead ((h.bump 2).add h.next (.cells sz [])) sz X = some rows) (hm : roomy rows.length bytes = true) :
    call (one f (cloneA sz bytes z)) 2 (.fn f) [X] h = some (.sl (h.next + 1) sz 0 rows.length none, (((h.bump 2).add h.next (.cells sz [])).del h.next).add (h.next + 1) (.cells sz rows)) := by
  have hg : ((h.bump 2).add h.next (.cells sz [])).get h.next = some (.cells sz []) := by rw [AH.get_add, if_pos rfl]
  have hb0 : h.bump 0 = h := rfl
  simp [call, one, cloneA, start, run, execs, exec1, opV, AOp.cls, evalP, evalN, evalW, guardOf, setD, Eng.X.ev, hX, hb0, List.replicate, results, resVal, defers, partsOf, fillA, addAll, hz, hs0, hr, appendRows, hg, hm]

theorem prim_clone {P : Program} {cfg : Cfg} (hmo : P.follows .mixedOrders = true) {f g sz bytes : Nat} {F : Func} {z : List AV} (hF : P.funcs[f]? = some F) (hc : cFn P cfg g F = some (cloneA sz bytes z)) (hn : F.name ≠ "runtime.NumGoroutine") (hz : z.length = sz) (hs0 : 0 < sz) :
    ∀ (args : List AV) (h : AH) (v : AV) (h' : AH), primClone sz bytes args h = some (v, h') → ∀ (x : Cx) (us : List Value), x.h = h → Sim P cfg x → CAs x args us → FnOk P f us.toArray x.w (Out P cfg x h' v) := by
  intro args h v h' he x us hx hs ha
  subst hx
  unfold primClone at he
  split at he
  case h_2 => cases he
  rename_i X
  cases us with
  | nil => simp [CAs] at ha
  | cons u us =>
    cases us with
    | cons _ _ => simp [CAs] at ha
    | nil =>
      simp only [CAs, and_true] at ha
      split at he
      · cases he
      rename_i hns
      simp only [Option.bind_eq_some_iff] at he
      obtain ⟨rows, hrows, he⟩ := he
      split at he
      case isFalse => cases he
      rename_i hroom
      simp only [Option.some.injEq, Prod.mk.injEq] at he
      obtain ⟨rfl, rfl⟩ := he
      have rk := call_ok (one_ok hF hc hn) hmo 2
      have hfree : x.h.get x.h.next = none := by
        cases hg : x.h.get x.h.next with
        | none => rfl
        | some b => have := hs.lt x.h.next (by simp [hg]); omega
      obtain ⟨a, c, rfl, hnil⟩ := rowsRead_slice hs ha (fun l e => hns l e) hrows
      have hrd : ∀ X', rowsRead x.h sz X' = some rows → rowsRead ((x.h.bump 2).add x.h.next (.cells sz [])) sz X' = some rows := fun X' h => rowsRead_add (h := x.h.bump 2) hfree h
      have main : ∀ X', CA x X' (.slice a rows.length c) → isNil .sl X' = some false → rowsRead x.h sz X' = some rows → FnOk P f [Value.slice a rows.length c].toArray x.w
          (Out P cfg x ((((x.h.bump 2).add x.h.next (.cells sz [])).del x.h.next).add (x.h.next + 1) (.cells sz rows)) (.sl (x.h.next + 1) sz 0 rows.length none)) := fun X' hX' hni hr' =>
        rk.fn f [X'] x.h _ _ (clone_some hz hs0 hni (hrd X' hr') hroom) x _ rfl hs (by simp only [CAs, and_true]; exact hX')
      by_cases hr0 : rows = []
      · subst hr0
        cases a with
        | some ad => exact main (.iv (.c (.slice (some ad) 0 c))) (by simp [CA, CI]) rfl (by simp [rowsRead])
        | none =>
          have hX' : CA x (.iv (.c (.slice none 0 c))) (.slice none 0 c) := by simp [CA, CI]
          have h1 := rk.fn f [.iv (.c (.slice none 0 c))] x.h _ _ (clone_nil (by rfl)) x [.slice none 0 c] rfl hs (by simp only [CAs, and_true]; exact hX')
          refine ⟨h1.1, h1.2.mono ?_⟩
          rintro e w' ⟨y, u, rfl, hyh, rfl, st, kp, hsy, hv⟩
          simp only [CA, CI] at hv
          obtain ⟨a', cap', rfl, _, hn', _⟩ := hv
          obtain ⟨rfl, rfl⟩ := hn' trivial
          have hsz2 : ((x.h.bump 2).add x.h.next (.cells sz [])).del x.h.next = ⟨x.h.next + 2, Eng.del x.h.bl x.h.next⟩ := by simp [AH.bump, AH.add, AH.del, Eng.del]
          obtain ⟨l1, l2, l3⟩ := less_sim (h' := ((x.h.bump 2).add x.h.next (.cells sz [])).del x.h.next) hsy (by rw [hyh, hsz2]; simp) (fun i blk hi => .inl (by
            rw [AH.get_del] at hi
            split at hi
            · cases hi
            · rename_i hne
              rw [AH.get_add, if_neg hne] at hi
              rw [hyh]; exact hi)) (fun i _ => by
            rw [AH.get_del]
            split
            · rename_i e; subst e; rw [hyh, hfree]
            · rename_i hne
              rw [AH.get_add, if_neg hne, hyh]; rfl)
          have hRn : ¬ y.R (x.h.next + 1) := fun hR => by have := hsy.rlt _ hR; rw [hyh] at this; omega
          obtain ⟨s1, s2, s3⟩ := adopt_none (b := x.h.next + 1) (sz := sz) (h' := (((x.h.bump 2).add x.h.next (.cells sz [])).del x.h.next).add (x.h.next + 1) (.cells sz [])) l2 hRn (by rw [hsz2]; simp) ⟨rfl, by simp [AH.get_add], fun i hi => by simp [AH.get_add, hi]⟩
          refine ⟨Cx.adopt { y with h := ((x.h.bump 2).add x.h.next (.cells sz [])).del x.h.next } y.w (x.h.next + 1) none ((((x.h.bump 2).add x.h.next (.cells sz [])).del x.h.next).add (x.h.next + 1) (.cells sz [])), _, rfl, rfl, rfl, st.trans (l1.trans s1), ?_, s2, ?_⟩
          · intro b hb hR hD
            obtain ⟨k1, k2⟩ := (kp.trans st.next (l3 _)) b hb hR hD
            obtain ⟨k3, k4⟩ := s3 b (Nat.lt_of_lt_of_le hb (st.trans l1).next) k2 (by omega)
            exact ⟨k3.trans k1, k4⟩
          · simp only [CA]
            exact ⟨.inl rfl, none, 0, rfl, Nat.le_refl _, by simp, rfl, rfl⟩
      · cases a with
        | none => exact absurd (hnil rfl) hr0
        | some ad =>
          -- nil or not: it has elements
          have hl : rows.length ≠ 0 := fun e => hr0 (List.eq_nil_of_length_eq_zero e)
          have hni : isNil .sl X = some false := by
            unfold rowsRead at hrows
            split at hrows
            · split at hrows
              case isFalse => cases hrows
              rename_i t rows' _
              simp only [Option.some.injEq] at hrows
              cases rows' with
              | nil => subst hrows; simp at hl
              | cons r rs => cases t <;> first | rfl | (simp only [CA, CI] at ha; obtain ⟨a', c', e, _, hnn, _⟩ := ha; injection e with e1 e2 e3; rw [← e1] at hnn; exact absurd (hnn trivial).1 (by simp))
            · exact absurd rfl (hns _)
            · split at hrows
              case isFalse => cases hrows
              rename_i b s st len cp _
              split at hrows
              · simp only [Option.some.injEq] at hrows; subst hrows; simp at hl
              · cases len with
                | zero => rename_i h0; exact absurd rfl h0
                | succ n => rfl
            · simp only [Option.some.injEq] at hrows; subst hrows; simp at hl
            · cases hrows
          exact main X ha hni hrows

/-! ### Compare -/
theorem cmp_is : ∀ (a b : List UInt8), Lib.compareBytes a b = cmpBytes a b
  | [], [] => rfl
  | [], _ :: _ => rfl
  | _ :: _, [] => rfl
  | a :: as, b :: bs => by simp only [Lib.compareBytes, cmpBytes, cmp_is as bs]

theorem rsl_bytes {P : Program} {x : Cx} {t : Tag} {rows : List (List IV)} {u : Value} (h : CA x (.iv (.rsl t rows)) u) {l : List UInt8} (hl : bytesOfRows rows = some l) : (Extern.Bytes.bytesOf u).run P x.w = .ok ⟨l.toArray⟩ x.w := by
  simp only [CA, CI] at h
  obtain ⟨a, cap, rfl, _, _, hr⟩ := h
  have hlen : l.length = rows.length := mapO_length hl
  by_cases hne : rows = []
  · subst hne
    have : l = [] := List.eq_nil_of_length_eq_zero hlen
    subst this
    cases a <;> simp [Extern.Bytes.bytesOf, Extern.Bytes.loadBytes] <;> rfl
  · obtain ⟨k, off, sz, rfl, hA, hsz, hall, hrows⟩ := hr hne
    obtain ⟨_, hc⟩ := bytesRowsA (x := x) (l := l) ((bytesOfRows_map rows).trans hl) (ARows_of_CRows (CRows_sub hA hrows))
    have := Lib.run_loadBytesX (P := P) x.w (l.map fun u => (u.toNat : Int)) ⟨k, off, none⟩ .empty (fun j y hj => by
      rw [List.getElem?_map] at hj
      simp only [Option.map_eq_some_iff] at hj
      obtain ⟨v, hv, rfl⟩ := hj
      obtain ⟨hj', rfl⟩ := List.getElem?_eq_some_iff.1 hv
      rw [add_mk]
      exact hc j hj')
    have e : Lib.bytesOf (l.map fun u => (u.toNat : Int)) = l := by
      simp only [Lib.bytesOf, List.map_map]
      refine (List.map_congr_left fun u _ => ?_).trans (List.map_id _)
      simp
    rw [e, List.length_map, hlen] at this
    simp only [Extern.Bytes.bytesOf]
    rw [this]
    congr 1
    apply ByteArray.ext
    show (#[] : Array UInt8) ++ l.toArray = l.toArray
    simp

theorem wp_one {P : Program} {ops : Array Oper} {Q : Exit → Act → World → Prop} {i : Nat} {rest : List Nat} {o : Oper} {a : Act} {w w' : World} {v : Value} (ho : ops[i]? = some o) (hg : o.guard = none) (hd : ∀ c, o.op ≠ .defer c)
    (hr : (execOp a.eval o).run P w = .ok (.value v) w') (hk : wpOpsIn Fence.wide 0 P ops Q rest (a.put o.dst v) w') : wpOpsIn Fence.wide 0 P ops Q (i :: rest) a w := by
  simp only [wpOpsIn, ho]
  rw [if_pos (by simp [Region.wanted, hg])]
  refine ⟨fun _ _ => trivial, ?_⟩
  rw [Oper.semAt_plain _ _ _ hd, hr, Oper.uponIn_value]
  exact hk

theorem prim_compare {P : Program} {cfg : Cfg} {f k : Nat} {F E : Func} {i0 i1 : Nat} {o0 o1 o2 o3 o4 : Oper} {v0 : Value} {c : Call} (hF : P.funcs[f]? = some F) (hn : F.name ≠ "runtime.NumGoroutine")
    (hb : F.body = some (.seq (.region i0 #[o0] false) (.seq (.region i1 #[o1, o2, o3, o4] false) .ret))) (hnt : F.ntmps = 8) (hres : F.results = #[.tmp 4])
    (h0 : o0.op = .assign (.const v0) ∧ o0.dst = some 4 ∧ o0.guard = none) (h1 : o1.op = .move (.tmp 0) ∧ o1.dst = some 5 ∧ o1.guard = none) (h2 : o2.op = .move (.tmp 1) ∧ o2.dst = some 6 ∧ o2.guard = none)
    (h3 : o3.op = .call c ∧ o3.dst = some 7 ∧ o3.guard = none) (hcal : c.callee = .value (.func k)) (hcar : c.args = #[.tmp 5, .tmp 6]) (h4 : o4.op = .assign (.tmp 7) ∧ o4.dst = some 4 ∧ o4.guard = none)
    (hE : P.funcs[k]? = some E) (hEn : E.name ≠ "runtime.NumGoroutine") (hEb : E.body = none) (hx1 : Extern.findNext E = none) (hx2 : Extern.find E = some Extern.BytealgCompare.compare) :
    ∀ (args : List AV) (h : AH) (v : AV) (h' : AH), primCompare args h = some (v, h') → ∀ (x : Cx) (us : List Value), x.h = h → Sim P cfg x → CAs x args us → FnOk P f us.toArray x.w (Out P cfg x h' v) := by
  intro args h v h' he x us hx hs ha
  subst hx
  unfold primCompare at he
  split at he
  case h_2 => cases he
  rename_i ta ra tb rb
  simp only [Option.bind_eq_some_iff, Option.map_eq_some_iff, Prod.mk.injEq] at he
  obtain ⟨l, hl, m, hm, rfl, rfl⟩ := he
  match us, ha with
  | [u1, u2], ha =>
  simp only [CAs, and_true] at ha
  have r1 := rsl_bytes (P := P) ha.1 hl
  have r2 := rsl_bytes (P := P) ha.2 hm
  refine ⟨callFunc_enter hF hn hb _ _, ?_⟩
  have hcall : (callFunc k #[u1, u2]).run P x.w = .ok (.value (.int .i64 (cmpBytes l m))) x.w := by
    have : (Extern.BytealgCompare.compare #[u1, u2]).run P x.w = .ok (.int .i64 (cmpBytes l m)) x.w := by
      change Sem.run P (do pure (goInt (Extern.BytealgCompare.cmp (← Extern.Bytes.bytesOf u1) (← Extern.Bytes.bytesOf u2)))) x.w = _
      simp only [Sem.run_bind, r1, r2, Result.andThen_ok, Sem.run_pure]
      rw [Lib.cmp_eq, cmp_is]
      rfl
    simp [callFunc, hE, hEn, hEb, hx1, hx2, this, mark, Sem.run]
  have hst : ({ tmps := #[u1, u2] ++ Array.replicate (F.ntmps - 2) undef, defers := [] } : Act) = { tmps := #[u1, u2, undef, undef, undef, undef, undef, undef], defers := [] } := by
    rw [hnt]; rfl
  refine callsIn_of_wp (F := Fence.wide) hF hb trivial ?_
  show Code.wpIn _ _ _ _ _ ({ tmps := #[u1, u2] ++ Array.replicate (F.ntmps - 2) undef, defers := [] } : Act) _
  rw [hst]
  refine wpIn_seq (wpIn_region ?_)
  show wpOpsIn _ _ _ _ _ [0] _ _
  refine wp_one (o := o0) (v := v0) (w' := x.w) rfl h0.2.2 (fun c e => by rw [h0.1] at e; cases e) (by simp [execOp, h0.1, Act.eval]) ?_
  rw [h0.2.1]
  refine wpIn_seq (wpIn_region ?_)
  show wpOpsIn _ _ _ _ _ [0, 1, 2, 3] _ _
  refine wp_one (o := o1) (v := u1) (w' := x.w) rfl h1.2.2 (fun c e => by rw [h1.1] at e; cases e) (by simp [execOp, h1.1, Act.eval, Act.put]) ?_
  rw [h1.2.1]
  refine wp_one (o := o2) (v := u2) (w' := x.w) rfl h2.2.2 (fun c e => by rw [h2.1] at e; cases e) (by simp [execOp, h2.1, Act.eval, Act.put]) ?_
  rw [h2.2.1]
  refine wp_one (o := o3) (v := .int .i64 (cmpBytes l m)) (w' := x.w) rfl h3.2.2 (fun c e => by rw [h3.1] at e; cases e) ?_ ?_
  · have e : (execOp (Act.put (Act.put (Act.put { tmps := #[u1, u2, undef, undef, undef, undef, undef, undef], defers := [] } (some 4) v0) (some 5) u1) (some 6) u2).eval o3).run P x.w = (callFunc k #[u1, u2]).run P x.w := by
      simp [execOp, h3.1, resolve, hcal, hcar, Act.eval, Act.put, Deferred.ofValue, invoke]
    rw [e, hcall]
  rw [h3.2.1]
  refine wp_one (o := o4) (v := .int .i64 (cmpBytes l m)) (w' := x.w) rfl h4.2.2 (fun c e => by rw [h4.1] at e; cases e) (by simp [execOp, h4.1, Act.eval, Act.put]) ?_
  rw [h4.2.1]
  refine wpIn_ret ?_
  refine bodyPost_ret (results_tmp hres _ _ _) rfl ?_
  exact ⟨x, _, rfl, rfl, rfl, Step.refl x, Keeps.refl _ x, hs, by simp [CA, CI, Act.put]⟩

end Go.Eng

/- The engine, part 29: slices.Delete. -/
namespace Go.Eng

def deleteA (sz bytes : Nat) (z : List AV) : AFn := ⟨33, [.t 6], (.seq (.reg 0 [⟨(some 6), none, 0, .mov (.c (.iv (.rsl .n []))), []⟩]) (.seq (.reg 0 [⟨(some 8), none, 0, .mov (.t 0), []⟩, ⟨(some 9), none, 0, .mov (.t 1), []⟩, ⟨(some 10), none, 0, .mov (.t 2), []⟩, ⟨(some 11), none, 0, .mov (.t 0), []⟩, ⟨(some 12), none, 0, .len (.t 11), []⟩, ⟨(some 13), none, 0, .slc sz (.t 8) (some (.t 9)) (some (.t 10)) (some (.t 12)), []⟩]) (.seq (.seq (.reg 0 [⟨(some 14), none, 0, .mov (.t 1), []⟩, ⟨(some 15), none, 0, .mov (.t 2), []⟩, ⟨(some 16), none, 0, .bin .eql (.t 14) (.t 15), []⟩]) (.cond (.t 16) (.seq (.reg 0 [⟨(some 17), none, 0, .mov (.t 0), []⟩, ⟨(some 6), none, 0, .mov (.t 17), []⟩]) .ret) .skip)) (.seq (.reg 0 [⟨(some 18), none, 0, .mov (.t 0), []⟩, ⟨(some 19), none, 0, .len (.t 18), []⟩, ⟨(some 7), none, 0, .mov (.t 19), []⟩]) (.seq (.reg 1 [⟨(some 20), none, 0, .mov (.t 0), []⟩, ⟨(some 21), none, 0, .mov (.t 1), []⟩, ⟨(some 22), none, 0, .slc sz (.t 20) none (some (.t 21)) none, []⟩, ⟨(some 23), none, 0, .mov (.t 0), []⟩, ⟨(some 24), none, 0, .mov (.t 2), []⟩, ⟨(some 25), none, 0, .slc sz (.t 23) (some (.t 24)) none none, []⟩, ⟨(some 26), none, 0, .app sz bytes (.t 22) (.t 25), []⟩, ⟨(some 0), none, 1, .mov (.t 26), []⟩]) (.seq (.reg 0 [⟨(some 27), none, 0, .mov (.t 0), []⟩, ⟨(some 28), none, 0, .mov (.t 0), []⟩, ⟨(some 29), none, 0, .len (.t 28), []⟩, ⟨(some 30), none, 0, .mov (.t 7), []⟩, ⟨(some 31), none, 0, .slc sz (.t 27) (some (.t 29)) (some (.t 30)) none, []⟩, ⟨none, none, 0, .clr sz z (.t 31), []⟩]) (.seq (.reg 0 [⟨(some 32), none, 0, .mov (.t 0), []⟩, ⟨(some 6), none, 0, .mov (.t 32), []⟩]) .ret)))))))⟩

theorem delete_eq {f sz bytes : Nat} {z : List AV} {b st len c a : Nat} {h : AH} (h1 : a ≤ len) (h2 : len ≤ c) :
    call (one f (deleteA sz bytes z)) 2 (.fn f) [.sl b sz st len (some c), .iv (.i .i64 (a : Int)), .iv (.i .i64 (a : Int))] h = some (.sl b sz st len (some c), h) := by
  have hb0 : h.bump 0 = h := rfl
  have e1 : bounds len c (some (a : Int)) (some (a : Int)) (some (len : Int)) = some (a, a, some len) := by
    simp only [bounds, Option.getD_some]
    rw [if_pos (by omega)]
    simp
  simp [call, one, deleteA, start, run, execs, exec1, opV, AOp.cls, evalP, guardOf, setD, Eng.X.ev, hb0, List.replicate, results, resVal, defers, boundOf, sliceV, e1, binV, binI]

/-- What is left in a block behind slices.Delete. -/
def deleted (rows : List (List AV)) (z : List AV) (st len a d : Nat) : List (List AV) :=
  splice (if d < len then splice rows (st + a) ((rows.drop (st + d)).take (len - d)) else rows) (st + (a + (len - d))) (List.replicate (len - (a + (len - d))) z)

theorem delete_lt {f sz bytes : Nat} {z : List AV} {b st len c a d : Nat} {h : AH} {rows : List (List AV)} (hz : z.length = sz) (hg : h.get b = some (.cells sz rows)) (hl : st + len ≤ rows.length) (h0 : a < d) (h1 : d ≤ len) (h2 : len ≤ c) (hm : roomy len bytes = true) :
    call (one f (deleteA sz bytes z)) 2 (.fn f) [.sl b sz st len (some c), .iv (.i .i64 (a : Int)), .iv (.i .i64 (d : Int))] h =
      some (.sl b sz st (a + (len - d)) (some c), (if d < len then ((h.bump 1).set b (.cells sz (splice rows (st + a) ((rows.drop (st + d)).take (len - d))))) else h.bump 1).set b (.cells sz (deleted rows z st len a d))) := by
  have hb0 : ∀ h : AH, h.bump 0 = h := fun _ => rfl
  have e1 : bounds len c (some (a : Int)) (some (d : Int)) (some (len : Int)) = some (a, d, some len) := by
    simp only [bounds, Option.getD_some]
    rw [if_pos (by omega)]
    simp
  have e2 : bounds len c none (some (a : Int)) none = some (0, a, none) := by
    simp only [bounds, Option.getD_some, Option.getD_none]
    rw [if_pos (by omega)]
    simp
  have e3 : bounds len c (some (d : Int)) none none = some (d, len, none) := by
    simp only [bounds, Option.getD_some, Option.getD_none]
    rw [if_pos (by omega)]
    simp
  have e4 : bounds (a + (len - d)) c (some ((a : Int) + ((len - d : Nat) : Int))) (some (len : Int)) none = some (a + (len - d), len, none) := by
    simp only [bounds, Option.getD_some]
    rw [if_pos (by omega)]
    simp
    omega
  have hne : ¬ ((a : Int) = (d : Int)) := by omega
  have hrd : rowsRead (h.bump 1) sz (.sl b sz (st + d) (len - d) (some (c - d))) = some ((rows.drop (st + d)).take (len - d)) := by
    simp only [rowsRead, rowsOf]
    have : (h.bump 1).get b = some (.cells sz rows) := hg
    by_cases h3 : len - d = 0
    · simp [h3]
    · rw [if_pos (.inl trivial), if_neg h3, this]
      simp only [if_true, Option.bind_some]
      rw [if_pos (by omega)]
  have hnl : ((rows.drop (st + d)).take (len - d)).length = len - d := by simp; omega
  have hap : appendRows (h.bump 1) sz bytes h.next (.sl b sz st a (some c)) ((rows.drop (st + d)).take (len - d)) =
      some (.sl b sz st (a + (len - d)) (some c), if d < len then (h.bump 1).set b (.cells sz (splice rows (st + a) ((rows.drop (st + d)).take (len - d)))) else h.bump 1) := by
    have hgb : (h.bump 1).get b = some (.cells sz rows) := hg
    have hrm : roomy (a + (len - d)) bytes = true := by
      simp only [roomy, Bool.and_eq_true, decide_eq_true_eq] at hm ⊢
      have : (a + (len - d)) * bytes ≤ len * bytes := Nat.mul_le_mul_right _ (by omega)
      omega
    simp only [appendRows, hgb, hnl]
    rw [if_pos ⟨trivial, trivial, by omega, by omega, hrm⟩]
    by_cases h3 : d < len
    · rw [if_neg (by intro he; have := List.isEmpty_iff.1 he; rw [this] at hnl; simp at hnl; omega), if_pos h3]
    · rw [if_pos (by rw [List.isEmpty_iff]; apply List.eq_nil_of_length_eq_zero; omega), if_neg h3, show a + (len - d) = a by omega]
  generalize hH : (if d < len then (h.bump 1).set b (.cells sz (splice rows (st + a) ((rows.drop (st + d)).take (len - d)))) else h.bump 1) = H at hap ⊢
  have hgH : H.get b = some (.cells sz (if d < len then splice rows (st + a) ((rows.drop (st + d)).take (len - d)) else rows)) := by
    rw [← hH]
    have hgb : (h.bump 1).get b = some (.cells sz rows) := hg
    split
    · rw [AH.get_set, if_pos rfl, hgb]; rfl
    · exact hgb
  have hlen : st + len ≤ (if d < len then splice rows (st + a) ((rows.drop (st + d)).take (len - d)) else rows).length := by
    split
    · simp only [splice, List.length_append, List.length_take, List.length_drop]; omega
    · exact hl
  have hro : rowsOf H b sz = some (if d < len then splice rows (st + a) ((rows.drop (st + d)).take (len - d)) else rows) := by
    simp only [rowsOf, hgH, if_true]
  have h5 : ¬ (len - (a + (len - d)) = 0) := by omega
  have h6 : st + (a + (len - d)) + (len - (a + (len - d))) ≤ (if d < len then splice rows (st + a) ((rows.drop (st + d)).take (len - d)) else rows).length := by omega
  have h7 : ((a : Int) == (d : Int)) = false := by simpa using hne
  simp [call, one, deleteA, start, run, execs, exec1, opV, AOp.cls, evalP, evalW, guardOf, setD, Eng.X.ev, hb0, List.replicate, results, resVal, defers, boundOf, sliceV, e1, e2, e3, e4, binV, binI, h7, hrd, hap, hro, h5, h6, hz, deleted]

theorem take_splice {R : List (List AV)} {n : Nat} {new : List (List AV)} (h : n ≤ R.length) : (splice R n new).take n = R.take n := by
  unfold splice
  rw [List.append_assoc, List.take_append_of_le_length (by simp; omega), List.take_take, Nat.min_self]

theorem deleted_take {rows : List (List AV)} {z : List AV} {st len a d : Nat} (hl : st + len ≤ rows.length) (h0 : a < d) (h1 : d ≤ len) :
    (deleted rows z st len a d).take (st + (a + (len - d))) = rows.take st ++ ((rows.drop st).take len).take a ++ ((rows.drop st).take len).drop d := by
  have e1 : rows.take st ++ ((rows.drop st).take len).take a = rows.take (st + a) := by
    rw [List.take_take, Nat.min_eq_left (by omega), List.take_add]
  have e2 : ((rows.drop st).take len).drop d = (rows.drop (st + d)).take (len - d) := by
    rw [List.drop_take, List.drop_drop]
  have hnl : ((rows.drop (st + d)).take (len - d)).length = len - d := by simp; omega
  unfold deleted
  rw [take_splice (by
    split
    · simp only [splice, List.length_append, List.length_take, List.length_drop]; omega
    · omega), e1, e2]
  split
  · unfold splice
    have hl1 : (rows.take (st + a)).length = st + a := by simp; omega
    rw [List.take_append_of_le_length (by simp; omega), List.take_of_length_le (by simp; omega)]
  · rename_i h
    have : d = len := by omega
    subst this
    simp

theorem prim_delete {P : Program} {cfg : Cfg} (hmo : P.follows .mixedOrders = true) {f g sz bytes : Nat} {F : Func} {z : List AV} (hF : P.funcs[f]? = some F) (hc : cFn P cfg g F = some (deleteA sz bytes z)) (hn : F.name ≠ "runtime.NumGoroutine") (hz : z.length = sz) :
    ∀ (args : List AV) (h : AH) (v : AV) (h' : AH), primDelete sz bytes args h = some (v, h') → ∀ (x : Cx) (us : List Value), x.h = h → Sim P cfg x → CAs x args us → FnOk P f us.toArray x.w (Out P cfg x h' v) := by
  intro args h v h' he x us hx hs ha
  subst hx
  unfold primDelete at he
  split at he
  case h_2 => cases he
  rename_i b s st len cap i j
  simp only [Option.bind_eq_some_iff] at he
  obtain ⟨rows, hrows, he⟩ := he
  split at he
  case isFalse => cases he
  rename_i hcond
  obtain ⟨rfl, hs0, hl, hi0, hij, hjl, hroom⟩ := hcond
  simp only [Option.some.injEq, Prod.mk.injEq] at he
  obtain ⟨rfl, rfl⟩ := he
  obtain ⟨a, rfl⟩ : ∃ a : Nat, i = (a : Int) := ⟨i.toNat, by omega⟩
  obtain ⟨d, rfl⟩ : ∃ d : Nat, j = (d : Int) := ⟨j.toNat, by omega⟩
  have hg := rowsOf_some hrows
  have rk := call_ok (one_ok hF hc hn) hmo 2
  match us, ha with
  | [u0, u1, u2], ha =>
  simp only [CAs, and_true] at ha
  obtain ⟨ha0, ha1, ha2⟩ := ha
  obtain ⟨c, hlc, hac⟩ : ∃ c, len ≤ c ∧ CA x (.sl b s st len (some c)) u0 := by
    simp only [CA] at ha0
    obtain ⟨hR, ad, c, rfl, hlc, _, hm⟩ := ha0
    exact ⟨c, hlc, by simp only [CA]; exact ⟨hR, ad, c, rfl, hlc, fun m e => by simpa using e, hm⟩⟩
  have hR : x.R b := by simp only [CA] at hac; exact hac.1
  have hargs : CAs x [.sl b s st len (some c), .iv (.i .i64 (a : Int)), .iv (.i .i64 (d : Int))] [u0, u1, u2] := by simp only [CAs, and_true]; exact ⟨hac, ha1, ha2⟩
  have tn1 : (a : Int).toNat = a := by omega
  have tn2 : (d : Int).toNat = d := by omega
  have fin : ∀ (y : Cx) (n m : Nat) (rows2 : List (List AV)) (u : Value), Step x y → Keeps (fun _ => False) x y → Sim P cfg y → y.h.get b = some (.cells s rows2) → (∀ k, k ≠ b → y.h.get k = x.h.get k) → y.h.next ≤ x.h.next + 1 → m = len - (d - a) → CA y (.sl b s st m (some c)) u →
      rows2.take n = rows.take st ++ ((rows.drop st).take len).take a ++ ((rows.drop st).take len).drop d →
      Out P cfg x ((x.h.bump 1).set b (.cells s (rows.take st ++ ((rows.drop st).take len).take (a : Int).toNat ++ ((rows.drop st).take len).drop (d : Int).toNat))) (.sl b s st (len - ((d : Int) - (a : Int)).toNat) none) (.returned u) y.w := by
    intro y n m rows2 u st1 kp hsy hgb hother hnx hm hv hpre
    rw [tn1, tn2, ← hpre]
    have hset : ∀ k, ((x.h.bump 1).set b (.cells s (rows2.take n))).get k = if k = b then some (.cells s (rows2.take n)) else x.h.get k := fun k => by
      rw [AH.get_set]
      split
      · have : (x.h.bump 1).get b = some (.cells s rows) := hg
        rw [this]; rfl
      · rfl
    have hRb : y.R b := (st1.loc b hR).1
    obtain ⟨l1, l2, l3⟩ := less_sim (h' := (x.h.bump 1).set b (.cells s (rows2.take n))) hsy (by show _ ≤ x.h.next + 1; exact hnx) (fun k blk hk => by
      rw [hset] at hk
      split at hk
      · rename_i e
        subst e
        simp only [Option.some.injEq] at hk
        exact .inr ⟨s, rows2, n, hgb, hk.symm⟩
      · rename_i e
        exact .inl ((hother k e).trans hk)) (fun k hk => by
      have hne : k ≠ b := fun e => hk (by rw [e]; exact hRb)
      rw [hset, if_neg hne, hother k hne])
    refine ⟨{ y with h := (x.h.bump 1).set b (.cells s (rows2.take n)) }, u, rfl, rfl, rfl, st1.trans l1, kp.trans st1.next (l3 _), l2, ?_⟩
    have hv2 := CA_step l1 _ _ hv
    simp only [CA] at hv2 ⊢
    obtain ⟨g1, ad, c', g2, g3, g4, g5⟩ := hv2
    have hme : len - ((d : Int) - (a : Int)).toNat = m := by omega
    rw [hme]
    exact ⟨g1, ad, c', g2, g3, by simp, g5⟩
  by_cases had : a = d
  · subst had
    have h1 := rk.fn f _ x.h _ _ (delete_eq (bytes := bytes) (z := z) (by omega) hlc) x _ rfl hs hargs
    refine ⟨h1.1, h1.2.mono ?_⟩
    rintro e w' ⟨y, u, rfl, hyh, rfl, st1, kp, hsy, hv⟩
    refine fin y (st + len) len rows u st1 kp hsy (by rw [hyh]; exact hg) (fun k _ => by rw [hyh]) (by rw [hyh]; omega) (by omega) hv ?_
    rw [List.append_assoc, List.take_append_drop, List.take_add]
  · have h1 := rk.fn f _ x.h _ _ (delete_lt (bytes := bytes) hz hg hl (by omega) (by omega) hlc hroom) x _ rfl hs hargs
    refine ⟨h1.1, h1.2.mono ?_⟩
    rintro e w' ⟨y, u, rfl, hyh, rfl, st1, kp, hsy, hv⟩
    have hgb1 : (x.h.bump 1).get b = some (.cells s rows) := hg
    refine fin y (st + (a + (len - d))) (a + (len - d)) (deleted rows z st len a d) u st1 kp hsy ?_ (fun k hk => ?_) ?_ (by omega) hv (deleted_take hl (by omega) (by omega))
    · rw [hyh, AH.get_set, if_pos rfl]
      split
      · rw [AH.get_set, if_pos rfl, hgb1]; rfl
      · rw [hgb1]; rfl
    · rw [hyh, AH.get_set, if_neg hk]
      split
      · rw [AH.get_set, if_neg hk]; rfl
      · rfl
    · rw [hyh]
      split <;> exact Nat.le_refl _

end Go.Eng
