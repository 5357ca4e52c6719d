/- The engine, part 26: functions, deferred calls, rounds: the evaluator is right. -/
import Derived.Test.YtabhhckaclibaaaGreatEngK
import Derived.Laws.Sem
set_option linter.all false
namespace Go.Eng

/-! ### results -/
/-- One result. -/
def resF (tmps : Array Value) : ResultVar → Sem Value
  | .tmp t => pure (tmps.getD t undef)
  | .cell a t => do loadVar t (← asAddr (tmps.getD a undef))

theorem results_eq (fn : Func) (tmps : Array Value) : Go.results fn tmps = (do
    let vs ← fn.results.mapM (resF tmps)
    pure (if h : vs.size = 1 then vs[0] else .tuple vs)) := by
  unfold Go.results
  congr 1

section
variable {P : Program} {cfg : Cfg} {x : Cx} (hs : Sim P cfg x) {s : St} (hx : s.h = x.h) {tmps : Array Value} (ht : CAs x s.t tmps.toList)
include hs hx ht

theorem resList_ok : ∀ (rs : List ResultVar) {rvs : List RV} {avs : List AV}, mapO (cRes P) rs = some rvs → mapO (resVal s) rvs = some avs →
    ∃ us, (rs.mapM (resF tmps)).run P x.w = .ok us x.w ∧ CAs x avs us
  | [], rvs, avs, h1, h2 => by
    simp only [mapO, Option.some.injEq] at h1
    subst h1
    simp only [mapO, Option.some.injEq] at h2
    subst h2
    exact ⟨[], by simp, by simp [CAs]⟩
  | r :: rs, rvs, avs, h1, h2 => by
    obtain ⟨b, bs, g1, g2, rfl⟩ := mapO_cons h1
    obtain ⟨v, vs, g3, g4, rfl⟩ := mapO_cons h2
    obtain ⟨us, g5, g6⟩ := resList_ok rs g2 g4
    have one : ∃ u, (resF tmps r).run P x.w = .ok u x.w ∧ CA x v u := by
      cases r with
      | tmp t =>
        simp only [cRes, Option.some.injEq] at g1
        subst g1
        simp only [resVal, Option.some.injEq] at g3
        subst g3
        exact ⟨_, rfl, cX_ok (a := { tmps := tmps, defers := [] }) ht (o := .tmp t) rfl⟩
      | cell a t =>
        simp only [cRes, Option.bind_eq_some_iff, Option.map_eq_some_iff] at g1
        obtain ⟨n, hn, ag, hag, rfl⟩ := g1
        simp only [resVal] at g3
        rw [hx] at g3
        have hp : CA x (s.t.getD a (.iv .any)) (tmps.getD a undef) := cX_ok (a := { tmps := tmps, defers := [] }) ht (o := .tmp a) rfl
        obtain ⟨ad, u', e, q1, q2⟩ := loadAt_ok (P := P) hs hn hag hp g3
        refine ⟨u', ?_, q2⟩
        simp only [resF, e, asAddr, Sem.run_bind, Sem.run_pure, Result.andThen_ok]
        exact q1
    obtain ⟨u, q1, q2⟩ := one
    refine ⟨u :: us, ?_, by simp only [CAs]; exact ⟨q2, g6⟩⟩
    rw [List.mapM_cons]
    simp only [Sem.run_bind, q1, Result.andThen_ok, g5, Sem.run_pure]

theorem res_ok {fn : Func} {rvs : List RV} {v : AV} (h1 : mapO (cRes P) fn.results.toList = some rvs) (h2 : results s rvs = some v) : ∃ u, (Go.results fn tmps).run P x.w = .ok u x.w ∧ CA x v u := by
  obtain ⟨avs, h3, h4⟩ : ∃ avs, mapO (resVal s) rvs = some avs ∧ ((∃ a, avs = [a] ∧ v = a) ∨ (avs.length ≠ 1 ∧ v = .tup avs)) := by
    unfold results at h2
    split at h2
    · exact ⟨[v], by simp [mapO, h2], .inl ⟨v, rfl, rfl⟩⟩
    · rename_i hne
      simp only [Option.map_eq_some_iff] at h2
      obtain ⟨avs, h3, rfl⟩ := h2
      refine ⟨avs, h3, .inr ⟨fun hl => ?_, rfl⟩⟩
      cases rvs with
      | nil => simp only [mapO, Option.some.injEq] at h3; subst h3; simp at hl
      | cons r rs =>
        obtain ⟨b, bs, _, q2, rfl⟩ := mapO_cons h3
        cases rs with
        | nil => exact hne r rfl
        | cons r' rs' =>
          obtain ⟨_, _, _, _, rfl⟩ := mapO_cons q2
          simp at hl
  obtain ⟨us, h5, h6⟩ := resList_ok hs hx ht _ h1 h3
  have hrun : (Go.results fn tmps).run P x.w = .ok (if h : us.toArray.size = 1 then us.toArray[0] else .tuple us.toArray) x.w := by
    rw [results_eq, ← Array.toArray_toList (xs := fn.results), List.mapM_toArray]
    simp only [Sem.run_bind, Sem.run_map, h5, Result.andThen_ok, Sem.run_pure]
  have hl := CAs_length h6
  refine ⟨_, hrun, ?_⟩
  rcases h4 with ⟨a, rfl, rfl⟩ | ⟨hne, rfl⟩
  · cases us with
    | nil => simp at hl
    | cons u us =>
      cases us with
      | nil => simp only [CAs] at h6; simpa using h6.1
      | cons _ _ => simp at hl
  · rw [dif_neg (by simpa [hl] using hne)]
    simp only [CA]
    exact ⟨_, rfl, by simpa using h6⟩
end
/-! ### what goes over where a mark is taken -/
theorem Ents_mv {x y : Cx} (s : Mv x y) : ∀ (l : List (AV × AV)) (ms : List MapEntry), Ents x l ms → Ents y l ms
  | [], [], _ => by simp [Ents]
  | [], _ :: _, h => by simp [Ents] at h
  | _ :: _, [], h => by simp [Ents] at h
  | (k, c) :: es, m :: ms, h => by
    simp only [Ents] at h ⊢
    exact ⟨CA_mv s _ _ h.1, CA_mv s _ _ h.2.1, Ents_mv s _ _ h.2.2⟩

theorem LoopOk.mv {P : Program} {cfg : Cfg} {x y : Cx} (s : Mv x y) {r : LoopRec} {L : Loop} (h : LoopOk P cfg x r L) : LoopOk P cfg y r L :=
  ⟨CAs_mv s _ _ h.tm, h.ps, h.ac, h.st, h.pend, h.pn⟩

theorem ARow_mv {x y : Cx} (s : Mv x y) {k : Nat} (hk : y.w.heap[k]? = x.w.heap[k]?) : ∀ (l : List AV) (off : Nat), ARow x k off l → ARow y k off l
  | [], _, _ => by simp [ARow]
  | a :: as, off, h => by
    simp only [ARow] at h ⊢
    obtain ⟨⟨v, h1, h2, h3⟩, h4⟩ := h
    refine ⟨⟨v, ?_, h2, CA_mv s _ _ h3⟩, ARow_mv s hk as _ h4⟩
    rw [cell_congr (w := x.w) (a := ⟨k, off, none⟩) hk]; exact h1
theorem ARows_mv {x y : Cx} (s : Mv x y) {k : Nat} (hk : y.w.heap[k]? = x.w.heap[k]?) : ∀ (l : List (List AV)) (off : Nat), ARows x k off l → ARows y k off l
  | [], _, _ => by simp [ARows]
  | r :: rs, off, h => by
    simp only [ARows] at h ⊢
    exact ⟨ARow_mv s hk r _ h.1, ARows_mv s hk rs _ h.2⟩

theorem BlkOk.mv {P : Program} {cfg : Cfg} {x y : Cx} (s : Mv x y) {b : Nat} {blk : Blk} (h : BlkOk P cfg x b blk) (hβ : y.β b = x.β b)
    (hk : ∀ k off, x.β b = some (k, off) → y.w.heap[k]? = x.w.heap[k]?) : BlkOk P cfg y b blk := by
  cases blk with
  | cells sz rows =>
    simp only [BlkOk] at h ⊢
    rw [hβ]
    refine ⟨fun k off e => ?_, fun hne => ?_⟩
    · obtain ⟨c, T, fr, h1, h2⟩ := h.1 k off e
      exact ⟨c, T, fr, (hk k off e).trans h1, h2⟩
    · obtain ⟨k, off, e, h1, h2, h3⟩ := h.2 hne
      exact ⟨k, off, e, h1, h2, ARows_mv s (hk k off e) _ _ h3⟩
  | mp es =>
    simp only [BlkOk] at h ⊢
    rw [hβ]
    obtain ⟨k, off, en, cl, e, h1, h2⟩ := h
    exact ⟨k, off, en, cl, e, (hk k off e).trans h1, Ents_mv s _ _ h2⟩
  | lp r =>
    simp only [BlkOk] at h ⊢
    rw [hβ]
    obtain ⟨k, off, L, e, h1, h2⟩ := h
    exact ⟨k, off, L, e, (hk k off e).trans h1, h2.mv s⟩

theorem DOk.take {m : Nat → Prop} {y z : Cx} (s : Mv y z) {r : Nat} (hh : ∀ k, k ≠ r → z.w.heap[k]? = y.w.heap[k]?) {d : List (AV × List AV)} {ds : List Deferred} (h : DOk m y d ds) (hr : ∀ D ∈ ds, D.target ≠ .collected r) : DOk m z d ds := by
  induction h with
  | nil => exact .nil
  | call h1 _ ih =>
    obtain ⟨u, us, q1, q2, q3⟩ := h1
    exact .call ⟨u, us, CA_mv s _ _ q1, CAs_mv s _ _ q2, q3⟩ (ih fun D hD => hr D (by simp [hD]))
  | mark h1 h2 h3 _ ih =>
    refine .mark h1 ?_ h3 (ih fun D hD => hr D (by simp [hD]))
    rw [hh _ fun e => hr { target := .collected _, args := #[] } List.mem_cons_self (by rw [e])]
    exact h2

/-- A mark is taken. -/
theorem take_sim {P : Program} {cfg : Cfg} {y : Cx} (hs : Sim P cfg y) {r : Nat} {ds : Option (List Deferred)} (h : y.w.heap[r]? = some (.deferred ds)) (o : Obj) :
    Mv y { y with w := y.w.putObj r o } ∧ Sim P cfg { y with w := y.w.putObj r o } := by
  have hother : ∀ k, k ≠ r → (y.w.putObj r o).heap[k]? = y.w.heap[k]? := fun k hk => World.putObj_heap_other hk
  have mv : Mv y { y with w := y.w.putObj r o } := by
    refine ⟨⟨fun l k hA hk => ⟨hA, fun c T fr hc => hother k ?_⟩⟩, fun b hb => ⟨hb, rfl⟩, fun k c T fr hc => ⟨c, fr, ?_, rfl⟩⟩
    · rintro rfl; rw [h] at hc; cases hc
    · show (y.w.putObj r o).heap[k]? = _
      rw [hother k (by rintro rfl; rw [h] at hc; cases hc)]; exact hc
  refine ⟨mv, ⟨hs.lt, hs.rlt, hs.nr, fun i blk hi hR => (hs.ok i blk hi hR).mv mv rfl fun k off hβ => hother k ?_, hs.inj, fun k hk => ?_, fun k hk => ?_⟩⟩
  · rintro rfl
    have hi' : y.h.get i = some blk := hi
    exact not_own_deferred hs h ⟨i, off, by simp [hi'], hβ⟩
  · have := hs.own k hk
    exact ⟨by show k < (y.w.putObj r o).heap.size; simpa using this.1, this.2⟩
  · have := hs.fr k hk
    show k < (y.w.putObj r o).heap.size
    simpa using this

/-! ### on the way out -/
/-- What a deferred call leaves. -/
def OutD (P : Program) (cfg : Cfg) (x : Cx) (h' : AH) : Ending → World → Prop := fun e w' => ∃ (y : Cx) (u : Value), y.w = w' ∧ y.h = h' ∧ e = .returned u ∧ Step x y ∧ Keeps (fun _ => False) x y ∧ Sim P cfg y

def DefnOk (P : Program) (f : Nat) (args : Array Value) (w : World) (R : Ending → World → Prop) : Prop :=
  (callFunc f args).run P w = .ok (.enter f args) w ∧ CallsDIn Fence.wide 0 P f args .returning w fun e u w' => u = .returning ∧ R e w'

/-- What the evaluator says of deferred calls is so. -/
structure DefsOk (P : Program) (cfg : Cfg) (cd : Callee → List AV → AH → Option AH) : Prop where
  fn : ∀ (f : Nat) (args : List AV) (h : AH) (h' : AH), cd (.fn f) args h = some h' → ∀ (x : Cx) (us : List Value), x.h = h → Sim P cfg x → CAs x args us → DefnOk P f us.toArray x.w (OutD P cfg x h')
  noy : ∀ (l : Nat) (args : List AV) (h : AH), cd (.yld l) args h = none

theorem leaves_ok {P : Program} {cfg : Cfg} {cd : Callee → List AV → AH → Option AH} (dk : DefsOk P cfg cd) {x : Cx} {m : Nat → Prop} (hm : ∀ r, m r → x.w.heap.size ≤ r) {F : Func} {tmps : Array Value} {t : List AV} {h' : AH} {R : Ending → World → Prop}
    (hfin : ∀ z : Cx, z.h = h' → Step x z → Keeps (fun _ => False) x z → Sim P cfg z → CAs z t tmps.toList → LeavesIn Fence.wide 0 P F tmps R [] .returning z.w) :
    ∀ (ds : List Deferred) {y : Cx} {d : List (AV × List AV)}, DOk m y d ds → Step x y → Keeps (fun _ => False) x y → Sim P cfg y → CAs y t tmps.toList → defers cd d y.h = some h' → LeavesInM Fence.wide 0 P F tmps R ds .returning y.w
  | [], y, d, hd, st, kp, hs, ht, he => by
    cases hd
    simp only [defers, Option.some.injEq] at he
    exact hfin y he st kp hs ht
  | D :: ds, y, d, hd, st, kp, hs, ht, he => by
    cases hd with
    | @call p _ d _ h1 h2 =>
      obtain ⟨u, us, q1, q2, q3⟩ := h1
      obtain ⟨fv, args⟩ := p
      simp only [defers, Option.bind_eq_some_iff] at he
      obtain ⟨⟨c, first, cap⟩, hcal, h1', hc1, hrest⟩ := he
      have hcv : ∃ f A C, c = .fn f ∧ u = .func (.func f) A C ∧ CAs y first A.toList ∧ CAs y cap C.toList := by
        unfold calleeOf at hcal
        split at hcal
        · simp only [Option.some.injEq, Prod.mk.injEq] at hcal
          obtain ⟨rfl, rfl, rfl⟩ := hcal
          simp only [CA] at q1
          obtain ⟨A, C, rfl, g1, g2⟩ := q1
          exact ⟨_, A, C, rfl, rfl, g1, g2⟩
        · simp only [Option.some.injEq, Prod.mk.injEq] at hcal
          obtain ⟨rfl, rfl, rfl⟩ := hcal
          simp only [CA, CI] at q1
          obtain ⟨A, C, rfl, g1, g2⟩ := q1
          exact ⟨_, A, C, rfl, rfl, CAs_iv2a g1, CAs_iv2a g2⟩
        · simp only [Option.some.injEq, Prod.mk.injEq] at hcal
          obtain ⟨rfl, rfl, rfl⟩ := hcal
          rw [dk.noy] at hc1
          cases hc1
        · cases hcal
      obtain ⟨f, A, C, rfl, rfl, g1, g2⟩ := hcv
      have hD := q3 P y.w
      have hDe : D = { target := .fn (.func f) C, args := A ++ us.toArray } := by
        simp only [Deferred.ofValue, Sem.run_pure, Result.ok.injEq] at hD
        exact hD.1.symm
      subst hDe
      have hargs : CAs y (first ++ args ++ cap) (A.toList ++ us ++ C.toList) := CAs_append (CAs_append g1 q2) g2
      have harr : (A.toList ++ us ++ C.toList).toArray = (A ++ us.toArray) ++ C := by apply Array.ext'; simp
      obtain ⟨e1, e2⟩ := dk.fn f _ _ _ hc1 y _ rfl hs hargs
      rw [harr] at e1 e2
      refine ⟨by simp, .inr ⟨by simp [Fence.wide], _, _, f, _, rfl, e1, fun _ _ => trivial, CallsDIn.mono e2 ?_⟩⟩
      rintro e u' w' ⟨rfl, y1, v, rfl, rfl, rfl, st1, kp1, hs1⟩
      exact leaves_ok dk hm hfin ds (h2.step hs st1) (st.trans st1) (Keeps.trans st.next kp kp1) hs1 (CAs_step st1 _ _ ht) hrest
    | @mark r _ _ h1 h2 h3 h4 =>
      obtain ⟨mv, hs1⟩ := take_sim hs h2 (.deferred none)
      have hother : ∀ k, k ≠ r → (y.w.putObj r (.deferred none)).heap[k]? = y.w.heap[k]? := fun k hk => World.putObj_heap_other hk
      refine ⟨by simp, .inl ⟨r, _, rfl, run_takeDeferred h2, ?_⟩⟩
      have st1 : Step x { y with w := y.w.putObj r (.deferred none) } := by
        refine ⟨st.fr, by simpa using st.size, fun k hk hn => ?_, fun k c T fr hc => ?_, st.os, st.tape, st.out, st.next, st.loc, st.own⟩
        · show (y.w.putObj r _).heap[k]? = _
          rw [hother k (by have := hm r h1; omega)]
          exact st.same k hk hn
        · obtain ⟨c', fr', q1, q2⟩ := st.cells k c T fr hc
          refine ⟨c', fr', ?_, q2⟩
          show (y.w.putObj r _).heap[k]? = _
          rw [hother k (by have := hm r h1; have := (Array.getElem?_eq_some_iff.1 hc).1; omega)]
          exact q1
      exact leaves_ok dk hm hfin ds (y := { y with w := y.w.putObj r (.deferred none) }) (h4.take mv hother h3) st1 kp hs1 (CAs_mv mv _ _ ht) he

/-! ### rounds -/
theorem setPs_ok {x : Cx} : ∀ (ps : List Nat) {args : List AV} {us : List Value} {t : List AV} {tmps : Array Value}, CAs x args us → args.length = ps.length → CAs x t tmps.toList →
    CAs x (setPs ps args t) ((ps.zip us).foldl (fun tmps (t, a) => tmps.setIfInBounds t a) tmps).toList
  | [], [], us, t, tmps, ha, _, ht => by simpa [setPs] using ht
  | [], _ :: _, us, t, tmps, ha, hl, ht => by simp at hl
  | p :: ps, [], us, t, tmps, ha, hl, ht => by simp at hl
  | p :: ps, v :: vs, [], t, tmps, ha, hl, ht => by simp [CAs] at ha
  | p :: ps, v :: vs, u :: us, t, tmps, ha, hl, ht => by
    simp only [CAs] at ha
    simp only [setPs, List.zip_cons_cons, List.foldl_cons]
    exact setPs_ok ps ha.2 (by simpa using hl) (by rw [Array.toList_setIfInBounds]; exact CAs_set ht p ha.1)

/-- A loop's record turns. -/
theorem turn_loop {P : Program} {cfg : Cfg} {x : Cx} (hs : Sim P cfg x) {l k off : Nat} {r : LoopRec} (hg : x.h.get l = some (.lp r)) (hR : x.R l) (hβ : x.β l = some (k, off)) :
    ∃ L, x.w.heap[k]? = some (.loop L) ∧ LoopOk P cfg x r L ∧ ∀ (st : LSt) (pend : Option Ex), pend ≠ some .nrm →
      Step x { x with w := x.w.putObj k (.loop { L with state := lState st, pending := pend.bind exCode }), h := x.h.set l (.lp { r with st := st, pend := pend }) } ∧
      Sim P cfg { x with w := x.w.putObj k (.loop { L with state := lState st, pending := pend.bind exCode }), h := x.h.set l (.lp { r with st := st, pend := pend }) } ∧
      ∀ D, Keeps D x { x with w := x.w.putObj k (.loop { L with state := lState st, pending := pend.bind exCode }), h := x.h.set l (.lp { r with st := st, pend := pend }) } := by
  have hb := hs.ok l _ hg hR
  simp only [BlkOk] at hb
  obtain ⟨k', off', L, e1, hL, hlo⟩ := hb
  rw [hβ] at e1
  simp only [Option.some.injEq, Prod.mk.injEq] at e1
  obtain ⟨rfl, rfl⟩ := e1
  refine ⟨L, hL, hlo, fun st pend hpn => ?_⟩
  have hw : Wrote x.w (x.w.putObj k (.loop { L with state := lState st, pending := pend.bind exCode })) k := ⟨by simp, fun j hj => World.putObj_heap_other hj, fun c T fr h => (by rw [hL] at h; cases h), rfl, rfl, rfl⟩
  refine put_sim hs hg hR hβ hw fun stp => ?_
  simp only [BlkOk]
  refine ⟨k, off, { L with state := lState st, pending := pend.bind exCode }, hβ, ?_, ⟨CAs_step stp _ _ hlo.tm, hlo.ps, hlo.ac, rfl, rfl, hpn⟩⟩
  show (x.w.putObj k _).heap[k]? = _
  have hlt := (Array.getElem?_eq_some_iff.1 hL).1
  simp [World.putObj, Array.getElem?_setIfInBounds, hlt]

end Go.Eng

/- The engine, part 27: **the evaluator is right**. -/
namespace Go.Eng

/-- What a table of functions has to be. -/
structure TabOk (P : Program) (cfg : Cfg) (T : Tab) : Prop where
  fn : ∀ f fn, T.fn f = some fn → ∃ F g, P.funcs[f]? = some F ∧ cFn P cfg g F = some fn ∧ F.name ≠ "runtime.NumGoroutine"
  prim : ∀ f p, T.prim f = some p → ∀ (args : List AV) (h : AH) (v : AV) (h' : AH), p args h = some (v, h') → ∀ (x : Cx) (us : List Value), x.h = h → Sim P cfg x → CAs x args us → FnOk P f us.toArray x.w (Out P cfg x h' v)
  dprim : ∀ f p, T.dprim f = some p → ∀ (args : List AV) (h h' : AH), p args h = some h' → ∀ (x : Cx) (us : List Value), x.h = h → Sim P cfg x → CAs x args us → DefnOk P f us.toArray x.w (OutD P cfg x h')

theorem callFunc_enter {P : Program} {f : Nat} {F : Func} {c : Code} (hF : P.funcs[f]? = some F) (hn : F.name ≠ "runtime.NumGoroutine") (hb : F.body = some c) (args : Array Value) (w : World) :
    (callFunc f args).run P w = .ok (.enter f args) w := by
  simp [callFunc, hF, hn, hb]

theorem cFn_inv {P : Program} {cfg : Cfg} {g : Nat} {F : Func} {fn : AFn} (h : cFn P cfg g F = some fn) : ∃ c, F.body = some c ∧ cCode P cfg g c = some fn.body ∧ mapO (cRes P) F.results.toList = some fn.res ∧ fn.ntmps = F.ntmps := by
  simp only [cFn, Option.bind_eq_some_iff, Option.map_eq_some_iff] at h
  obtain ⟨c, h1, body, h2, res, h3, rfl⟩ := h
  exact ⟨c, h1, h2, h3, rfl⟩

theorem start_at {P : Program} {cfg : Cfg} {m : Nat → Prop} {fn : AFn} {n : Nat} (hn : fn.ntmps = n) {args : List AV} {us : List Value} {x : Cx} (hs : Sim P cfg x) (ha : CAs x args us) :
    At P cfg m none (start fn args x.h) x { tmps := us.toArray ++ Array.replicate (n - us.toArray.size) undef, defers := [] } := by
  refine ⟨hs, rfl, ?_, .nil, rfl⟩
  have hl := CAs_length ha
  have e : (us.toArray ++ Array.replicate (n - us.toArray.size) undef).toList = us ++ List.replicate (fn.ntmps - args.length) undef := by
    simp [hn, hl]
  show CAs x (args ++ List.replicate (fn.ntmps - args.length) .undef) (us.toArray ++ Array.replicate (n - us.toArray.size) undef).toList
  rw [e]
  exact CAs_append ha (CAs_replicate (by simp only [CA]; exact ⟨#[], rfl, by simp [CAs]⟩) _)

theorem DOk.bare {y : Cx} {ds : List Deferred} (h : DOk (fun _ => False) y [] ds) : ds = [] := by
  cases h with
  | nil => rfl
  | mark h1 _ _ _ => exact h1.elim

section
variable {P : Program} {cfg : Cfg} {T : Tab} (tk : TabOk P cfg T) (hmo : P.follows .mixedOrders = true)
include tk hmo

theorem defs_ok {rec : Rec} (rk : RecOk P cfg rec) (n : Nat) : DefsOk P cfg (callD T rec n) where
  noy _ _ _ := rfl
  fn f args h h' he x us hx hs ha := by
    simp only [callD] at he
    split at he
    · rename_i p hp
      exact tk.dprim f p hp args h h' he x us hx hs ha
    · simp only [Option.bind_eq_some_iff] at he
      obtain ⟨fn, hfn, he⟩ := he
      split at he
      case isFalse => cases he
      rename_i hnr
      simp only [Option.bind_eq_some_iff] at he
      obtain ⟨⟨e, s⟩, hrun, he⟩ := he
      obtain ⟨F, g, hF, hc, hname⟩ := tk.fn f fn hfn
      obtain ⟨c, hb, hcode, hres, hnt⟩ := cFn_inv hc
      subst hx
      refine ⟨callFunc_enter hF hname hb _ _, ?_⟩
      have hpost : ∀ (y : Cx) (a' : Act), At P cfg (fun _ => False) none s y a' → Step x y → Keeps (fun _ => False) x y → s.d = [] → (results s fn.res).map (fun _ => s.h) = some h' →
          a'.defers = [] ∧ ∃ v, (Go.results F a'.tmps).run P y.w = .ok v y.w ∧ OutD P cfg x h' (.returned v) y.w := by
        intro y a' hy st kp hd hv
        simp only [Option.map_eq_some_iff] at hv
        obtain ⟨v, hv, rfl⟩ := hv
        obtain ⟨u, h1, _⟩ := res_ok hy.sim hy.h hy.t hres hv
        have hdd := hy.d
        rw [hd] at hdd
        exact ⟨hdd.bare, u, h1, y, u, rfl, hy.h.symm, rfl, st, kp, hy.sim⟩
      refine callsDIn_of_wp (F := Fence.wide) hF hb trivial (code_ok (P := P) (cfg := cfg) (fuel := n) rk hmo c hcode (m := fun _ => False) (start_at hnt hs ha) (.inl hnr) hrun fun y a' hy st kp => ?_)
      cases hd : s.d with
      | nil =>
        simp only [hd] at he
        cases e with
        | nrm => exact hpost y a' hy st kp hd he
        | ret => exact hpost y a' hy st kp hd he
        | exit id => cases he
        | goto l => cases he
      | cons p ps =>
        simp only [hd] at he
        cases e <;> cases he

/-- **The evaluator is right.** -/
theorem call_ok : ∀ n : Nat, RecOk P cfg (call T n)
  | 0 => ⟨fun f args h v h' he => by simp [call] at he, fun l args h v h' he => by simp [call] at he, fun l args => rfl⟩
  | n + 1 => by
    have rk := call_ok n
    have dk := defs_ok tk hmo rk n
    refine ⟨fun f args h v h' he x us hx hs ha => ?_, fun l args h v h' he x us k off hx hs ha hR hβ => ?_, fun l args => rfl⟩
    · simp only [call] at he
      split at he
      · rename_i p hp
        exact tk.prim f p hp args h v h' he x us hx hs ha
      · simp only [Option.bind_eq_some_iff] at he
        obtain ⟨fn, hfn, ⟨e, s⟩, hrun, he⟩ := he
        obtain ⟨F, g, hF, hc, hname⟩ := tk.fn f fn hfn
        obtain ⟨c, hb, hcode, hres, hnt⟩ := cFn_inv hc
        subst hx
        refine ⟨callFunc_enter hF hname hb _ _, ?_⟩
        have hpost : ∀ (y : Cx) (a' : Act), At P cfg (fun r => x.w.heap.size ≤ r) none s y a' → Step x y → Keeps (fun _ => False) x y →
            ((defers (callD T (call T n) n) s.d s.h).bind fun h' => (results { s with h := h' } fn.res).map fun v => (v, h')) = some (v, h') →
            LeavesInM Fence.wide 0 P F a'.tmps (Out P cfg x h' v) a'.defers .returning y.w := by
          intro y a' hy st kp hv
          simp only [Option.bind_eq_some_iff, Option.map_eq_some_iff, Prod.mk.injEq] at hv
          obtain ⟨h1, hd, v1, hv, rfl, rfl⟩ := hv
          rw [hy.h] at hd
          refine leaves_ok dk (x := x) (t := s.t) (fun r hr => hr) (fun z hz st2 kp2 hs2 ht2 => ?_) a'.defers hy.d st kp hy.sim hy.t hd
          obtain ⟨u, g1, g2⟩ := res_ok (s := { s with h := h1 }) hs2 hz.symm ht2 hres hv
          exact ⟨u, g1, z, u, rfl, hz, rfl, st2, kp2, hs2, g2⟩
        refine callsIn_of_wp_marks (F := Fence.wide) hF hb trivial (code_ok (P := P) (cfg := cfg) (fuel := n) rk hmo c hcode (m := fun r => x.w.heap.size ≤ r) (start_at hnt hs ha) (.inr fun r hr => hr) hrun fun y a' hy st kp => ?_)
        cases e with
        | nrm => exact hpost y a' hy st kp he
        | ret => exact hpost y a' hy st kp he
        | exit id => cases he
        | goto l => cases he
    · simp only [call] at he
      split at he
      case h_2 => cases he
      rename_i r hg
      split at he
      case isFalse => cases he
      rename_i hcond
      simp only [Option.bind_eq_some_iff] at he
      obtain ⟨⟨e1, s1⟩, hrun1, he⟩ := he
      cases e1 with
      | exit id => cases he
      | goto l => cases he
      | ret => cases he
      | nrm =>
      simp only at he
      split at he
      case h_2 => cases he
      rename_i r1 hg1
      split at he
      case isFalse => cases he
      rename_i hrdy
      simp only [Option.bind_eq_some_iff] at he
      obtain ⟨⟨e2, s2⟩, hrun2, he⟩ := he
      split at he
      case h_2 => cases he
      rename_i r2 hg2
      simp only [Option.some.injEq, Prod.mk.injEq] at he
      obtain ⟨rfl, rfl⟩ := he
      subst hx
      obtain ⟨L, hL, hlo, _⟩ := turn_loop hs hg hR hβ
      obtain ⟨g, ha1, hb1⟩ := hlo.ac
      have hsz : us.toArray.size = L.params.size := by
        have h1 := CAs_length ha
        have h2 : L.params.toList = r.ps := hlo.ps.symm
        have h3 : L.params.size = r.ps.length := by rw [← h2]; simp
        simp only [List.size_toArray]
        omega
      refine ⟨L.fn, _, L.assign, L.body, run_yield hL hsz, ?_⟩
      have htm : CAs x (setPs r.ps args r.t) ((L.params.zip us.toArray).foldl (fun tmps (t, a) => tmps.setIfInBounds t a) L.tmps).toList := by
        have := setPs_ok r.ps ha hcond.2 hlo.tm
        have e : (L.params.zip us.toArray).foldl (fun tmps (t, a) => tmps.setIfInBounds t a) L.tmps = (r.ps.zip us).foldl (fun tmps (t, a) => tmps.setIfInBounds t a) L.tmps := by
          rw [hlo.ps, ← Array.foldl_toList]
          simp [Array.toList_zip]
        rw [e]
        exact this
      refine roundIn_of_wpIn (F := Fence.wide) trivial ?_
      refine code_ok (P := P) (cfg := cfg) (fuel := n) rk hmo L.assign ha1 (ro := some k) (m := fun r => x.w.heap.size ≤ r) (a := { tmps := _, defers := [] }) ⟨hs, rfl, htm, .nil, rfl⟩ (.inr fun r hr => hr) hrun1 fun y a' hy st kp => ?_
      have hRy := (st.loc l hR).1
      have hβy := (st.loc l hR).2.trans hβ
      obtain ⟨L1, hL1, hlo1, hturn1⟩ := turn_loop hy.sim (by rw [← hy.h]; exact hg1) hRy hβy
      have hst1 : L1.state = .ready := by rw [hlo1.st, hrdy]; rfl
      refine ⟨_, run_beginRound hL1 hst1, ?_⟩
      obtain ⟨st2, hs2, kp2⟩ := hturn1 .busy r1.pend hlo1.pn
      have hL1e : ({ L1 with state := lState .busy, pending := r1.pend.bind exCode } : Loop) = { L1 with state := .busy } := by
        have := hlo1.pend
        cases L1
        simp only at this
        subst this
        rfl
      have hblk1 : ({ r1 with st := .busy, pend := r1.pend } : LoopRec) = { r1 with st := .busy } := rfl
      rw [hL1e, hblk1] at st2 hs2 kp2
      have hbody : CodeOk P cfg (call T n) n L.body r.body := code_ok (P := P) (cfg := cfg) (fuel := n) rk hmo L.body hb1
      refine hbody (ro := some k) (s := { s1 with h := s1.h.set l (.lp { r1 with st := .busy }) }) (x := { y with w := y.w.putObj k (.loop { L1 with state := .busy }), h := y.h.set l (.lp { r1 with st := .busy }) }) (m := fun r => x.w.heap.size ≤ r) ⟨hs2, by rw [hy.h], CAs_step st2 _ _ hy.t, hy.d.step hy.sim st2, hy.rd⟩ (.inr fun r hr => Nat.le_trans (st.trans st2).size hr) hrun2 fun z a'' hz st3 kp3 => ?_
      have hRz := (st3.loc l (st2.loc l hRy).1).1
      have hβz : z.β l = some (k, off) := ((st3.loc l (st2.loc l hRy).1).2.trans (st2.loc l hRy).2).trans hβy
      obtain ⟨L2, hL2, hlo2, hturn2⟩ := turn_loop hz.sim (by rw [← hz.h]; exact hg2) hRz hβz
      have hend : ∀ (jump : Option Code) (b : Bool) (stt : LSt) (pe : Option Ex), pe ≠ some .nrm → jump = pe.bind exCode → b = jump.isNone → lState stt = (if jump.isNone then .ready else .done) →
          (AV.iv (.b (e2 = .nrm)) = .iv (.b b)) → s2.h.set l (.lp { r2 with st := if e2 = .nrm then .ready else .done, pend := if e2 = .nrm then none else some e2 }) = s2.h.set l (.lp { r2 with st := stt, pend := pe }) →
          ∃ v w', (Instr.endRound k jump).run P z.w = .ok v w' ∧ Out P cfg x (s2.h.set l (.lp { r2 with st := if e2 = .nrm then .ready else .done, pend := if e2 = .nrm then none else some e2 })) (.iv (.b (e2 = .nrm))) (.returned v) w' := by
        intro jump b stt pe hpn hj hb hst hv hh
        obtain ⟨st4, hs4, kp4⟩ := hturn2 stt pe hpn
        refine ⟨_, _, run_endRound jump hL2, _, .bool jump.isNone, ?_, ?_, rfl, (st.trans st2).trans (st3.trans st4), ?_, hs4, ?_⟩
        · show z.w.putObj k _ = _
          rw [← hst, hj]
        · show z.h.set l _ = _
          rw [← hz.h, ← hh]
        · exact Keeps.trans (st.trans st2).next (Keeps.trans st.next kp (kp2 _)) (Keeps.trans st3.next kp3 (kp4 _))
        · rw [hv, ← hb]; simp [CA, CI]
      cases e2 with
      | nrm => exact hend none true .ready none (by simp) rfl rfl rfl (by simp) (by simp)
      | exit id => exact hend (some (.exit id)) false .done (some (.exit id)) (by simp) rfl rfl rfl (by simp) (by simp)
      | goto t => exact hend (some (.goto t)) false .done (some (.goto t)) (by simp) rfl rfl rfl (by simp) (by simp)
      | ret => exact hend (some .ret) false .done (some .ret) (by simp) rfl rfl rfl (by simp) (by simp)
end

end Go.Eng
