/- The engine, part 17: one operation, calls among them. -/
import Derived.Test.YtabhhckaclibaaaGreatEngG
import Derived.RangeFuncLeaves
import Derived.OwnWalkIn
set_option linter.all false
namespace Go.Eng

/-- The fence: none; in a round, or not. -/
def FF (ro : Option Nat) : Fence := { fn := fun _ => True, depth := none, alive := false, round := ro }

/-- What a run of code or of a function leaves. -/
def Out (P : Program) (cfg : Cfg) (x : Cx) (h' : AH) (v : AV) : Ending → World → Prop := fun e w' =>
  ∃ (y : Cx) (u : Value), y.w = w' ∧ y.h = h' ∧ e = .returned u ∧ Step x y ∧ Keeps (fun _ => False) x y ∧ Sim P cfg y ∧ CA y v u

def FnOk (P : Program) (f : Nat) (args : Array Value) (w : World) (R : Ending → World → Prop) : Prop :=
  (callFunc f args).run P w = .ok (.enter f args) w ∧ CallsIn Fence.wide 0 P f args w R
def YldOk (P : Program) (k : Nat) (args : Array Value) (w : World) (R : Ending → World → Prop) : Prop :=
  ∃ f tmps asg body, (Instr.yield k args).run P w = .ok (.round k f tmps asg body) w ∧ RoundIn Fence.wide 0 P k f tmps asg body w R

/-- What the evaluator says of calls is so. -/
structure RecOk (P : Program) (cfg : Cfg) (rec : Rec) : Prop where
  fn : ∀ (f : Nat) (args : List AV) (h : AH) (v : AV) (h' : AH), rec (.fn f) args h = some (v, h') → ∀ (x : Cx) (us : List Value), x.h = h → Sim P cfg x → CAs x args us → FnOk P f us.toArray x.w (Out P cfg x h' v)
  yld : ∀ (l : Nat) (args : List AV) (h : AH) (v : AV) (h' : AH), rec (.yld l) args h = some (v, h') → ∀ (x : Cx) (us : List Value) (k off : Nat), x.h = h → Sim P cfg x → CAs x args us → x.R l → x.β l = some (k, off) →
    YldOk P k us.toArray x.w (Out P cfg x h' v)
  noy : ∀ (l : Nat) (args : List AV), rec (.yld l) args .empty = none

/-- A deferred call. -/
def DefOk (y : Cx) (p : AV × List AV) (D : Deferred) : Prop := ∃ (u : Value) (us : List Value), CA y p.1 u ∧ CAs y p.2 us ∧ ∀ (P : Program) (w : World), (Deferred.ofValue u us.toArray).run P w = .ok D w

theorem CAs_iv2a {x : Cx} : ∀ {l : List IV} {vs : List Value}, CIs x.w x.ok l vs → CAs x (l.map iv2a) vs
  | [], [], _ => by simp [CAs]
  | [], _ :: _, h => by simp [CIs] at h
  | _ :: _, [], h => by simp [CIs] at h
  | y :: ys, v :: vs, h => by
    simp only [CIs] at h
    simp only [List.map_cons, CAs]
    refine ⟨?_, CAs_iv2a h.2⟩
    cases y with
    | agg l =>
      have h1 := h.1
      simp only [CI] at h1
      obtain ⟨cs, rfl, h2, h3⟩ := h1
      simp only [iv2a, CA]
      exact ⟨cs, rfl, CAs_iv h2, h3⟩
    | _ => simp only [iv2a, CA]; exact h.1

/-- What a call of a value comes to. -/
theorem callee_ok {P : Program} {cfg : Cfg} {rec : Rec} (rk : RecOk P cfg rec) {x : Cx} (hs : Sim P cfg x) {fv : AV} {u : Value} (hf : CA x fv u) {c : Callee} {first cap : List AV} (hc : calleeOf fv = some (c, first, cap)) :
    ∃ fn A C, u = .func fn A C ∧ CAs x first A.toList ∧ CAs x cap C.toList ∧ ((∃ f, c = .fn f ∧ fn = .func f) ∨ (∃ l k off, c = .yld l ∧ fn = .yield k ∧ x.R l ∧ x.β l = some (k, off) ∧ C = #[] ∧ A = #[])) := by
  unfold calleeOf at hc
  split at hc
  · simp only [Option.some.injEq, Prod.mk.injEq] at hc
    obtain ⟨rfl, rfl, rfl⟩ := hc
    simp only [CA] at hf
    obtain ⟨A, C, rfl, h1, h2⟩ := hf
    exact ⟨_, A, C, rfl, h1, h2, .inl ⟨_, rfl, rfl⟩⟩
  · simp only [Option.some.injEq, Prod.mk.injEq] at hc
    obtain ⟨rfl, rfl, rfl⟩ := hc
    simp only [CA, CI] at hf
    obtain ⟨A, C, rfl, h1, h2⟩ := hf
    exact ⟨_, A, C, rfl, CAs_iv2a h1, CAs_iv2a h2, .inl ⟨_, rfl, rfl⟩⟩
  · simp only [Option.some.injEq, Prod.mk.injEq] at hc
    obtain ⟨rfl, rfl, rfl⟩ := hc
    simp only [CA] at hf
    obtain ⟨hR, k, off, hβ, rfl⟩ := hf
    exact ⟨_, #[], #[], rfl, by simp [CAs], by simp [CAs], .inr ⟨_, k, off, rfl, rfl, hR, hβ, rfl, rfl⟩⟩
  · cases hc

/-- Without the newest blocks. -/
theorem AH.get_cut (h : AH) (n i : Nat) : (h.cut n).get i = if i < n then h.get i else none := by
  unfold AH.cut AH.get
  simp only
  induction h.bl with
  | nil => simp [lk]
  | cons p l ih =>
    obtain ⟨j, b⟩ := p
    by_cases hj : j < n
    · simp only [List.filter_cons, hj, decide_true, if_true, lk]
      by_cases hi : j = i
      · subst hi; simp [hj]
      · simp [hi, ih]
    · simp only [List.filter_cons, hj, decide_false, Bool.false_eq_true, if_false, lk]
      by_cases hi : j = i
      · subst hi
        simp [ih, hj]
      · simp [hi, ih]

theorem cut_sim {P : Program} {cfg : Cfg} {y : Cx} (hy : Sim P cfg y) (n : Nat) : Step y { y with h := y.h.cut n } ∧ Sim P cfg { y with h := y.h.cut n } := by
  have hg : ∀ i b, (y.h.cut n).get i = some b → y.h.get i = some b ∧ i < n := fun i b h => by
    rw [AH.get_cut] at h
    split at h
    · rename_i hi; exact ⟨h, hi⟩
    · cases h
  have hg' : ∀ i, ((y.h.cut n).get i).isSome = true → (y.h.get i).isSome = true := fun i h => by
    obtain ⟨b, hb⟩ := Option.isSome_iff_exists.1 h
    simp [(hg i b hb).1]
  have hown : ∀ k, Own y.β (y.h.cut n) k → Own y.β y.h k := fun k ⟨i, o, h1, h2⟩ => ⟨i, o, hg' i h1, h2⟩
  have st : Step y { y with h := y.h.cut n } := ⟨rfl, Nat.le_refl _, fun _ _ _ => rfl, fun _ c _ fr h => ⟨c, fr, h, rfl⟩, rfl, rfl, rfl, Nat.le_refl _, fun i hi => ⟨hi, rfl⟩, fun k h => .inl (hown k h)⟩
  exact ⟨st, ⟨fun i hi => hy.lt i (hg' i hi), hy.rlt, hy.nr, fun i b hi hR => (hy.ok i b (hg i b hi).1 hR).step st rfl fun _ _ _ => rfl, fun i j k o o' hi hj => hy.inj i j k o o' (hg' i hi) (hg' j hj), fun k hk => hy.own k (hown k hk), hy.fr⟩⟩

/-- A call, in either way. -/
def callBy (rec : Rec) (m : CMode) (h : AH) (base : Nat) (c : Callee) (as : List AV) : Option (AV × AH) :=
  match m with
  | .iso keep => (isoCall rec keep h c as).map fun (v, bs) => (shift base v, addAll h base bs)
  | .sh all => shCall rec all h c as
def CMode.takes : CMode → Nat
  | .iso keep => keep.length
  | .sh _ => 0

section
variable {P : Program} {cfg : Cfg} {rec : Rec} (rk : RecOk P cfg rec) {x : Cx} (hs : Sim P cfg x)
include rk hs

/-- A call, in either way. -/
theorem doCall {m : CMode} {base : Nat} {c : Callee} {as : List AV} {us : List Value} (ha : CAs x as us) {v : AV} {h' : AH}
    (he : callBy rec m x.h base c as = some (v, h'))
    {n : Nat} (hn : m.takes = n) (hres : ∀ i, base ≤ i → i < base + n → i < x.h.next ∧ ¬ x.R i)
    {K : Ending → World → Prop} (hK : ∀ (z : Cx) (u : Value), z.h = h' → Step x z → Sim P cfg z → Keeps (fun i => base ≤ i ∧ i < base + n) x z → CA z v u → K (.returned u) z.w) :
    (∀ f, c = .fn f → FnOk P f us.toArray x.w K) ∧ (∀ l k off, c = .yld l → x.R l → x.β l = some (k, off) → YldOk P k us.toArray x.w K) := by
  cases m with
  | iso keep =>
    simp only [CMode.takes] at hn
    simp only [callBy, isoCall, Option.map_eq_some_iff, Option.bind_eq_some_iff] at he
    obtain ⟨⟨v0, bs⟩, ⟨as', h1, ⟨v1, h2⟩, h3, r, h4, h5⟩, e⟩ := he
    simp only [Prod.mk.injEq] at e
    obtain ⟨rfl, rfl⟩ := e
    split at h5
    case isFalse => cases h5
    rename_i hle
    simp only [Option.some.injEq] at h5
    subst h5
    have ha' := lends_ok hs ha h1
    refine ⟨fun f hf => ?_, fun l k off hl _ _ => by subst hl; rw [rk.noy] at h3; cases h3⟩
    subst hf
    have hmono : ∀ e w', Out P cfg x.inner h2 v1 e w' → K e w' := fun e w' ho => by
      obtain ⟨y, u, rfl, rfl, rfl, st, _, hy, hv⟩ := ho
      obtain ⟨z, z1, z2, z3, z4, z5, z6⟩ := iso_place hs st hy hv h4 (base := base) (fun i g1 g2 => hres i g1 (by simp only at hle; omega))
      rw [← z1]
      exact hK z u z2 z3 z4 (z5.mono fun b _ hb => ⟨hb.1, by simp only at hle; omega⟩) z6
    obtain ⟨g1, g2⟩ := rk.fn f as' .empty v1 h2 h3 x.inner us rfl (inner_sim hs) ha'
    exact ⟨g1, g2.mono hmono⟩
  | sh all =>
    simp only [callBy, shCall, Option.map_eq_some_iff] at he
    obtain ⟨⟨v1, h1⟩, h2, e1⟩ := he
    simp only [Prod.mk.injEq] at e1
    obtain ⟨rfl, e1⟩ := e1
    have hmono : ∀ e w', Out P cfg x h1 v1 e w' → K e w' := fun e w' ho => by
      obtain ⟨y, u, rfl, rfl, rfl, st, hk, hy, hv⟩ := ho
      cases all with
      | true =>
        simp only [if_true] at e1
        subst e1
        exact hK y u rfl st hy (hk.mono fun _ _ h => h.elim) hv
      | false =>
        simp only [Bool.false_eq_true, if_false] at e1
        subst e1
        obtain ⟨c1, c2⟩ := cut_sim hy x.h.next
        refine hK { y with h := y.h.cut x.h.next } u rfl (st.trans c1) c2 (fun i hi hR hd => ?_) (CA_step c1 _ _ hv)
        have := hk i hi hR (fun h => h)
        refine ⟨?_, this.2⟩
        show (y.h.cut x.h.next).get i = _
        rw [AH.get_cut, if_pos hi]; exact this.1
    refine ⟨fun f hf => ?_, fun l k off hl hR hβ => ?_⟩
    · subst hf
      obtain ⟨g1, g2⟩ := rk.fn f as x.h v1 h1 h2 x us rfl hs ha
      exact ⟨g1, g2.mono hmono⟩
    · subst hl
      obtain ⟨f, tmps, asg, body, g1, g2⟩ := rk.yld l as x.h v1 h1 h2 x us k off rfl hs ha hR hβ
      exact ⟨f, tmps, asg, body, g1, g2.mono hmono⟩
end

/-- Behind a call. -/
theorem upon_fn {P : Program} {o : Oper} {a : Act} {w : World} {ro : Option Nat} {next : Act → World → Prop} {Q : Exit → Act → World → Prop} {f : Nat} {args : Array Value} {K : Ending → World → Prop}
    (h : FnOk P f args w K) (hK : ∀ e w', K e w' → ∃ u, e = .returned u ∧ next (a.put o.dst u) w') : o.uponIn (FF ro) 0 P a next Q ((callFunc f args).run P w) := by
  obtain ⟨h1, h3⟩ := h
  rw [h1, Oper.uponIn_enter]
  refine ⟨by simp [FF], ?_⟩
  exact CallsIn.mono (F := Fence.wide) h3 fun e w'' he => by
    obtain ⟨u, rfl, hn⟩ := hK e w'' he
    exact hn

theorem upon_yld {P : Program} {o : Oper} {a : Act} {w : World} {ro : Option Nat} {next : Act → World → Prop} {Q : Exit → Act → World → Prop} {k : Nat} {args : Array Value} {K : Ending → World → Prop}
    (h : YldOk P k args w K) (hK : ∀ e w', K e w' → ∃ u, e = .returned u ∧ next (a.put o.dst u) w') : o.uponIn (FF ro) 0 P a next Q ((Instr.yield k args).run P w) := by
  obtain ⟨f, tmps, asg, body, h1, h2⟩ := h
  rw [h1, Oper.uponIn_round]
  refine ⟨by simp [FF], ?_⟩
  exact RoundIn.mono (F := Fence.wide) h2 fun e w'' he => by
    obtain ⟨u, rfl, hn⟩ := hK e w'' he
    exact hn

theorem methodIn_mem : ∀ {l : List (Nat × Nat × Option (Nat × Bool))} {t : Nat} {r : Nat × Option (Nat × Bool)}, methodIn l t = some r → (t, r) ∈ l
  | [], _, _, h => by simp [methodIn] at h
  | (ty, r0) :: l, t, r, h => by
    simp only [methodIn] at h
    split at h
    · rename_i e; simp only [Option.some.injEq] at h; subst e h; simp
    · exact List.mem_cons_of_mem _ (methodIn_mem h)

/-- What is loaded. -/
theorem loadAt_ok {P : Program} {cfg : Cfg} {x : Cx} (hs : Sim P cfg x) {T : TypeId} {n : Nat} {ag : Bool} (hn : sizeT P T = some n) (hag : aggT P T = some ag) {p v : AV} {u : Value} (hp : CA x p u) (he : loadAt x.h n ag p = some v) :
    ∃ ad u', u = .pointer (some ad) ∧ (loadVar T ad).run P x.w = .ok u' x.w ∧ CA x v u' := by
  unfold loadAt at he
  split at he
  · rename_i row j
    simp only [CA, CI] at hp
    obtain ⟨k, off, e, _, hrow⟩ := hp
    obtain ⟨u', g1, g2⟩ := loadVar_ok (P := P) hn hag (ARow_of_CRow hrow) he
    exact ⟨_, u', e, g1, g2⟩
  · rename_i b sz i j
    simp only [CA] at hp
    obtain ⟨hR, k, off, hβ, e⟩ := hp
    simp only [Option.bind_eq_some_iff] at he
    obtain ⟨rows, hrows, row, hrow, hv⟩ := he
    have hblk := hs.ok b _ (rowsOf_some hrows) hR
    simp only [BlkOk] at hblk
    have hne : rows ≠ [] := by rintro rfl; simp at hrow
    obtain ⟨k', off', hβ', _, hall, har⟩ := hblk.2 hne
    rw [hβ] at hβ'
    simp only [Option.some.injEq, Prod.mk.injEq] at hβ'
    obtain ⟨rfl, rfl⟩ := hβ'
    obtain ⟨u', g1, g2⟩ := loadVar_ok (P := P) hn hag (ARows_get har hall i hrow) hv
    exact ⟨_, u', e, g1, g2⟩
  · cases he

/-- Whom a method's name leads to. -/
theorem method_ok {P : Program} {cfg : Cfg} {x : Cx} (hs : Sim P cfg x) {name : String} {ty f : Nat} {dr : Option (Nat × Bool)} (hm : methodIn (methodsOf P name) ty = some (f, dr)) {v0 v : AV} {u0 : Value} (h0 : CA x v0 u0)
    (hv : recvA x.h dr v0 = some v) (fuel : Nat) : ∃ u, (method (fuel + 1) ty u0 name).run P x.w = .ok (f, u) x.w ∧ CA x v u := by
  have hmem := methodIn_mem hm
  simp only [methodsOf, List.mem_filterMap, Option.bind_eq_some_iff] at hmem
  obtain ⟨t, _, m, ⟨i, hi, hf⟩, h1⟩ := hmem
  split at h1
  case isFalse => cases h1
  rename_i hpath
  simp only [Option.bind_eq_some_iff] at h1
  obtain ⟨⟨f', pr⟩, hfn, h1⟩ := h1
  have hnil : m.path.toList = [] := by
    have : m.path = #[] := by simpa using hpath
    rw [this]
  have start : ∀ {X : Value}, t = ty → f' = f → (∀ wr, (receiverAt ty (.val u0) pr (some wr)).run P x.w = .ok X x.w) → (method (fuel + 1) ty u0 name).run P x.w = .ok (f, X) x.w := by
    rintro X rfl rfl hr
    have e : m.path = #[] := by simpa using hpath
    have hff : Array.find? (fun x => x.name == name) i.methods = some m := hf
    simp only [method, Sem.run_bind, typeInfo]
    simp [hi, hff, follow, hfn, e, hr]
  split at h1
  · rename_i q hu hpr
    simp only [Option.some.injEq, Prod.mk.injEq] at h1
    obtain ⟨rfl, rfl, rfl⟩ := h1
    simp only [recvA, Option.some.injEq] at hv
    subst hv
    simp only at hpr
    subst hpr
    exact ⟨u0, start rfl rfl (fun wr => by simp [receiverAt, run_underlying hu, Place.get]), h0⟩
  · rename_i q hu hpr
    simp only [Option.bind_eq_some_iff, Option.map_eq_some_iff] at h1
    obtain ⟨n, hn, ag, hag, e⟩ := h1
    simp only [Prod.mk.injEq] at e
    obtain ⟨rfl, rfl, rfl⟩ := e
    simp only [recvA] at hv
    simp only at hpr
    subst hpr
    obtain ⟨ad, u', rfl, g1, g2⟩ := loadAt_ok (P := P) hs hn hag h0 hv
    have hw : ∀ s1 s2 : String, (Builtin.ssaWrapNilChk_ #[t] t #[.pointer (some ad), strVal s1, strVal s2]).run P x.w = .ok (.pointer (some ad)) x.w := fun _ _ => rfl
    exact ⟨u', start rfl rfl (fun wr => by simp [receiverAt, run_underlying hu, Place.get, hw, asAddr, g1]), g2⟩
  · rename_i q hne hu hpr
    simp only [Option.some.injEq, Prod.mk.injEq] at h1
    obtain ⟨rfl, rfl, rfl⟩ := h1
    simp only [recvA, Option.some.injEq] at hv
    subst hv
    simp only at hpr
    subst hpr
    refine ⟨u0, start rfl rfl (fun wr => ?_), h0⟩
    rename_i d
    cases d <;> first | (exfalso; exact q _ rfl; done) | (exfalso; exact hne _ rfl; done) | simp [receiverAt, run_underlying hu, Place.get] | simp [receiverAt, run_underlying hne, Place.get]
  · cases h1

theorem cOp_defer {P : Program} {cfg : Cfg} {g : Nat} {o : Oper} {c : Call} (e : o.op = .defer c) {op : AOp} (h : cOp P cfg g o = some op) : ∃ f as, op = .dfr f as := by
  unfold cOp at h
  rw [e] at h
  simp only [Option.bind_eq_some_iff] at h
  obtain ⟨as, _, h⟩ := h
  split at h
  · simp only [Option.map_eq_some_iff] at h
    obtain ⟨f, _, rfl⟩ := h
    exact ⟨f, as, rfl⟩
  · cases h

section
variable {P : Program} {cfg : Cfg} {g : Nat} {rec : Rec} (rk : RecOk P cfg rec) {x : Cx} (hs : Sim P cfg x) {t : List AV} {a : Act} (ht : CAs x t a.tmps.toList)
include rk hs ht

/-- **One operation.** -/
theorem op_ok {o : Oper} {ao : AOper} (hc : cOp P cfg g o = some ao.op) {s : St} (hst : s.t = t) (hsh : s.h = x.h) {ro : Option Nat} (hrd : s.rd = ro.isSome) {base : Nat}
    (hres : ∀ i, base + ao.k ≤ i → i < base + ao.k + ao.op.takes → i < x.h.next ∧ ¬ x.R i ∧ x.h.get i = none) {v : AV} {h' : AH} {d' : List (AV × List AV)} (he : opV rec base ao s = some (v, h', d'))
    {next : Act → World → Prop} {Q : Exit → Act → World → Prop}
    (hnext : ∀ (y : Cx) (u : Value) (ds : List Deferred), y.h = h' → Step x y → Sim P cfg y → Keeps (fun i => base + ao.k ≤ i ∧ i < base + ao.k + ao.op.takes) x y → CA y v u →
      (d' = s.d ∧ ds = a.defers ∨ ∃ p D, d' = p :: s.d ∧ ds = D :: a.defers ∧ DefOk y p D) → next (({ a with defers := ds } : Act).put o.dst u) y.w) :
    o.wpIn (FF ro) 0 P a x.w next Q := by
  refine ⟨fun _ _ => trivial, ?_⟩
  have hi := cOp_inv hc
  subst hst
  have hres' : ∀ i, base + ao.k ≤ i → i < base + ao.k + ao.op.takes → i < x.h.next ∧ ¬ x.R i := fun i h1 h2 => ⟨(hres i h1 h2).1, (hres i h1 h2).2.1⟩
  have same : ∀ (y : Cx) (u : Value), y.h = h' → d' = s.d → Step x y → Sim P cfg y → Keeps (fun i => base + ao.k ≤ i ∧ i < base + ao.k + ao.op.takes) x y → CA y v u → next (a.put o.dst u) y.w :=
    fun y u h1 h2 h3 h4 h5 h6 => hnext y u a.defers h1 h3 h4 h5 h6 (.inl ⟨h2, rfl⟩)
  unfold opV at he
  split at he
  · -- a call
    rename_i m f args hop
    rw [hop] at hi hres' same
    obtain ⟨fo, argo, tys, ho, hf, hargs⟩ := hi
    simp only [Option.bind_eq_some_iff] at he
    obtain ⟨⟨c, first, cap⟩, hcal, he⟩ := he
    have hfv := cX_ok ht hf
    obtain ⟨fn, A, C, hu, h1, h2, h3⟩ := callee_ok rk hs hfv hcal
    have hav := mapX_ok ht hargs
    have has := CAs_append (CAs_append h1 hav) h2
    have he' : callBy rec m x.h (base + ao.k) c (first ++ args.map (X.ev s.t) ++ cap) = some (v, h') ∧ d' = s.d := by
      cases m <;> simp only [callBy, hsh] at he ⊢ <;> simp only [Option.map_eq_some_iff, Prod.mk.injEq] at he ⊢
      · obtain ⟨r, h1, h2, h3, h4⟩ := he
        exact ⟨⟨r, h1, h2, h3⟩, h4.symm⟩
      · obtain ⟨r, h1, h2, h3, h4⟩ := he
        refine ⟨?_, h4.symm⟩
        rw [h1]; simp [← h2, ← h3]
    obtain ⟨q1, q2⟩ := doCall (K := fun e w' => ∃ u, e = .returned u ∧ next (a.put o.dst u) w') rk hs (us := A.toList ++ argo.toList.map a.eval ++ C.toList) has he'.1 (n := (AOp.call m f args).takes) (by cases m <;> rfl) hres'
      (fun z u z1 z2 z3 z4 z5 => ⟨u, rfl, same z u z1 he'.2 z2 z3 z4 z5⟩)
    have hsem : o.semAt (FF ro).round a.eval = execOp a.eval o := Oper.semAt_plain _ _ _ (fun c e => by rw [ho] at e; cases e)
    rw [hsem]
    have hrun : (execOp a.eval o).run P x.w = (invoke (.fn fn C) (A ++ argo.map a.eval)).run P x.w := by
      simp [execOp, ho, resolve, hu, Deferred.ofValue]
    rw [hrun]
    have harr : (A.toList ++ argo.toList.map a.eval ++ C.toList).toArray = (A ++ argo.map a.eval) ++ C := by
      apply Array.ext'; simp
    rw [harr] at q1 q2
    rcases h3 with ⟨f0, rfl, rfl⟩ | ⟨l, k, off, rfl, rfl, hR, hβ, hC, hA⟩
    · exact upon_fn (q1 f0 rfl) fun _ _ h => h
    · have := q2 l k off rfl hR hβ
      subst hC
      rw [Array.append_empty] at this
      exact upon_yld this fun _ _ h => h
  · -- a call of an interface's method
    rename_i m nm tab r args hop
    rw [hop] at hi hres' same
    obtain ⟨ro', argo, tys, ho, hr, htab, hargs⟩ := hi
    subst htab
    simp only [Option.bind_eq_some_iff] at he
    obtain ⟨⟨ty, v0⟩, hty, ⟨f, dr⟩, hmi, v1, hv1, he⟩ := he
    have hrv := cX_ok ht hr
    have hav := mapX_ok ht hargs
    obtain ⟨u0, hu0, hc0⟩ : ∃ u0, a.eval ro' = .iface ty u0 ∧ CA x v0 u0 := by
      split at hty
      · rename_i ty' v' hx
        simp only [Option.some.injEq, Prod.mk.injEq] at hty
        obtain ⟨rfl, rfl⟩ := hty
        rw [hx] at hrv
        simp only [CA] at hrv
        exact hrv
      · rename_i ty' y hx
        simp only [Option.some.injEq, Prod.mk.injEq] at hty
        obtain ⟨rfl, rfl⟩ := hty
        rw [hx] at hrv
        simp only [CA, CI, Bool.false_eq_true, if_false, CIs] at hrv
        obtain ⟨u, e, h1, _⟩ := hrv
        exact ⟨u, e, by simp only [CA]; exact h1⟩
      · rename_i ty' l hx
        simp only [Option.some.injEq, Prod.mk.injEq] at hty
        obtain ⟨rfl, rfl⟩ := hty
        rw [hx] at hrv
        simp only [CA, CI, if_true] at hrv
        obtain ⟨u, e, cs, rfl, h1, h2⟩ := hrv
        exact ⟨_, e, by simp only [CA]; exact ⟨cs, rfl, CAs_iv h1, h2⟩⟩
      · cases hty
    rw [hsh] at hv1
    obtain ⟨u, hmr, hcu⟩ := method_ok (P := P) hs hmi hc0 hv1 (P.types.size + Made.depth - 1)
    have hdp : P.types.size + Made.depth - 1 + 1 = P.types.size + Made.depth := by
      have : 0 < Made.depth := by decide
      omega
    rw [hdp] at hmr
    have has : CAs x (v1 :: args.map (X.ev s.t)) (u :: argo.toList.map a.eval) := by simp only [CAs]; exact ⟨hcu, hav⟩
    have he' : callBy rec m x.h (base + ao.k) (.fn f) (v1 :: args.map (X.ev s.t)) = some (v, h') ∧ d' = s.d := by
      cases m <;> simp only [callBy, hsh] at he ⊢ <;> simp only [Option.map_eq_some_iff, Prod.mk.injEq] at he ⊢
      · obtain ⟨r, h1, h2, h3, h4⟩ := he
        exact ⟨⟨r, h1, h2, h3⟩, h4.symm⟩
      · obtain ⟨r, h1, h2, h3, h4⟩ := he
        refine ⟨?_, h4.symm⟩
        rw [h1]; simp [← h2, ← h3]
    obtain ⟨q1, _⟩ := doCall (K := fun e w' => ∃ u, e = .returned u ∧ next (a.put o.dst u) w') rk hs (us := u :: argo.toList.map a.eval) has he'.1 (n := (AOp.inv m nm (methodsOf P nm) r args).takes) (by cases m <;> rfl) hres'
      (fun z u z1 z2 z3 z4 z5 => ⟨u, rfl, same z u z1 he'.2 z2 z3 z4 z5⟩)
    have hsem : o.semAt (FF ro).round a.eval = execOp a.eval o := Oper.semAt_plain _ _ _ (fun c e => by rw [ho] at e; cases e)
    rw [hsem]
    have harr : (u :: argo.toList.map a.eval).toArray = #[u] ++ argo.map a.eval := by
      apply Array.ext'; simp
    have hrun : (execOp a.eval o).run P x.w = (callFunc f (u :: argo.toList.map a.eval).toArray).run P x.w := by
      rw [harr]
      have e2 : ((#[Value.iface ty u0] ++ argo.map a.eval).extract 1 (#[Value.iface ty u0] ++ argo.map a.eval).size) = argo.map a.eval := by
        apply Array.ext'
        simp
        rw [List.take_of_length_le (by simp)]
      have e3 : (#[Value.iface ty u0] ++ argo.map a.eval)[0]? = some (.iface ty u0) := by simp [Array.getElem?_append]
      simp only [execOp, ho, resolve, hu0, invoke, callMethod, Sem.run_bind, Sem.run_pure, Result.andThen_ok, e3, e2]
      simp [hmr]
    rw [hrun]
    exact upon_fn (q1 f rfl) fun _ _ h => h
  · -- a deferred call
    rename_i f args hop
    rw [hop] at hi hres' same
    obtain ⟨fo, argo, tys, ho, hf, hargs⟩ := hi
    split at he
    · cases he
    rename_i hnrd
    simp only [Bool.or_eq_true, not_or, Bool.not_eq_true, Option.isNone_iff_eq_none] at hnrd
    obtain ⟨hnrd, hcal⟩ := hnrd
    have hro : ro = none := by
      cases ro with
      | none => rfl
      | some l => rw [hrd] at hnrd; cases hnrd
    subst hro
    simp only [Option.some.injEq, Prod.mk.injEq] at he
    obtain ⟨rfl, rfl, rfl⟩ := he
    have hfv := cX_ok ht hf
    have hav := mapX_ok ht hargs
    cases hcf : calleeOf (f.ev s.t) with
    | none => exact absurd hcf (by simpa using hcal)
    | some q =>
      obtain ⟨c, first, cap⟩ := q
      obtain ⟨fn, A, C, hu, h1, h2, h3⟩ := callee_ok rk hs hfv hcf
      have hov : ∀ (P : Program) (w : World), (Deferred.ofValue (a.eval fo) (argo.toList.map a.eval).toArray).run P w = .ok { target := .fn fn C, args := A ++ (argo.toList.map a.eval).toArray } w := fun P w => by
        simp [Deferred.ofValue, hu]
      have hrun : (o.semAt (FF none).round a.eval).run P x.w = .ok (.defer { target := .fn fn C, args := A ++ (argo.toList.map a.eval).toArray }) x.w := by
        show (o.semAt none a.eval).run P x.w = _
        rw [Oper.semAt_none]
        have := hov P x.w
        have e : argo.map a.eval = (argo.toList.map a.eval).toArray := by apply Array.ext'; simp
        simp [execOp, ho, resolve, e, this]
      rw [hrun, Oper.uponIn_defer]
      refine hnext x undef _ hsh.symm (Step.refl x) hs (Keeps.refl _ x) (by simp only [CA]; exact ⟨#[], rfl, by simp [CAs]⟩) (.inr ⟨_, _, rfl, rfl, a.eval fo, argo.toList.map a.eval, hfv, hav, hov⟩)
  · -- the others
    rename_i n1 n2 n3
    have hnd : ∀ c, o.op ≠ .defer c := fun c e => by
      obtain ⟨f, as, e2⟩ := cOp_defer e hc
      exact n3 f as e2
    have hsem : o.semAt (FF ro).round a.eval = execOp a.eval o := Oper.semAt_plain _ _ _ hnd
    rw [hsem]
    split at he
    · rename_i hcls
      simp only [Option.map_eq_some_iff, Prod.mk.injEq] at he
      obtain ⟨v0, hv, rfl, rfl, rfl⟩ := he
      obtain ⟨u, hr, hu⟩ := evalP_ok (P := P) (cfg := cfg) (g := g) (x := x) ht hc hcls hv
      rw [hr, Oper.uponIn_value]
      exact same x u hsh.symm rfl (Step.refl x) hs (Keeps.refl _ x) hu
    · rename_i hcls
      simp only [Option.map_eq_some_iff, Prod.mk.injEq] at he
      obtain ⟨v0, hv, rfl, rfl, rfl⟩ := he
      rw [hsh] at hv
      obtain ⟨u, hr, hu⟩ := evalR_ok (P := P) (cfg := cfg) (g := g) ht hs hc hcls hv
      rw [hr, Oper.uponIn_value]
      exact same x u hsh.symm rfl (Step.refl x) hs (Keeps.refl _ x) hu
    · rename_i hcls
      simp only [Option.map_eq_some_iff, Prod.mk.injEq] at he
      obtain ⟨⟨v0, bs⟩, hv, rfl, rfl, rfl⟩ := he
      obtain ⟨u, w', obj, blk, hr, hbs, hl, hy⟩ := evalN_ok (P := P) (cfg := cfg) (g := g) (x := x) ht hc hv
      have htk : ao.op.takes = 1 := by cases hop : ao.op <;> simp_all [AOp.cls, AOp.takes, evalN]
      subst hbs
      obtain ⟨r1, r2, r3⟩ := hres (base + ao.k) (Nat.le_refl _) (by omega)
      have hna : NewAt x.h (x.h.add (base + ao.k) blk) (base + ao.k) blk := ⟨rfl, by simp [AH.get_add], fun i hi => by simp [AH.get_add, hi]⟩
      have stl := lay_step hs hl r2 hna
      obtain ⟨hu, hblk⟩ := hy (x.lay w' (base + ao.k) (x.h.add (base + ao.k) blk)) rfl (.inl rfl) (by simp [Cx.lay]) stl
      rw [hr, Oper.uponIn_value]
      exact same _ u (by rw [hsh]; rfl) rfl stl (lay_sim hs hl r2 r1 hna hblk) ((lay_keeps hna).mono fun i _ hi => by rw [htk]; omega) hu
    · rename_i hcls
      simp only [Option.map_eq_some_iff, Prod.mk.injEq] at he
      obtain ⟨⟨v0, h0⟩, hv, rfl, rfl, rfl⟩ := he
      rw [hsh] at hv
      obtain ⟨nx, u, w', hr, hnx, y, y1, y2, y3, y4, y5, y6⟩ := evalW_ok (P := P) (cfg := cfg) (g := g) hs ht hc (fun h => ⟨(hres _ (Nat.le_refl _) (by omega)).1, (hres _ (Nat.le_refl _) (by omega)).2.1⟩) hv
      subst y1
      rw [hr]
      rcases hnx with rfl | ⟨rfl, rfl⟩
      · rw [Oper.uponIn_value]; exact same y u y2 rfl y3 y4 y5 y6
      · rw [Oper.uponIn_skip]; exact same y undef y2 rfl y3 y4 y5 y6
end

end Go.Eng

/- The engine, part 18: regions whose order is fixed. -/
namespace Go.Eng

/-- The deferred calls of an activation, marks of loops among them: the abstract ones are those of functions. m: where marks may be. -/
inductive DOk (m : Nat → Prop) (y : Cx) : List (AV × List AV) → List Deferred → Prop
  | nil : DOk m y [] []
  | call {p : AV × List AV} {D : Deferred} {d : List (AV × List AV)} {ds : List Deferred} : DefOk y p D → DOk m y d ds → DOk m y (p :: d) (D :: ds)
  | mark {r : Nat} {d : List (AV × List AV)} {ds : List Deferred} : m r → y.w.heap[r]? = some (.deferred (some [])) → (∀ D ∈ ds, D.target ≠ .collected r) → DOk m y d ds → DOk m y d ({ target := .collected r, args := #[] } :: ds)

theorem DefOk.step {x y : Cx} (s : Step x y) {p : AV × List AV} {D : Deferred} (h : DefOk x p D) : DefOk y p D := by
  obtain ⟨u, us, h1, h2, h3⟩ := h
  exact ⟨u, us, CA_step s _ _ h1, CAs_step s _ _ h2, h3⟩

theorem not_own_deferred {P : Program} {cfg : Cfg} {x : Cx} (hs : Sim P cfg x) {r : Nat} {ds : Option (List Deferred)} (h : x.w.heap[r]? = some (.deferred ds)) : ¬ Own x.β x.h r := by
  rintro ⟨b, off, h1, h2⟩
  obtain ⟨blk, hb⟩ := Option.isSome_iff_exists.1 h1
  have hR : x.R b := Classical.byContradiction fun hn => by rw [hs.nr b hn] at h2; cases h2
  have hk := hs.ok b blk hb hR
  cases blk with
  | cells sz rows =>
    simp only [BlkOk] at hk
    obtain ⟨c, T, fr, h3, _⟩ := hk.1 r off h2
    rw [h] at h3; cases h3
  | mp es =>
    simp only [BlkOk] at hk
    obtain ⟨k, o, en, cl, h3, h4, _⟩ := hk
    rw [h2] at h3
    simp only [Option.some.injEq, Prod.mk.injEq] at h3
    obtain ⟨rfl, rfl⟩ := h3
    rw [h] at h4; cases h4
  | lp r' =>
    simp only [BlkOk] at hk
    obtain ⟨k, o, L, h3, h4, _⟩ := hk
    rw [h2] at h3
    simp only [Option.some.injEq, Prod.mk.injEq] at h3
    obtain ⟨rfl, rfl⟩ := h3
    rw [h] at h4; cases h4

theorem DOk.step {P : Program} {cfg : Cfg} {m : Nat → Prop} {x y : Cx} (hs : Sim P cfg x) (s : Step x y) {d : List (AV × List AV)} {ds : List Deferred} (h : DOk m x d ds) : DOk m y d ds := by
  induction h with
  | nil => exact .nil
  | call h1 _ ih => exact .call (h1.step s) ih
  | mark h1 h2 h3 _ ih => exact .mark h1 (by rw [s.same _ (Array.getElem?_eq_some_iff.1 h2).1 (not_own_deferred hs h2)]; exact h2) h3 ih

/-- Where code stands: the abstract state is what the activation and the world have. -/
structure At (P : Program) (cfg : Cfg) (m : Nat → Prop) (ro : Option Nat) (s : St) (x : Cx) (a : Act) : Prop where
  sim : Sim P cfg x
  h : s.h = x.h
  t : CAs x s.t a.tmps.toList
  d : DOk m x s.d a.defers
  rd : s.rd = ro.isSome

/-! ### guards -/
theorem guard_ok {x : Cx} {ops : Array Oper} {t : List AV} {a : Act} (ht : CAs x t a.tmps.toList) {o : Oper} {gd : Option (Nat × Bool)}
    (hg : (match o.guard with | none => some none | some (j, b) => (dstOf ops j).map fun d => some (d, b)) = some gd) {p : Bool} (hp : guardOf t gd = some p) : Region.wanted o (yielded ops a.tmps) = p := by
  unfold Region.wanted
  cases ho : o.guard with
  | none =>
    rw [ho] at hg
    simp only [Option.some.injEq] at hg
    subst hg
    simp only [guardOf, Option.some.injEq] at hp
    exact hp
  | some q =>
    obtain ⟨j, b⟩ := q
    rw [ho] at hg
    simp only [Option.map_eq_some_iff] at hg
    obtain ⟨d, hd, rfl⟩ := hg
    simp only [guardOf] at hp
    simp only
    have hget : t.getD d (.iv .any) = (t[d]?).getD (.iv .any) := by simp [List.getD_eq_getElem?_getD]
    have hy : yielded ops a.tmps j = match a.tmps[d]? with | some (.bool b) => some b | _ => none := by
      unfold yielded
      have : (ops[j]?).bind (·.dst) = some d := hd
      rw [this]; rfl
    cases htd : t[d]? with
    | none => rw [hget, htd] at hp; simp at hp
    | some v =>
      obtain ⟨u, hu, hv⟩ := CAs_get ht d htd
      rw [hget, htd] at hp
      simp only [Option.getD_some] at hp
      have hu' : a.tmps[d]? = some u := by simpa using hu
      rw [hy, hu']
      split at hp
      · rename_i x'
        have := CA_b hv
        subst this
        simp only [Option.some.injEq] at hp
        rw [← hp]
        cases x' <;> cases b <;> rfl
      · simp only [CA] at hv
        obtain ⟨cs, rfl, _⟩ := hv
        simp only [Option.some.injEq] at hp
        rw [← hp]
        rfl
      · cases hp

theorem put_defers (a : Act) (d : Option Tmp) (u : Value) : (a.put d u).defers = a.defers := by cases d <;> rfl

theorem put_tmps {x : Cx} {t : List AV} {a : Act} (ht : CAs x t a.tmps.toList) {d : Option Nat} {v : AV} {u : Value} (hv : CA x v u) : CAs x (setD t d v) (a.put d u).tmps.toList := by
  cases d with
  | none => exact ht
  | some n =>
    simp only [setD, Act.put, Array.toList_setIfInBounds]
    exact CAs_set ht n hv

theorem cOpers_le {P : Program} {cfg : Cfg} {g : Nat} {ops : Array Oper} {re : Nat → List (Option Nat × Option (Nat × Bool) × AOp)} : ∀ {is : List Nat} {k n : Nat} {l : List AOper}, cOpers P cfg g ops re k is = some (n, l) → k ≤ n
  | [], k, n, l, h => by
    simp only [cOpers, Option.some.injEq, Prod.mk.injEq] at h
    omega
  | i :: is, k, n, l, h => by
    simp only [cOpers, Option.bind_eq_some_iff, Option.map_eq_some_iff] at h
    obtain ⟨o, _, op, _, gd, _, ⟨n', l'⟩, h1, e⟩ := h
    simp only [Prod.mk.injEq] at e
    obtain ⟨rfl, rfl⟩ := e
    have := cOpers_le h1
    omega

theorem bad_none {rec : Rec} {base : Nat} {ao : AOper} {s : St} (h : ao.op = .bad) : opV rec base ao s = none := by
  unfold opV
  rw [h]
  simp [AOp.cls, evalW]

/-- Deferred calls behind one operation. -/
theorem DOk.next {m : Nat → Prop} {y : Cx} {d d' : List (AV × List AV)} {ds ds' : List Deferred} (h : DOk m y d ds) (hd : d' = d ∧ ds' = ds ∨ ∃ p D, d' = p :: d ∧ ds' = D :: ds ∧ DefOk y p D) : DOk m y d' ds' := by
  rcases hd with ⟨rfl, rfl⟩ | ⟨p, D, rfl, rfl, h1⟩
  · exact h
  · exact .call h1 h

section
variable {P : Program} {cfg : Cfg} {g : Nat} {rec : Rec} (rk : RecOk P cfg rec) {ops : Array Oper} {ro : Option Nat} {m : Nat → Prop} {base : Nat} {Q : Exit → Act → World → Prop}
include rk

/-- **A region whose order is fixed.** -/
theorem seq_ok : ∀ (is : List Nat) {k n : Nat} {l : List AOper}, cOpers P cfg g ops (fun _ => []) k is = some (n, l) → ∀ {s s' : St} {x : Cx} {a : Act}, At P cfg m ro s x a →
    (∀ i, base + k ≤ i → i < base + n → i < x.h.next ∧ ¬ x.R i ∧ x.h.get i = none) → execs rec base l s = some s' →
    (∀ (y : Cx) (a' : Act), At P cfg m ro s' y a' → Step x y → Keeps (fun i => base + k ≤ i ∧ i < base + n) x y → Q .normal a' y.w) → wpOpsIn (FF ro) 0 P ops Q is a x.w
  | [], k, n, l, hc, s, s', x, a, hat, _, he, hQ => by
    simp only [cOpers, Option.some.injEq, Prod.mk.injEq] at hc
    obtain ⟨_, rfl⟩ := hc
    simp only [execs, Option.some.injEq] at he
    subst he
    exact hQ x a hat (Step.refl x) (Keeps.refl _ x)
  | i :: is, k, n, l, hc, s, s', x, a, hat, hres, he, hQ => by
    simp only [cOpers, Option.bind_eq_some_iff, Option.map_eq_some_iff, Option.some.injEq] at hc
    obtain ⟨o, ho, op, rfl, gd, hgd, ⟨n', l'⟩, hrec, e⟩ := hc
    simp only [Prod.mk.injEq] at e
    obtain ⟨rfl, rfl⟩ := e
    have hle := cOpers_le hrec
    simp only [execs, Option.bind_eq_some_iff] at he
    obtain ⟨s1, h1, h2⟩ := he
    simp only [wpOpsIn, ho]
    simp only [exec1] at h1
    split at h1
    · rename_i hgt
      rw [if_pos (guard_ok hat.t hgd hgt)]
      simp only [Option.bind_eq_some_iff] at h1
      obtain ⟨⟨v, h', d'⟩, hv, h1⟩ := h1
      simp only [List.all_nil, if_true, Option.some.injEq] at h1
      subst h1
      cases hco : cOp P cfg g o with
      | none => exfalso; rw [bad_none (by simp [hco])] at hv; cases hv
      | some op' =>
        simp only [hco, Option.getD_some] at hv hrec hle ⊢
        refine op_ok (g := g) rk hat.sim hat.t (ao := { d := o.dst, g := gd, k := k, op := op', re := [] }) hco rfl hat.h hat.rd (fun i q1 q2 => hres i q1 (by simp only at q2; omega)) hv ?_
        intro y u ds hy st hsy hk hu hd
        refine seq_ok is hrec (s := { s with t := setD s.t o.dst v, h := h', d := d' }) ⟨hsy, hy.symm, ?_, by rw [put_defers]; exact (hat.d.step hat.sim st).next hd, hat.rd⟩ (fun i q1 q2 => ?_) h2 fun z a' hz st2 hk2 => hQ z a' hz (st.trans st2) ?_
        · exact put_tmps (a := { a with defers := ds }) (CAs_step st _ _ hat.t) hu
        · obtain ⟨r1, r2, r3⟩ := hres i (by omega) q2
          obtain ⟨k1, k2⟩ := hk i r1 r2 (fun hh => by simp only at hh; omega)
          exact ⟨Nat.lt_of_lt_of_le r1 st.next, k2, by rw [k1]; exact r3⟩
        · exact Keeps.trans st.next (hk.mono fun i _ hh => by simp only at hh; omega) (hk2.mono fun i _ hh => by omega)
    · rename_i hgt
      rw [if_neg (by rw [guard_ok hat.t hgd hgt]; simp)]
      simp only [Option.some.injEq] at h1
      subst h1
      refine ⟨fun _ _ => trivial, seq_ok is hrec (s := { s with t := setD s.t o.dst .undef }) ⟨hat.sim, hat.h, ?_, ?_, hat.rd⟩ (fun i q1 q2 => hres i (by omega) q2) h2 fun z a' hz st2 hk2 => hQ z a' hz st2 (hk2.mono fun i _ hh => by omega)⟩
      · exact put_tmps hat.t (by simp only [CA]; exact ⟨#[], rfl, by simp [CAs]⟩)
      · rw [put_defers]; exact hat.d
    · cases h1
end

end Go.Eng
