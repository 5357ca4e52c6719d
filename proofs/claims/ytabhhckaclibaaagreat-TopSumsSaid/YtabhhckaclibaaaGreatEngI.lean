/- The engine, part 19: regions in any order: what is hidden, and what the checks say. -/
import Derived.Test.YtabhhckaclibaaaGreatEngH
import Derived.OrdersIn
set_option linter.all false
namespace Go.Eng

theorem CAs_of {x : Cx} : ∀ {l : List AV} {vs : List Value}, l.length = vs.length → (∀ (n : Nat) (v : AV) (u : Value), l[n]? = some v → vs[n]? = some u → CA x v u) → CAs x l vs
  | [], [], _, _ => by simp [CAs]
  | [], _ :: _, h, _ => by simp at h
  | _ :: _, [], h, _ => by simp at h
  | a :: as, v :: vs, h, hp => by
    simp only [CAs]
    exact ⟨hp 0 a v rfl rfl, CAs_of (by simpa using h) fun n b u h1 h2 => hp (n + 1) b u (by simpa using h1) (by simpa using h2)⟩

open Classical in
/-- The temporaries of D, hidden. -/
noncomputable def hid (D : Nat → Prop) (t : List AV) : List AV := t.mapIdx fun n v => if D n then .iv .any else v

theorem hid_get (D : Nat → Prop) (t : List AV) (n : Nat) : (hid D t)[n]? = (t[n]?).map fun v => @ite _ (D n) (Classical.propDecidable _) (.iv .any) v := by
  unfold hid
  rw [List.getElem?_mapIdx]

theorem hid_len (D : Nat → Prop) (t : List AV) : (hid D t).length = t.length := by simp [hid]

theorem hid_agree {D : Nat → Prop} {t : List AV} {l : List Nat} (h : ∀ n ∈ l, ¬ D n) : Agree (hid D t) t l := fun n hn => by
  rw [List.getD_eq_getElem?_getD, List.getD_eq_getElem?_getD, hid_get]
  cases t[n]? with
  | none => rfl
  | some v => simp [h n hn]

theorem hid_empty {D : Nat → Prop} {t : List AV} (h : ∀ n, ¬ D n) : hid D t = t := by
  apply List.ext_getElem?
  intro n
  rw [hid_get]
  cases t[n]? with
  | none => rfl
  | some v => simp [h n]

/-- Hidden ones, from one place to another: what is not hidden behind is not hidden ahead. -/
theorem hid_mono {x : Cx} {D D' : Nat → Prop} {t t' : List AV} {us : List Value} (h : CAs x (hid D t) us) (hl : t'.length = t.length) (hd : ∀ n, ¬ D' n → ¬ D n ∧ t'[n]? = t[n]?) : CAs x (hid D' t') us := by
  refine CAs_of (by rw [hid_len, hl, ← hid_len D t, CAs_length h]) fun n v u h1 h2 => ?_
  rw [hid_get] at h1
  by_cases hn : D' n
  · simp only [hn, if_true, Option.map_eq_some_iff] at h1
    obtain ⟨_, _, rfl⟩ := h1
    simp [CA, CI]
  · simp only [hn, if_false, Option.map_eq_some_iff] at h1
    obtain ⟨v', hv', rfl⟩ := h1
    obtain ⟨g1, g2⟩ := hd n hn
    rw [g2] at hv'
    have : (hid D t)[n]? = some v' := by rw [hid_get, hv']; simp [g1]
    obtain ⟨u', q1, q2⟩ := CAs_get h n this
    rw [h2] at q1
    simp only [Option.some.injEq] at q1
    exact q1 ▸ q2

/-- A temporary gets its value, and is hidden no more. -/
theorem hid_put {x : Cx} {D D' : Nat → Prop} {t : List AV} {us : List Value} (h : CAs x (hid D t) us) {d : Nat} {v : AV} {u : Value} (hv : CA x v u) (ht : ∀ v', t[d]? = some v' → v' = v) (hd : ∀ n, ¬ D' n → n ≠ d → ¬ D n) : CAs x (hid D' t) (us.set d u) := by
  refine CAs_of (by rw [hid_len, List.length_set, ← hid_len D t, CAs_length h]) fun n v2 u2 h1 h2 => ?_
  rw [hid_get] at h1
  by_cases hn : D' n
  · simp only [hn, if_true, Option.map_eq_some_iff] at h1
    obtain ⟨_, _, rfl⟩ := h1
    simp [CA, CI]
  · simp only [hn, if_false, Option.map_eq_some_iff] at h1
    obtain ⟨v', hv', rfl⟩ := h1
    by_cases hnd : n = d
    · subst hnd
      rw [ht _ hv']
      rw [List.getElem?_set_self'] at h2
      cases hu : us[n]? with
      | none => rw [hu] at h2; simp at h2
      | some w => rw [hu] at h2; simp at h2; exact h2 ▸ hv
    · rw [List.getElem?_set_ne (Ne.symm hnd)] at h2
      have : (hid D t)[n]? = some v' := by rw [hid_get, hv']; simp [hd n hn hnd]
      obtain ⟨u', q1, q2⟩ := CAs_get h n this
      rw [h2] at q1
      simp only [Option.some.injEq] at q1
      exact q1 ▸ q2

/-! ### what the checks say -/
theorem chkOrd_ok {aft : Nat → List Nat} {ok : Nat → Nat → Bool} : ∀ {l p0 : List Nat}, chkOrd aft ok p0 l = true → ∀ (p : List Nat) (i : Nat) (q : List Nat), l = p ++ i :: q →
    (∀ e ∈ aft i, e ∈ p0 ∨ e ∈ p) ∧ (∀ j, j ∈ p0 ∨ j ∈ p → ok j i = true) ∧ ¬ (i ∈ p0 ∨ i ∈ p)
  | [], p0, _, p, i, q, h => by simp at h
  | a :: l, p0, hc, p, i, q, h => by
    simp only [chkOrd, Bool.and_eq_true, List.all_eq_true, Bool.not_eq_true', List.contains_eq_mem, decide_eq_true_eq, decide_eq_false_iff_not] at hc
    obtain ⟨⟨⟨h1, h2⟩, h3⟩, h4⟩ := hc
    cases p with
    | nil =>
      simp only [List.nil_append, List.cons.injEq] at h
      obtain ⟨rfl, rfl⟩ := h
      exact ⟨fun e he => .inl (h1 e he), fun j hj => h2 j (by simpa using hj), by simpa using h3⟩
    | cons b p =>
      simp only [List.cons_append, List.cons.injEq] at h
      obtain ⟨rfl, rfl⟩ := h
      obtain ⟨g1, g2, g3⟩ := chkOrd_ok h4 p i q rfl
      refine ⟨fun e he => ?_, fun j hj => g2 j ?_, fun hj => g3 ?_⟩
      · rcases g1 e he with h | h
        · rcases List.mem_cons.1 h with rfl | h
          · exact .inr (by simp)
          · exact .inl h
        · exact .inr (by simp [h])
      · rcases hj with h | h
        · exact .inl (by simp [h])
        · rcases List.mem_cons.1 h with rfl | h
          · exact .inl (by simp)
          · exact .inr h
      · rcases hj with h | h
        · exact .inl (by simp [h])
        · rcases List.mem_cons.1 h with rfl | h
          · exact .inl (by simp)
          · exact .inr h

structure OrdOk (P : Program) (cfg : Cfg) (g : Nat) (ops : Array Oper) (ord : List Nat) (R : Nat → List Nat) : Prop where
  all : ∀ i, i < ops.size → i ∈ ord
  lt : ∀ i ∈ ord, i < ops.size
  reach : ∀ i ∈ ord, ∀ j ∈ R i, j ∈ aftersOf ops i ∨ ∃ e ∈ aftersOf ops i, j ∈ R e
  aft : ∀ p i q, ord = p ++ i :: q → ∀ e ∈ aftersOf ops i, e ∈ p
  pair : ∀ p i q, ord = p ++ i :: q → ∀ j ∈ p, pairOk (dstOf ops) (useOf P cfg g ops) (kindOf P cfg g ops) R j i = true
  nodup : ∀ p i q, ord = p ++ i :: q → i ∉ p

/-- What is reached from what is ready is listed. -/
theorem OrdOk.listed {P : Program} {cfg : Cfg} {g : Nat} {ops : Array Oper} {ord : List Nat} {R : Nat → List Nat} (ho : OrdOk P cfg g ops ord R) {ls : Nat → Prop} (hl : ∀ i, ls i → ∀ e ∈ aftersOf ops i, ls e) :
    ∀ (n : Nat) (p : List Nat) (i : Nat) (q : List Nat), p.length ≤ n → ord = p ++ i :: q → (∀ e ∈ aftersOf ops i, ls e) → ∀ j ∈ R i, ls j
  | n, p, i, q, hn, h, ha, j, hj => by
    rcases ho.reach i (by rw [h]; simp) j hj with hj | ⟨e, he, hj⟩
    · exact ha j hj
    · have hep := ho.aft p i q h e he
      obtain ⟨p1, p2, rfl⟩ := List.append_of_mem hep
      cases n with
      | zero => simp at hn
      | succ n =>
        refine OrdOk.listed ho hl n p1 e (p2 ++ i :: q) ?_ ?_ (hl e (ha e he)) j hj
        · simp at hn; omega
        · rw [h]; simp

end Go.Eng

/- The engine, part 20: operations that wait. -/
namespace Go.Eng

/-- What the evaluator has found for an operation holds still. -/
def GOOD (base : Nat) (x : Cx) (s : St) (ao : AOper) : Prop :=
  match guardOf s.t ao.g with
  | some true => ∃ v, (∀ d v', ao.d = some d → s.t[d]? = some v' → v' = v) ∧
      ((ao.op.cls = .P ∧ evalP s.t ao.op = some v) ∨ (ao.op.cls = .R ∧ evalR s.t s.h ao.op = some v) ∨
       (ao.op.cls = .N ∧ ∃ blk, evalN s.t (base + ao.k) ao.op = some (v, [blk]) ∧ s.h.get (base + ao.k) = some blk ∧ ¬ x.R (base + ao.k) ∧ base + ao.k < x.h.next))
  | some false => ∀ d v', ao.d = some d → s.t[d]? = some v' → v' = .undef
  | none => False

def FromOp (P : Program) (cfg : Cfg) (g : Nat) (ops : Array Oper) (i : Nat) (ao : AOper) : Prop :=
  ∃ o, ops[i]? = some o ∧ cOp P cfg g o = some ao.op ∧ ao.d = o.dst ∧ (match o.guard with | none => some none | some (j, b) => (dstOf ops j).map fun d => some (d, b)) = some ao.g

theorem use_split {T t : List AV} {ao : AOper} (h : Agree T t ao.use) : Agree T t ao.op.use ∧ Agree T t (match ao.g with | some (g, _) => [g] | none => []) := agree_append.1 h

/-- **An operation that has waited is carried out.** -/
theorem pend_run {P : Program} {cfg : Cfg} {g : Nat} {ops : Array Oper} {ro : Option Nat} {base : Nat} {Q : Exit → Act → World → Prop} {x : Cx} {s : St} {a : Act} {i : Nat} {ao : AOper} (hs : Sim P cfg x) (hx : s.h = x.h)
    (hf : FromOp P cfg g ops i ao) (hg : GOOD base x s ao) {D : Nat → Prop} (ht : CAs x (hid D s.t) a.tmps.toList) (huse : ∀ n ∈ ao.use, ¬ D n) {K : Act → World → Prop}
    (hK : ∀ (y : Cx) (v : AV) (u : Value), y.h = x.h → Step x y → Sim P cfg y → (∀ b, b ≠ base + ao.k ∨ ao.op.cls ≠ .N → (y.R b ↔ x.R b)) → CA y v u → (∀ d v', ao.d = some d → s.t[d]? = some v' → v' = v) → K (a.put ao.d u) y.w) :
    wpOpIn (FF ro) 0 P ops Q i K a x.w := by
  obtain ⟨o, ho, hc, hd, hgd⟩ := hf
  have hag := use_split (hid_agree (t := s.t) huse)
  have hgc := guard_congr (g := ao.g) hag.2
  unfold wpOpIn
  rw [ho]
  simp only
  unfold GOOD at hg
  split at hg
  · rename_i hgt
    rw [if_pos (guard_ok ht hgd (hgc.trans hgt))]
    obtain ⟨v, hv, hg⟩ := hg
    have hnd : ∀ c, o.op ≠ .defer c := fun c e => by
      obtain ⟨f, as, e2⟩ := cOp_defer e hc
      rw [e2] at hg
      simp [AOp.cls] at hg
    have hsem : o.semAt (FF ro).round a.eval = execOp a.eval o := Oper.semAt_plain _ _ _ hnd
    refine ⟨fun _ _ => trivial, ?_⟩
    rw [hsem]
    rcases hg with ⟨hcls, he⟩ | ⟨hcls, he⟩ | ⟨hcls, blk, he, hb, hR, hlt⟩
    · obtain ⟨u, hr, hu⟩ := evalP_ok (P := P) (cfg := cfg) (g := g) (x := x) ht hc hcls ((evalP_congr hag.1).trans he)
      rw [hr, Oper.uponIn_value, ← congrArg (fun d => a.put d u) hd]
      exact hK x v u rfl (Step.refl x) hs (fun _ _ => Iff.rfl) hu hv
    · rw [hx] at he
      obtain ⟨u, hr, hu⟩ := evalR_ok (P := P) (cfg := cfg) (g := g) ht hs hc hcls ((evalR_congr hag.1).trans he)
      rw [hr, Oper.uponIn_value, ← congrArg (fun d => a.put d u) hd]
      exact hK x v u rfl (Step.refl x) hs (fun _ _ => Iff.rfl) hu hv
    · obtain ⟨u, w', obj, blk', hr, hbs, hl, hy⟩ := evalN_ok (P := P) (cfg := cfg) (g := g) (x := x) ht hc ((evalN_congr hag.1).trans he)
      simp only [List.cons.injEq, and_true] at hbs
      subst hbs
      have hna : NewAt x.h x.h (base + ao.k) blk := ⟨rfl, by rw [← hx]; exact hb, fun _ _ => rfl⟩
      have stl := lay_step hs hl hR hna
      obtain ⟨hu, hblk⟩ := hy (x.lay w' (base + ao.k) x.h) rfl (.inl rfl) (by simp [Cx.lay]) stl
      rw [hr, Oper.uponIn_value, ← congrArg (fun d => a.put d u) hd]
      exact hK (x.lay w' (base + ao.k) x.h) v u rfl stl (lay_sim hs hl hR hlt hna hblk) (fun b hb => by
        rcases hb with hb | hb
        · exact ⟨fun h => h.resolve_left hb, .inr⟩
        · exact absurd hcls hb) hu hv
  · rename_i hgt
    rw [if_neg (by rw [guard_ok ht hgd (hgc.trans hgt)]; simp)]
    refine ⟨fun _ _ => trivial, ?_⟩
    rw [← hd]
    exact hK x .undef undef rfl (Step.refl x) hs (fun _ _ => Iff.rfl) (by simp only [CA]; exact ⟨#[], rfl, by simp [CAs]⟩) hg
  · exact hg.elim

/-- A block that is not there yet. -/
theorem ghost_sim {P : Program} {cfg : Cfg} {x : Cx} (hs : Sim P cfg x) {b : Nat} (hR : ¬ x.R b) (hb : b < x.h.next) (blk : Blk) : Step x { x with h := x.h.add b blk } ∧ Sim P cfg { x with h := x.h.add b blk } := by
  have hown : ∀ k, Own x.β (x.h.add b blk) k → Own x.β x.h k := fun k ⟨i, off, h1, h2⟩ => by
    rw [AH.get_add] at h1
    split at h1
    · rename_i e; subst e; rw [hs.nr i hR] at h2; cases h2
    · exact ⟨i, off, h1, h2⟩
  have st : Step x { x with h := x.h.add b blk } := ⟨rfl, Nat.le_refl _, fun _ _ _ => rfl, fun _ c _ fr h => ⟨c, fr, h, rfl⟩, rfl, rfl, rfl, Nat.le_refl _, fun i hi => ⟨hi, rfl⟩, fun k h => .inl (hown k h)⟩
  refine ⟨st, ⟨fun i hi => ?_, hs.rlt, hs.nr, fun i bl hi hRi => ?_, fun i j k o o' hi hj e1 e2 => ?_, fun k hk => hs.own k (hown k hk), hs.fr⟩⟩
  · simp only [AH.get_add] at hi
    split at hi
    · rename_i e; subst e; exact hb
    · exact hs.lt i hi
  · simp only [AH.get_add] at hi
    split at hi
    · rename_i e; subst e; exact absurd hRi hR
    · exact (hs.ok i bl hi hRi).step st rfl fun _ _ _ => rfl
  · simp only [AH.get_add] at hi hj
    split at hi
    · rename_i e; subst e; rw [hs.nr i hR] at e1; cases e1
    · split at hj
      · rename_i e; subst e; rw [hs.nr j hR] at e2; cases e2
      · exact hs.inj i j k o o' hi hj e1 e2

theorem kind_cases {op : AOp} (h : op.kind ≠ .W) : op.cls = .P ∨ op.cls = .R ∨ (op.cls = .N ∧ op.takes = 1 ∧ ∀ m f as, op ≠ .call m f as) := by
  cases op <;> simp_all [AOp.kind, AOp.cls, AOp.takes]

theorem takes_zero {op : AOp} (h : op.cls = .P ∨ op.cls = .R) : op.takes = 0 := by
  cases op <;> simp_all [AOp.cls, AOp.takes] <;> (rename_i m _ _; cases m <;> simp_all [AOp.cls])

/-- What one operation that does not write gives. -/
theorem opV_soft {rec : Rec} {base : Nat} {ao : AOper} {s : St} (hk : ao.op.kind ≠ .W) {v : AV} {h' : AH} {d' : List (AV × List AV)} (he : opV rec base ao s = some (v, h', d')) :
    d' = s.d ∧ ((ao.op.cls = .P ∧ evalP s.t ao.op = some v ∧ h' = s.h) ∨ (ao.op.cls = .R ∧ evalR s.t s.h ao.op = some v ∧ h' = s.h) ∨
      (ao.op.cls = .N ∧ ao.op.takes = 1 ∧ ∃ bs, evalN s.t (base + ao.k) ao.op = some (v, bs) ∧ h' = addAll s.h (base + ao.k) bs)) := by
  unfold opV at he
  split at he
  · rename_i m f as e; rw [e] at hk; simp [AOp.kind] at hk
  · rename_i m nm tab r as e; rw [e] at hk; simp [AOp.kind, AOp.cls] at hk
  · rename_i f as e; rw [e] at hk; simp [AOp.kind, AOp.cls] at hk
  · split at he
    · rename_i hcls
      simp only [Option.map_eq_some_iff, Prod.mk.injEq] at he
      obtain ⟨v0, hv, rfl, rfl, rfl⟩ := he
      exact ⟨rfl, .inl ⟨hcls, hv, rfl⟩⟩
    · rename_i hcls
      simp only [Option.map_eq_some_iff, Prod.mk.injEq] at he
      obtain ⟨v0, hv, rfl, rfl, rfl⟩ := he
      exact ⟨rfl, .inr (.inl ⟨hcls, hv, rfl⟩)⟩
    · rename_i hcls
      simp only [Option.map_eq_some_iff, Prod.mk.injEq] at he
      obtain ⟨⟨v0, bs⟩, hv, rfl, rfl, rfl⟩ := he
      refine ⟨rfl, .inr (.inr ⟨hcls, ?_, bs, hv, rfl⟩)⟩
      rcases kind_cases hk with h | h | h
      · rw [hcls] at h; cases h
      · rw [hcls] at h; cases h
      · exact h.2.1
    · rename_i hcls
      rcases kind_cases hk with h | h | h
      · rw [hcls] at h; cases h
      · rw [hcls] at h; cases h
      · rw [hcls] at h; cases h.1

theorem getElem_set {t : List AV} {d n : Nat} {v : AV} : (t.set d v)[n]? = if n = d then (t[n]?).map fun _ => v else t[n]? := by
  by_cases h : n = d
  · subst h
    rw [if_pos rfl, List.getElem?_set_self']
    cases t[n]? <;> rfl
  · rw [if_neg h, List.getElem?_set_ne (Ne.symm h)]

theorem setD_agree {t : List AV} {d : Option Nat} {v : AV} {l : List Nat} (h : ∀ n, d = some n → n ∉ l) : Agree (setD t d v) t l := fun n hn => by
  cases d with
  | none => rfl
  | some m =>
    have : n ≠ m := fun e => h m rfl (e ▸ hn)
    simp only [setD, List.getD_eq_getElem?_getD, getElem_set, if_neg this]

/-- What holds still, holds still where another temporary gets its value and blocks are added. -/
theorem GOOD.keep {base : Nat} {x x1 : Cx} {s s1 : St} {ao : AOper} (h : GOOD base x s ao) {d : Option Nat} {v : AV} (ht : s1.t = setD s.t d v) (huse : ∀ n, d = some n → n ∉ ao.use) (hd : ∀ n, d = some n → ao.d ≠ some n)
    (hr : ∀ v', ao.op.cls = .R → evalR s.t s.h ao.op = some v' → evalR s.t s1.h ao.op = some v') (hget : ∀ b blk, s.h.get b = some blk → ¬ x.R b → b < x.h.next → s1.h.get b = some blk ∧ ¬ x1.R b ∧ b < x1.h.next) : GOOD base x1 s1 ao := by
  have hag := use_split (setD_agree (t := s.t) (v := v) huse)
  rw [← ht] at hag
  have hgc := guard_congr (g := ao.g) hag.2
  have hdd : ∀ (q : AV) (d' : Nat) (v' : AV), ao.d = some d' → (∀ v'', s.t[d']? = some v'' → v'' = q) → s1.t[d']? = some v' → v' = q := fun q d' v' e hq hv => by
    refine hq v' ?_
    rw [ht] at hv
    cases d with
    | none => exact hv
    | some m =>
      have : d' ≠ m := fun e2 => hd m rfl (by rw [e, e2])
      rw [setD, getElem_set, if_neg this] at hv
      exact hv
  unfold GOOD at h ⊢
  rw [hgc]
  split at h
  · rename_i hg
    try simp only [hg]
    obtain ⟨q, h1, h2⟩ := h
    refine ⟨q, fun d' v' e hv => hdd q d' v' e (fun v'' hv'' => h1 d' v'' e hv'') hv, ?_⟩
    rcases h2 with ⟨h2, h3⟩ | ⟨h2, h3⟩ | ⟨h2, blk, h3, h4, h5, h6⟩
    · exact .inl ⟨h2, (evalP_congr hag.1).trans h3⟩
    · exact .inr (.inl ⟨h2, (evalR_congr hag.1).trans (hr q h2 h3)⟩)
    · obtain ⟨g1, g2, g3⟩ := hget _ _ h4 h5 h6
      exact .inr (.inr ⟨h2, blk, (evalN_congr hag.1).trans h3, g1, g2, g3⟩)
  · rename_i hg
    try simp only [hg]
    exact fun d' v' e hv => hdd .undef d' v' e (fun v'' hv'' => h d' v'' e hv'') hv
  · exact h.elim

/-- **An operation that does not write is run ahead.** -/
theorem ahead {P : Program} {cfg : Cfg} {rec : Rec} {base : Nat} {x : Cx} {s s1 : St} {ao : AOper} (hs : Sim P cfg x) (hx : s.h = x.h) (hk : ao.op.kind ≠ .W) (hself : ∀ n, ao.d = some n → n ∉ ao.use)
    (hres : ∀ b, base + ao.k ≤ b → b < base + ao.k + ao.op.takes → b < x.h.next ∧ ¬ x.R b ∧ x.h.get b = none) (hbs : ∀ v bs, evalN s.t (base + ao.k) ao.op = some (v, bs) → ∃ blk, bs = [blk]) (he : exec1 rec base ao s = some s1) :
    ∃ x1 : Cx, x1.w = x.w ∧ x1.h = s1.h ∧ x1.R = x.R ∧ x1.β = x.β ∧ x1.h.next = x.h.next ∧ Step x x1 ∧ Sim P cfg x1 ∧ (∃ v, s1.t = setD s.t ao.d v) ∧ s1.d = s.d ∧ s1.rd = s.rd ∧ GOOD base x1 s1 ao ∧
      (∀ b, ¬ (base + ao.k ≤ b ∧ b < base + ao.k + ao.op.takes) → s1.h.get b = s.h.get b) ∧ (∀ b blk, s.h.get b = some blk → s1.h.get b = some blk) ∧ (∀ op v', evalR s.t s.h op = some v' → evalR s.t s1.h op = some v') := by
  simp only [exec1] at he
  split at he
  · rename_i hg
    simp only [Option.bind_eq_some_iff] at he
    obtain ⟨⟨v, h', d'⟩, hv, he⟩ := he
    split at he
    case isFalse => cases he
    simp only [Option.some.injEq] at he
    subst he
    obtain ⟨rfl, hc⟩ := opV_soft hk hv
    have hag := use_split (setD_agree (t := s.t) (v := v) hself)
    have hgc := guard_congr (g := ao.g) hag.2
    have hset : ∀ d v', ao.d = some d → (setD s.t ao.d v)[d]? = some v' → v' = v := fun d v' e hv' => by
      rw [e, setD, getElem_set, if_pos rfl] at hv'
      simp only [Option.map_eq_some_iff] at hv'
      obtain ⟨_, _, h⟩ := hv'
      exact h.symm
    rcases hc with ⟨h1, h2, rfl⟩ | ⟨h1, h2, rfl⟩ | ⟨h1, h3, bs, h2, rfl⟩
    · refine ⟨x, rfl, hx.symm, rfl, rfl, rfl, Step.refl x, hs, ⟨v, rfl⟩, rfl, rfl, ?_, fun _ _ => rfl, fun _ _ h => h, fun _ _ h => h⟩
      unfold GOOD
      simp only [hgc, hg]
      exact ⟨v, hset, .inl ⟨h1, (evalP_congr hag.1).trans h2⟩⟩
    · refine ⟨x, rfl, hx.symm, rfl, rfl, rfl, Step.refl x, hs, ⟨v, rfl⟩, rfl, rfl, ?_, fun _ _ => rfl, fun _ _ h => h, fun _ _ h => h⟩
      unfold GOOD
      simp only [hgc, hg]
      exact ⟨v, hset, .inr (.inl ⟨h1, (evalR_congr hag.1).trans h2⟩)⟩
    · obtain ⟨blk, rfl⟩ := hbs v bs h2
      obtain ⟨r1, r2, r3⟩ := hres (base + ao.k) (Nat.le_refl _) (by omega)
      obtain ⟨g1, g2⟩ := ghost_sim hs r2 r1 blk
      have hadd : addAll s.h (base + ao.k) [blk] = s.h.add (base + ao.k) blk := rfl
      refine ⟨{ x with h := x.h.add (base + ao.k) blk }, rfl, by rw [hadd, hx], rfl, rfl, rfl, g1, g2, ⟨v, rfl⟩, rfl, rfl, ?_, fun b hb => ?_, fun b bl hb => ?_, fun op v' h => ?_⟩
      · unfold GOOD
        simp only [hgc, hg]
        exact ⟨v, hset, .inr (.inr ⟨h1, blk, (evalN_congr hag.1).trans h2, by rw [hadd, AH.get_add, if_pos rfl], r2, r1⟩)⟩
      · show (addAll s.h _ _).get b = _
        rw [hadd, AH.get_add, if_neg (by omega)]
      · show (addAll s.h _ _).get b = _
        rw [hadd, AH.get_add, if_neg (fun e => by subst e; rw [hx, r3] at hb; cases hb)]; exact hb
      · exact evalR_add (by rw [hx]; exact r3) h
  · rename_i hg
    simp only [Option.some.injEq] at he
    subst he
    have hag := use_split (setD_agree (t := s.t) (v := .undef) hself)
    have hgc := guard_congr (g := ao.g) hag.2
    refine ⟨x, rfl, hx.symm, rfl, rfl, rfl, Step.refl x, hs, ⟨.undef, rfl⟩, rfl, rfl, ?_, fun _ _ => rfl, fun _ _ h => h, fun _ _ h => h⟩
    unfold GOOD
    simp only [hgc, hg]
    intro d v' e hv'
    rw [e, setD, getElem_set, if_pos rfl] at hv'
    simp only [Option.map_eq_some_iff] at hv'
    obtain ⟨_, _, h⟩ := hv'
    exact h.symm
  · cases he

end Go.Eng

/- The engine, part 21: regions in any order. -/
namespace Go.Eng

theorem evalN_one {t : List AV} {b : Nat} {op : AOp} {v : AV} {bs : List Blk} (h : evalN t b op = some (v, bs)) : ∃ blk, bs = [blk] := by
  cases op <;> simp only [evalN] at h <;> try (cases h; done)
  · split at h
    · simp only [Option.some.injEq, Prod.mk.injEq] at h; exact ⟨_, h.2.symm⟩
    · cases h
  · simp only [Option.bind_eq_some_iff] at h
    obtain ⟨c, _, h⟩ := h
    split at h
    · simp only [Option.some.injEq, Prod.mk.injEq] at h; exact ⟨_, h.2.symm⟩
    · cases h
  · split at h
    · simp only [Option.bind_eq_some_iff, Option.map_eq_some_iff, Prod.mk.injEq] at h
      obtain ⟨_, _, _, _, _, h⟩ := h
      exact ⟨_, h.symm⟩
    · cases h
  · split at h
    · split at h
      · simp only [Option.some.injEq, Prod.mk.injEq] at h; exact ⟨_, h.2.symm⟩
      · cases h
    · cases h
  · simp only [Option.some.injEq, Prod.mk.injEq] at h; exact ⟨_, h.2.symm⟩
  · split at h
    · simp only [Option.some.injEq, Prod.mk.injEq] at h; exact ⟨_, h.2.symm⟩
    · cases h

/-- What is listed. -/
def Ls (listed : Array Bool) (i : Nat) : Prop := listed.getD i true = true

theorem ready_iff {ops : Array Oper} {listed : Array Bool} {i : Nat} : i ∈ Region.ready .any ops listed ↔ i < ops.size ∧ ¬ Ls listed i ∧ ∀ e ∈ aftersOf ops i, listed.getD e false = true := by
  unfold Region.ready Ls aftersOf
  simp only [List.mem_filter, List.mem_range, Bool.and_eq_true, Bool.not_eq_true', Bool.not_eq_true]
  constructor
  · rintro ⟨h1, h2, h3⟩
    refine ⟨h1, h2, ?_⟩
    have ho : ops[i]? = some ops[i] := Array.getElem?_eq_getElem h1
    rw [ho] at h3 ⊢
    simp only [Option.map_some, Option.getD_some, Array.all_eq_true', Bool.or_eq_true, Bool.not_eq_true'] at h3
    intro e he
    simp only [List.mem_map, List.mem_filter] at he
    obtain ⟨ed, ⟨h4, h5⟩, rfl⟩ := he
    rcases h3 ed (by simpa using h4) with h | h
    · rw [h] at h5; cases h5
    · exact h
  · rintro ⟨h1, h2, h3⟩
    refine ⟨h1, h2, ?_⟩
    have ho : ops[i]? = some ops[i] := Array.getElem?_eq_getElem h1
    rw [ho] at h3 ⊢
    simp only [Option.map_some, Option.getD_some, Array.all_eq_true', Bool.or_eq_true, Bool.not_eq_true']
    intro ed hed
    by_cases hb : Region.binds .any ed = true
    · exact .inr (h3 ed.on (by simp only [List.mem_map, List.mem_filter]; exact ⟨ed, ⟨by simpa using hed, hb⟩, rfl⟩))
    · exact .inl (by simpa using hb)

theorem Ls_set {listed : Array Bool} {i j : Nat} (hi : i < listed.size) : Ls (listed.setIfInBounds i true) j ↔ j = i ∨ Ls listed j := by
  unfold Ls
  simp only [Array.getD_eq_getD_getElem?, Array.getElem?_setIfInBounds]
  by_cases h : i = j
  · subst h; simp [hi]
  · simp [h, Ne.symm h]

/-- The operations that wait: each once, each as it was found. -/
structure Pds (P : Program) (cfg : Cfg) (g : Nat) (ops : Array Oper) (base kr : Nat) (ls : Nat → Prop) (p : List Nat) (x : Cx) (s : St) (pd : List (Nat × AOper)) : Prop where
  all : ∀ i ∈ p, ¬ ls i → ∃ ao, (i, ao) ∈ pd
  mem : ∀ q ∈ pd, q.1 ∈ p ∧ ¬ ls q.1 ∧ FromOp P cfg g ops q.1 q.2 ∧ kindOf P cfg g ops q.1 ≠ .W
  good : ∀ q ∈ pd, GOOD base x s q.2
  low : ∀ q ∈ pd, q.2.k + q.2.op.takes ≤ kr
  one : ∀ q ∈ pd, ∀ q' ∈ pd, q.1 = q'.1 → q = q'
  ids : ∀ q ∈ pd, ∀ q' ∈ pd, q.1 ≠ q'.1 → q.2.op.cls = .N → q'.2.op.cls = .N → q.2.k ≠ q'.2.k

/-- What is hidden while they wait. -/
def Hd (pd : List (Nat × AOper)) (n : Nat) : Prop := ∃ q ∈ pd, q.2.d = some n

theorem kindOf_soft {P : Program} {cfg : Cfg} {g : Nat} {ops : Array Oper} {i : Nat} {ao : AOper} (hf : FromOp P cfg g ops i ao) (hk : kindOf P cfg g ops i ≠ .W) : ao.op.kind ≠ .W ∧ ∀ n, ao.d = some n → n ∉ ao.use := by
  obtain ⟨o, ho, hc, hd, hg⟩ := hf
  have haop : aopOf P cfg g ops i = ao.op := by simp [aopOf, ho, hc]
  have hdst : dstOf ops i = ao.d := by simp [dstOf, ho, hd]
  have huse : useOf P cfg g ops i = ao.use := by
    unfold useOf AOper.use
    rw [haop, ho]
    simp only [Option.bind_some]
    cases hgo : o.guard with
    | none => rw [hgo] at hg; simp only [Option.some.injEq] at hg; rw [← hg]
    | some q =>
      obtain ⟨j, b⟩ := q
      rw [hgo] at hg
      simp only [Option.map_eq_some_iff] at hg
      obtain ⟨d, h1, h2⟩ := hg
      rw [← h2]
      simp only [h1]
  unfold kindOf at hk
  rw [hdst, huse] at hk
  cases hd' : ao.d with
  | none =>
    rw [hd'] at hk
    simp only [haop] at hk
    exact ⟨hk, fun n e => by cases e⟩
  | some d =>
    rw [hd'] at hk
    simp only [haop] at hk
    split at hk
    · exact absurd rfl hk
    · rename_i hno
      simp only [Bool.or_eq_true, not_or, List.contains_eq_mem, decide_eq_true_eq] at hno
      refine ⟨hk, fun n e => ?_⟩
      simp only [Option.some.injEq] at e
      subst e
      exact hno.1

theorem fromOp_use {P : Program} {cfg : Cfg} {g : Nat} {ops : Array Oper} {i : Nat} {ao : AOper} (hf : FromOp P cfg g ops i ao) : dstOf ops i = ao.d ∧ useOf P cfg g ops i = ao.use := by
  obtain ⟨o, ho, hc, hd, hg⟩ := hf
  have haop : aopOf P cfg g ops i = ao.op := by simp [aopOf, ho, hc]
  refine ⟨by simp [dstOf, ho, hd], ?_⟩
  unfold useOf AOper.use
  rw [haop, ho]
  simp only [Option.bind_some]
  cases hgo : o.guard with
  | none => rw [hgo] at hg; simp only [Option.some.injEq] at hg; rw [← hg]
  | some q =>
    obtain ⟨j, b⟩ := q
    rw [hgo] at hg
    simp only [Option.map_eq_some_iff] at hg
    obtain ⟨d, h1, h2⟩ := hg
    rw [← h2]
    simp only [h1]

/-- Two in an order. -/
theorem two_in {l : List Nat} {i j : Nat} (hi : i ∈ l) (hj : j ∈ l) (hne : i ≠ j) : (∃ p q, l = p ++ i :: q ∧ j ∈ p) ∨ (∃ p q, l = p ++ j :: q ∧ i ∈ p) := by
  obtain ⟨p, q, rfl⟩ := List.append_of_mem hi
  rcases List.mem_append.1 hj with h | h
  · exact .inl ⟨p, q, rfl, h⟩
  · rcases List.mem_cons.1 h with h | h
    · exact absurd h.symm hne
    · obtain ⟨p2, q2, rfl⟩ := List.append_of_mem h
      exact .inr ⟨p ++ i :: p2, q2, by simp, by simp⟩

section
variable {P : Program} {cfg : Cfg} {g : Nat} {ops : Array Oper} {ord : List Nat} {R : Nat → List Nat} (oo : OrdOk P cfg g ops ord R) {ls : Nat → Prop} (hcl : ∀ i, ls i → ∀ e ∈ aftersOf ops i, ls e)
include oo hcl

/-- What waits is looked at by nobody who is ready. -/
theorem not_hidden {base kr : Nat} {p : List Nat} {x : Cx} {s : St} {pd : List (Nat × AOper)} (hp : Pds P cfg g ops base kr ls p x s pd) (hpo : ∀ j ∈ p, j ∈ ord) {i : Nat} {ao : AOper} (hio : i ∈ ord) (hf : FromOp P cfg g ops i ao)
    (haft : ∀ e ∈ aftersOf ops i, ls e) {q : Nat × AOper} (hq : q ∈ pd) (hne : q.1 ≠ i) {n : Nat} (hd : q.2.d = some n) : n ∉ ao.use := by
  intro hn
  obtain ⟨h1, h2, h3, h4⟩ := hp.mem q hq
  obtain ⟨e1, e2⟩ := fromOp_use hf
  obtain ⟨e3, e4⟩ := fromOp_use h3
  rcases two_in hio (hpo _ h1) (Ne.symm hne) with ⟨p', q', hord, hjp⟩ | ⟨p', q', hord, hjp⟩
  · have hpair := oo.pair p' i q' hord q.1 hjp
    simp only [pairOk, Bool.and_eq_true, Bool.or_eq_true, List.contains_eq_mem, decide_eq_true_eq] at hpair
    rcases hpair.2 with h | h
    · exact h2 (oo.listed hcl p'.length p' i q' (Nat.le_refl _) hord haft q.1 h)
    · have := h.2
      rw [e3, hd, e2] at this
      simp at this
      exact this hn
  · have hpair := oo.pair p' q.1 q' hord i hjp
    simp only [pairOk, Bool.and_eq_true, Bool.or_eq_true] at hpair
    rcases hpair.1 with h | h
    · rw [e3, hd, e2] at h
      simp at h
      exact h.1 hn
    · have := h.1
      simp only [beq_iff_eq] at this
      exact h4 this
/-- **One that waits is carried out.** -/
theorem pds_run {base kr : Nat} {p : List Nat} {x : Cx} {s : St} {pd : List (Nat × AOper)} {a : Act} (hs : Sim P cfg x) (hx : s.h = x.h) (hp : Pds P cfg g ops base kr ls p x s pd) (hpo : ∀ j ∈ p, j ∈ ord) (ht : CAs x (hid (Hd pd) s.t) a.tmps.toList)
    {i : Nat} {ao : AOper} (hq : (i, ao) ∈ pd) (haft : ∀ e ∈ aftersOf ops i, ls e) {ro : Option Nat} {Q : Exit → Act → World → Prop} {K : Act → World → Prop}
    (hK : ∀ (y : Cx) (a' : Act), y.h = x.h → Step x y → Sim P cfg y → Keeps (fun b => base + ao.k ≤ b ∧ b < base + ao.k + ao.op.takes) x y → a'.defers = a.defers →
      Pds P cfg g ops base kr (fun j => j = i ∨ ls j) p y s (pd.filter fun q => q.1 ≠ i) → CAs y (hid (Hd (pd.filter fun q => q.1 ≠ i)) s.t) a'.tmps.toList → K a' y.w) : wpOpIn (FF ro) 0 P ops Q i K a x.w := by
  obtain ⟨h1, h2, h3, h4⟩ := hp.mem _ hq
  obtain ⟨k1, k2⟩ := kindOf_soft h3 h4
  have huse : ∀ n ∈ ao.use, ¬ Hd pd n := by
    rintro n hn ⟨q, hq', hd⟩
    by_cases he : q.1 = i
    · have := hp.one q hq' (i, ao) hq he
      subst this
      exact k2 n hd hn
    · exact not_hidden oo hcl hp hpo (hpo _ h1) h3 haft hq' he hd hn
  refine pend_run hs hx h3 (hp.good _ hq) ht huse fun y v u hy st hsy hR hu hv => ?_
  have hRb : ∀ b, b ≠ base + ao.k ∨ ao.op.cls ≠ .N → ¬ x.R b → ¬ y.R b := fun b hb hn h => hn ((hR b hb).1 h)
  refine hK y _ hy st hsy (fun b _ hnR hd => ⟨by rw [hy], hRb b ?_ hnR⟩) (put_defers _ _ _) ⟨fun j hj hn => ?_, fun q hq' => ?_, fun q hq' => ?_, fun q hq' => ?_, fun q hq' q' hq'' => ?_, fun q hq' q' hq'' => ?_⟩ ?_
  · by_cases hN : ao.op.cls = .N
    · left
      rintro rfl
      rcases kind_cases k1 with h | h | h
      · rw [hN] at h; cases h
      · rw [hN] at h; cases h
      · exact hd ⟨Nat.le_refl _, by rw [h.2.1]; omega⟩
    · exact .inr hN
  · simp only [not_or] at hn
    obtain ⟨ao', h⟩ := hp.all j hj hn.2
    exact ⟨ao', by simp [h, hn.1]⟩
  · simp only [List.mem_filter, decide_eq_true_eq] at hq'
    obtain ⟨m1, m2, m3, m4⟩ := hp.mem q hq'.1
    exact ⟨m1, fun h => h.elim hq'.2 m2, m3, m4⟩
  · simp only [List.mem_filter, decide_eq_true_eq] at hq'
    have hgood := hp.good q hq'.1
    unfold GOOD at hgood ⊢
    split at hgood
    · rename_i hg
      try simp only [hg]
      obtain ⟨w, w1, w2⟩ := hgood
      refine ⟨w, w1, ?_⟩
      rcases w2 with h | h | ⟨c1, blk, c2, c3, c4, c5⟩
      · exact .inl h
      · exact .inr (.inl h)
      · refine .inr (.inr ⟨c1, blk, c2, c3, hRb _ ?_ c4, by rw [hy]; exact c5⟩)
        by_cases hN : ao.op.cls = .N
        · left
          intro e
          exact hp.ids q hq'.1 (i, ao) hq hq'.2 c1 hN (by simp only; omega)
        · exact .inr hN
    · rename_i hg
      try simp only [hg]
      exact hgood
    · exact hgood.elim
  · simp only [List.mem_filter] at hq'
    exact hp.low q hq'.1
  · simp only [List.mem_filter] at hq' hq''
    exact hp.one q hq'.1 q' hq''.1
  · simp only [List.mem_filter] at hq' hq''
    exact hp.ids q hq'.1 q' hq''.1
  · have ht' := CAs_step st _ _ ht
    cases hd : ao.d with
    | none =>
      simp only [Act.put]
      refine hid_mono ht' rfl fun n hn => ⟨fun ⟨q, hq', he⟩ => hn ⟨q, ?_, he⟩, rfl⟩
      simp only [List.mem_filter, decide_eq_true_eq]
      refine ⟨hq', fun e => ?_⟩
      have := hp.one q hq' (i, ao) hq e
      subst this
      rw [hd] at he
      cases he
    | some d =>
      simp only [Act.put, Array.toList_setIfInBounds]
      refine hid_put ht' hu (fun v' hv' => hv d v' hd hv') fun n hn hnd ⟨q, hq', he⟩ => hn ⟨q, ?_, he⟩
      simp only [List.mem_filter, decide_eq_true_eq]
      refine ⟨hq', fun e => ?_⟩
      have := hp.one q hq' (i, ao) hq e
      subst this
      rw [hd] at he
      simp only [Option.some.injEq] at he
      exact hnd he.symm
end

end Go.Eng

/- The engine, part 22: regions in any order, the whole. -/
namespace Go.Eng

/-- What the abstract code has of an operation. -/
def OfOp (P : Program) (cfg : Cfg) (g : Nat) (ops : Array Oper) (i : Nat) (ao : AOper) : Prop :=
  ∃ o, ops[i]? = some o ∧ ao.op = (cOp P cfg g o).getD .bad ∧ ao.d = o.dst ∧ (match o.guard with | none => some none | some (j, b) => (dstOf ops j).map fun d => some (d, b)) = some ao.g

theorem OfOp.use {P : Program} {cfg : Cfg} {g : Nat} {ops : Array Oper} {i : Nat} {ao : AOper} (hf : OfOp P cfg g ops i ao) : dstOf ops i = ao.d ∧ useOf P cfg g ops i = ao.use ∧ aopOf P cfg g ops i = ao.op := by
  obtain ⟨o, ho, hc, hd, hg⟩ := hf
  have haop : aopOf P cfg g ops i = ao.op := by simp [aopOf, ho, hc]
  refine ⟨by simp [dstOf, ho, hd], ?_, haop⟩
  unfold useOf AOper.use
  rw [haop, ho]
  simp only [Option.bind_some]
  cases hgo : o.guard with
  | none => rw [hgo] at hg; simp only [Option.some.injEq] at hg; rw [← hg]
  | some q =>
    obtain ⟨j, b⟩ := q
    rw [hgo] at hg
    simp only [Option.map_eq_some_iff] at hg
    obtain ⟨d, h1, h2⟩ := hg
    rw [← h2]
    simp only [h1]

theorem OfOp.soft {P : Program} {cfg : Cfg} {g : Nat} {ops : Array Oper} {i : Nat} {ao : AOper} (hf : OfOp P cfg g ops i ao) (hk : kindOf P cfg g ops i ≠ .W) : FromOp P cfg g ops i ao := by
  obtain ⟨o, ho, hc, hd, hg⟩ := hf
  refine ⟨o, ho, ?_, hd, hg⟩
  cases hco : cOp P cfg g o with
  | some op => rw [hc, hco]; rfl
  | none =>
    exfalso
    have haop : aopOf P cfg g ops i = .bad := by simp [aopOf, ho, hco]
    apply hk
    unfold kindOf
    rw [haop]
    split
    · split <;> rfl
    · rfl

theorem FromOp.of {P : Program} {cfg : Cfg} {g : Nat} {ops : Array Oper} {i : Nat} {ao : AOper} (hf : FromOp P cfg g ops i ao) : OfOp P cfg g ops i ao := by
  obtain ⟨o, ho, hc, hd, hg⟩ := hf
  exact ⟨o, ho, by rw [hc]; rfl, hd, hg⟩

theorem cOpers_cons {P : Program} {cfg : Cfg} {g : Nat} {ops : Array Oper} {re : Nat → List (Option Nat × Option (Nat × Bool) × AOp)} {k i n : Nat} {is : List Nat} {l : List AOper} (h : cOpers P cfg g ops re k (i :: is) = some (n, l)) :
    ∃ ao l', l = ao :: l' ∧ OfOp P cfg g ops i ao ∧ ao.k = k ∧ ao.re = re i ∧ cOpers P cfg g ops re (k + ao.op.takes) is = some (n, l') := by
  simp only [cOpers, Option.bind_eq_some_iff, Option.map_eq_some_iff, Option.some.injEq] at h
  obtain ⟨o, ho, op, rfl, gd, hgd, ⟨n', l'⟩, hrec, e⟩ := h
  simp only [Prod.mk.injEq] at e
  obtain ⟨rfl, rfl⟩ := e
  exact ⟨_, l', rfl, ⟨o, ho, rfl, rfl, hgd⟩, rfl, rfl, hrec⟩

/-- What holds still, where memory is read anew. -/
theorem GOOD.keep2 {base : Nat} {x x1 : Cx} {s s1 : St} {ao : AOper} (h : GOOD base x s ao) {d : Option Nat} {v : AV} (ht : s1.t = setD s.t d v) (huse : ∀ n, d = some n → n ∉ ao.use) (hd : ∀ n, d = some n → ao.d ≠ some n)
    (hr : ∀ v', guardOf s.t ao.g = some true → ao.op.cls = .R → evalR s.t s.h ao.op = some v' → (∀ d v'', ao.d = some d → s.t[d]? = some v'' → v'' = v') → ∃ v2, evalR s.t s1.h ao.op = some v2 ∧ ∀ d v'', ao.d = some d → s.t[d]? = some v'' → v'' = v2)
    (hget : ∀ b blk, s.h.get b = some blk → ¬ x.R b → b < x.h.next → s1.h.get b = some blk ∧ ¬ x1.R b ∧ b < x1.h.next) : GOOD base x1 s1 ao := by
  have hag := use_split (setD_agree (t := s.t) (v := v) huse)
  rw [← ht] at hag
  have hgc := guard_congr (g := ao.g) hag.2
  have hdd : ∀ (q : AV) (d' : Nat) (v' : AV), ao.d = some d' → (∀ v'', s.t[d']? = some v'' → v'' = q) → s1.t[d']? = some v' → v' = q := fun q d' v' e hq hv => by
    refine hq v' ?_
    rw [ht] at hv
    cases d with
    | none => exact hv
    | some m =>
      have : d' ≠ m := fun e2 => hd m rfl (by rw [e, e2])
      rw [setD, getElem_set, if_neg this] at hv
      exact hv
  unfold GOOD at h ⊢
  rw [hgc]
  split at h
  · rename_i hg
    try simp only [hg]
    obtain ⟨q, h1, h2⟩ := h
    rcases h2 with ⟨h2, h3⟩ | ⟨h2, h3⟩ | ⟨h2, blk, h3, h4, h5, h6⟩
    · exact ⟨q, fun d' v' e hv => hdd q d' v' e (fun v'' hv'' => h1 d' v'' e hv'') hv, .inl ⟨h2, (evalP_congr hag.1).trans h3⟩⟩
    · obtain ⟨v2, g1, g2⟩ := hr q hg h2 h3 h1
      exact ⟨v2, fun d' v' e hv => hdd v2 d' v' e (fun v'' hv'' => g2 d' v'' e hv'') hv, .inr (.inl ⟨h2, (evalR_congr hag.1).trans g1⟩)⟩
    · obtain ⟨g1, g2, g3⟩ := hget _ _ h4 h5 h6
      exact ⟨q, fun d' v' e hv => hdd q d' v' e (fun v'' hv'' => h1 d' v'' e hv'') hv, .inr (.inr ⟨h2, blk, (evalN_congr hag.1).trans h3, g1, g2, g3⟩)⟩
  · rename_i hg
    try simp only [hg]
    exact fun d' v' e hv => hdd .undef d' v' e (fun v'' hv'' => h d' v'' e hv'') hv
  · exact h.elim

theorem hid_setD {D : Nat → Prop} {t : List AV} {d : Option Nat} {v : AV} (h : ∀ n, d = some n → ¬ D n) : hid D (setD t d v) = setD (hid D t) d v := by
  cases d with
  | none => rfl
  | some m =>
    apply List.ext_getElem?
    intro n
    simp only [setD]
    rw [hid_get, getElem_set, getElem_set, hid_get]
    by_cases hn : n = m
    · subst hn
      rw [if_pos rfl, if_pos rfl]
      cases t[n]? with
      | none => rfl
      | some w => simp [h n rfl]
    · rw [if_neg hn, if_neg hn]

/-- The abstract state in the midst of a region whose order is not fixed: p has been run, r is still to run. -/
structure Mid (P : Program) (cfg : Cfg) (g : Nat) (ops : Array Oper) (re : Nat → List (Option Nat × Option (Nat × Bool) × AOp)) (rec : Rec) (base n : Nat) (m : Nat → Prop) (ro : Option Nat) (sE : St) (ls : Nat → Prop) (p r : List Nat)
    (kr : Nat) (l : List AOper) (pd : List (Nat × AOper)) (s : St) (x : Cx) (a : Act) : Prop where
  co : cOpers P cfg g ops re kr r = some (n, l)
  ex : execs rec base l s = some sE
  sim : Sim P cfg x
  h : s.h = x.h
  t : CAs x (hid (Hd pd) s.t) a.tmps.toList
  d : DOk m x s.d a.defers
  rd : s.rd = ro.isSome
  pds : Pds P cfg g ops base kr ls p x s pd
  res : ∀ b, base + kr ≤ b → b < base + n → b < x.h.next ∧ ¬ x.R b ∧ x.h.get b = none

/-- The numbers of a region. -/
def Rg (base n : Nat) (b : Nat) : Prop := base ≤ b ∧ b < base + n

section
variable {P : Program} {cfg : Cfg} {g : Nat} {ops : Array Oper} {ord : List Nat} {R : Nat → List Nat} (oo : OrdOk P cfg g ops ord R)
  {re : Nat → List (Option Nat × Option (Nat × Bool) × AOp)} {rec : Rec} {base n : Nat} {m : Nat → Prop} {ro : Option Nat} {sE : St} {ls : Nat → Prop}
include oo

/-- One that stands ahead: what the check says. -/
theorem pair_ahead {p : List Nat} {i : Nat} {q : List Nat} (hord : ord = p ++ i :: q) {ao : AOper} (hf : OfOp P cfg g ops i ao) {j : Nat} (hj : j ∈ p) {aj : AOper} (hfj : OfOp P cfg g ops j aj) (hR : kindOf P cfg g ops i ≠ .W ∨ j ∉ R i) :
    (∀ d, ao.d = some d → d ∉ aj.use ∧ aj.d ≠ some d) := by
  have hpair := oo.pair p i q hord j hj
  obtain ⟨e1, e2, _⟩ := hf.use
  obtain ⟨e3, e4, _⟩ := hfj.use
  simp only [pairOk, Bool.and_eq_true, Bool.or_eq_true] at hpair
  intro d hd
  rcases hpair.1 with h | h
  · rw [e1, hd, e4, e3] at h
    simp only [Bool.and_eq_true, Bool.not_eq_true', List.contains_eq_mem, decide_eq_false_iff_not, bne_iff_ne, ne_eq] at h
    exact h
  · simp only [beq_iff_eq, List.contains_eq_mem, decide_eq_true_eq] at h
    rcases hR with hR | hR
    · exact absurd h.1 hR
    · exact absurd h.2 hR

/-- **One that does not write is run ahead.** -/
theorem mid_ahead {p r : List Nat} {i kr : Nat} {l : List AOper} {pd : List (Nat × AOper)} {s : St} {x : Cx} {a : Act} (hm : Mid P cfg g ops re rec base n m ro sE ls p (i :: r) kr l pd s x a) (hord : ord = p ++ i :: r)
    (hsoft : kindOf P cfg g ops i ≠ .W) (hnl : ¬ ls i) :
    ∃ kr1 l1 pd1 s1 x1, Mid P cfg g ops re rec base n m ro sE ls (p ++ [i]) r kr1 l1 pd1 s1 x1 a ∧ x1.w = x.w ∧ Step x x1 ∧ Keeps (Rg base n) x x1 := by
  obtain ⟨ao, l', rfl, hf, hk, hre, hco⟩ := cOpers_cons hm.co
  have hex := hm.ex
  simp only [execs, Option.bind_eq_some_iff] at hex
  obtain ⟨s1, he1, he2⟩ := hex
  have hfr := hf.soft hsoft
  obtain ⟨k1, k2⟩ := kindOf_soft hfr hsoft
  have hle := cOpers_le hco
  have hip : i ∉ p := oo.nodup p i r hord
  obtain ⟨x1, w1, h1, R1, β1, nx, st, sm, ⟨v, t1⟩, d1, rd1, gd, g1, g2, g3⟩ := ahead hm.sim hm.h k1 k2 (fun b hb1 hb2 => hm.res b (by omega) (by omega)) (fun v bs h => evalN_one h) he1
  refine ⟨kr + ao.op.takes, l', (i, ao) :: pd, s1, x1, ⟨hco, he2, sm, h1.symm, ?_, ?_, rd1.trans hm.rd, ⟨?_, ?_, ?_, ?_, ?_, ?_⟩, ?_⟩, w1, st, ?_⟩
  · refine hid_mono (CAs_step st _ _ hm.t) (by rw [t1]; cases ao.d <;> simp [setD]) fun j hj => ⟨fun ⟨q, hq, hd⟩ => hj ⟨q, by simp [hq], hd⟩, ?_⟩
    rw [t1]
    cases hd : ao.d with
    | none => rfl
    | some d =>
      rw [setD, getElem_set, if_neg]
      rintro rfl
      exact hj ⟨(i, ao), by simp, hd⟩
  · rw [d1]; exact hm.d.step hm.sim st
  · intro j hj hn
    rcases List.mem_append.1 hj with h | h
    · obtain ⟨ao', h'⟩ := hm.pds.all j h hn
      exact ⟨ao', by simp [h']⟩
    · simp only [List.mem_singleton] at h
      subst h
      exact ⟨ao, by simp⟩
  · intro q hq
    rcases List.mem_cons.1 hq with rfl | hq
    · exact ⟨by simp, hnl, hfr, hsoft⟩
    · obtain ⟨q1, q2, q3, q4⟩ := hm.pds.mem q hq
      exact ⟨by simp [q1], q2, q3, q4⟩
  · intro q hq
    rcases List.mem_cons.1 hq with rfl | hq
    · exact gd
    · obtain ⟨q1, q2, q3, q4⟩ := hm.pds.mem q hq
      have hpa := pair_ahead oo hord hf q1 q3.of (.inl hsoft)
      exact (hm.pds.good q hq).keep t1 (fun d hd => (hpa d hd).1) (fun d hd => (hpa d hd).2) (fun v' _ h => g3 _ _ h) fun b blk hb hR hlt => ⟨g2 b blk hb, by rw [R1]; exact hR, by rw [nx]; exact hlt⟩
  · intro q hq
    rcases List.mem_cons.1 hq with rfl | hq
    · simp only; omega
    · have := hm.pds.low q hq
      omega
  · intro q hq q' hq' he
    rcases List.mem_cons.1 hq with rfl | hq <;> rcases List.mem_cons.1 hq' with rfl | hq'
    · rfl
    · exact absurd (hm.pds.mem q' hq').1 (by rw [← he]; exact hip)
    · exact absurd (hm.pds.mem q hq).1 (by rw [he]; exact hip)
    · exact hm.pds.one q hq q' hq' he
  · intro q hq q' hq' hne c1 c2
    have tk : ∀ q ∈ pd, q.2.op.cls = .N → q.2.k < kr := fun q hq hc => by
      obtain ⟨q1, q2, q3, q4⟩ := hm.pds.mem q hq
      have := hm.pds.low q hq
      rcases kind_cases (kindOf_soft q3 q4).1 with h | h | h
      · rw [hc] at h; cases h
      · rw [hc] at h; cases h
      · rw [h.2.1] at this; omega
    rcases List.mem_cons.1 hq with rfl | hq <;> rcases List.mem_cons.1 hq' with rfl | hq'
    · exact absurd rfl hne
    · have := tk q' hq' c2; simp only; omega
    · have := tk q hq c1; simp only; omega
    · exact hm.pds.ids q hq q' hq' hne c1 c2
  · intro b hb1 hb2
    obtain ⟨r1, r2, r3⟩ := hm.res b (by omega) hb2
    refine ⟨by rw [nx]; exact r1, by rw [R1]; exact r2, ?_⟩
    rw [h1, g1 b (by omega), hm.h]
    exact r3
  · intro b hb hR hD
    refine ⟨?_, by rw [R1]; exact hR⟩
    rw [h1, g1 b (fun hh => hD ⟨by omega, by omega⟩), hm.h]

/-- Many are run ahead. -/
theorem mid_aheads : ∀ (q : List Nat) {p r : List Nat} {kr : Nat} {l : List AOper} {pd : List (Nat × AOper)} {s : St} {x : Cx} {a : Act}, Mid P cfg g ops re rec base n m ro sE ls p (q ++ r) kr l pd s x a → ord = p ++ (q ++ r) →
    (∀ i ∈ q, kindOf P cfg g ops i ≠ .W ∧ ¬ ls i) → ∃ kr1 l1 pd1 s1 x1, Mid P cfg g ops re rec base n m ro sE ls (p ++ q) r kr1 l1 pd1 s1 x1 a ∧ x1.w = x.w ∧ Step x x1 ∧ Keeps (Rg base n) x x1
  | [], p, r, kr, l, pd, s, x, a, hm, _, _ => ⟨kr, l, pd, s, x, by simpa using hm, rfl, Step.refl x, Keeps.refl _ x⟩
  | i :: q, p, r, kr, l, pd, s, x, a, hm, hord, hq => by
    obtain ⟨kr1, l1, pd1, s1, x1, m1, w1, st1, k1⟩ := mid_ahead oo hm hord (hq i (by simp)).1 (hq i (by simp)).2
    obtain ⟨kr2, l2, pd2, s2, x2, m2, w2, st2, k2⟩ := mid_aheads q m1 (by rw [hord]; simp) (fun j hj => hq j (by simp [hj]))
    exact ⟨kr2, l2, pd2, s2, x2, by simpa using m2, w2.trans w1, st1.trans st2, k1.trans st1.next k2⟩

end

end Go.Eng

/- The engine, part 23: regions in any order: the walk. -/
namespace Go.Eng

/-- What is read again behind one that writes. -/
def ReOk (P : Program) (cfg : Cfg) (g : Nat) (ops : Array Oper) (ord : List Nat) (R : Nat → List Nat) (re : Nat → List (Option Nat × Option (Nat × Bool) × AOp)) : Prop :=
  ∀ p i q, ord = p ++ i :: q → (aopOf P cfg g ops i).kind = .W → (∀ keep f as, aopOf P cfg g ops i ≠ .call (.iso keep) f as) → ∀ j ∈ p, kindOf P cfg g ops j = .R → j ∉ R i → ∀ aj, FromOp P cfg g ops j aj → (aj.d, aj.g, aj.op) ∈ re i

theorem kindOf_eq {P : Program} {cfg : Cfg} {g : Nat} {ops : Array Oper} {i : Nat} (h : kindOf P cfg g ops i ≠ .W) : kindOf P cfg g ops i = (aopOf P cfg g ops i).kind := by
  unfold kindOf at h ⊢
  split
  · split
    · rename_i h1 h2
      exfalso
      apply h
      rw [h1]
      simp only
      rw [if_pos h2]
    · rfl
  · rfl

theorem kind_of_cls {op : AOp} (h : op.cls = .R) : op.kind = .R := by cases op <;> simp_all [AOp.cls, AOp.kind] <;> (rename_i m _ _; cases m <;> simp_all [AOp.cls])

/-- A call by itself adds blocks alone. -/
theorem opV_iso {rec : Rec} {base : Nat} {ao : AOper} {s : St} {keep : List Nat} {f : X} {as : List X} (e : ao.op = .call (.iso keep) f as) {v : AV} {h' : AH} {d' : List (AV × List AV)} (hv : opV rec base ao s = some (v, h', d')) :
    ∃ bs, h' = addAll s.h (base + ao.k) bs ∧ bs.length ≤ keep.length := by
  unfold opV at hv
  rw [e] at hv
  simp only [Option.bind_eq_some_iff, Option.map_eq_some_iff, Prod.mk.injEq] at hv
  obtain ⟨⟨c, first, cap⟩, _, ⟨v0, bs⟩, hi, _, rfl, _⟩ := hv
  simp only [isoCall, Option.bind_eq_some_iff] at hi
  obtain ⟨as', _, ⟨v1, h1⟩, _, r, _, h3⟩ := hi
  split at h3
  · rename_i hle
    simp only [Option.some.injEq] at h3
    subst h3
    exact ⟨bs, rfl, hle⟩
  · cases h3

section
variable {P : Program} {cfg : Cfg} {g : Nat} {ops : Array Oper} {ord : List Nat} {R : Nat → List Nat} (oo : OrdOk P cfg g ops ord R)
  {re : Nat → List (Option Nat × Option (Nat × Bool) × AOp)} {rec : Rec} {base n : Nat} {m : Nat → Prop} {ro : Option Nat} {sE : St} {ls : Nat → Prop} (hcl : ∀ i, ls i → ∀ e ∈ aftersOf ops i, ls e)
include oo hcl

/-- One that has waited is carried out. -/
theorem mid_pend {p r : List Nat} {i kr : Nat} {l : List AOper} {pd : List (Nat × AOper)} {s : St} {x : Cx} {a : Act} (hm : Mid P cfg g ops re rec base n m ro sE ls p r kr l pd s x a) (hord : ord = p ++ r)
    (hi : i ∈ p) (hnl : ¬ ls i) (haft : ∀ e ∈ aftersOf ops i, ls e) {Q : Exit → Act → World → Prop} {K : Act → World → Prop}
    (hK : ∀ (pd' : List (Nat × AOper)) (y : Cx) (a' : Act), Mid P cfg g ops re rec base n m ro sE (fun j => j = i ∨ ls j) p r kr l pd' s y a' → Step x y → Keeps (Rg base n) x y → K a' y.w) : wpOpIn (FF ro) 0 P ops Q i K a x.w := by
  obtain ⟨ao, hq⟩ := hm.pds.all i hi hnl
  have hlow := hm.pds.low _ hq
  have hle := cOpers_le hm.co
  refine pds_run oo hcl hm.sim hm.h hm.pds (fun j hj => by rw [hord]; simp [hj]) hm.t hq haft fun y a' hy st hsy hk hd hp ht => ?_
  refine hK _ y a' ⟨hm.co, hm.ex, hsy, hm.h.trans hy.symm, ht, by rw [hd]; exact hm.d.step hm.sim st, hm.rd, hp, fun b b1 b2 => ?_⟩ st (hk.mono fun b _ hb => ⟨by omega, by simp only at hlow; omega⟩)
  obtain ⟨r1, r2, r3⟩ := hm.res b b1 b2
  obtain ⟨k1, k2⟩ := hk b r1 r2 (fun h => by simp only at hlow; omega)
  exact ⟨by rw [hy]; exact r1, k2, by rw [hy]; exact r3⟩

/-- **One that writes.** -/
theorem mid_hard (rk : RecOk P cfg rec) (hre : ReOk P cfg g ops ord R re) {p r : List Nat} {i kr : Nat} {l : List AOper} {pd : List (Nat × AOper)} {s : St} {x : Cx} {a : Act} (hm : Mid P cfg g ops re rec base n m ro sE ls p (i :: r) kr l pd s x a) (hord : ord = p ++ i :: r)
    (haft : ∀ e ∈ aftersOf ops i, ls e) {Q : Exit → Act → World → Prop} {K : Act → World → Prop}
    (hK : ∀ (kr1 : Nat) (l1 : List AOper) (pd1 : List (Nat × AOper)) (s1 : St) (y : Cx) (a' : Act), Mid P cfg g ops re rec base n m ro sE (fun j => j = i ∨ ls j) (p ++ [i]) r kr1 l1 pd1 s1 y a' → Step x y → Keeps (Rg base n) x y → K a' y.w) : wpOpIn (FF ro) 0 P ops Q i K a x.w := by
  obtain ⟨ao, l', rfl, hf, hk, hre', hco⟩ := cOpers_cons hm.co
  have hex := hm.ex
  simp only [execs, Option.bind_eq_some_iff] at hex
  obtain ⟨s1, he1, he2⟩ := hex
  have hle := cOpers_le hco
  have hip : i ∉ p := oo.nodup p i r hord
  have hRi : ∀ j ∈ p, ¬ ls j → j ∉ R i := fun j hj hn h => hn (oo.listed hcl p.length p i r (Nat.le_refl _) hord haft j h)
  have hpa : ∀ q ∈ pd, ∀ d, ao.d = some d → d ∉ q.2.use ∧ q.2.d ≠ some d := fun q hq => by
    obtain ⟨q1, q2, q3, _⟩ := hm.pds.mem q hq
    exact pair_ahead oo hord hf q1 q3.of (.inr (hRi _ q1 q2))
  have hlk : ∀ d ∈ ao.use, ¬ Hd pd d := by
    rintro d hd ⟨q, hq, hqd⟩
    obtain ⟨q1, q2, q3, q4⟩ := hm.pds.mem q hq
    have hpair := oo.pair p i r hord q.1 q1
    obtain ⟨e1, e2, _⟩ := hf.use
    obtain ⟨e3, e4, _⟩ := q3.of.use
    simp only [pairOk, Bool.and_eq_true, Bool.or_eq_true, List.contains_eq_mem, decide_eq_true_eq] at hpair
    rcases hpair.2 with h | h
    · exact hRi _ q1 q2 h
    · have := h.2
      rw [e3, hqd, e2] at this
      simp at this
      exact this hd
  have hag := use_split (hid_agree (t := s.t) hlk)
  have hgc := guard_congr (g := ao.g) hag.2
  have fin : ∀ (y : Cx) (u : Value) (v : AV) (s1 : St) (a' : Act), s1.h = y.h → s1.t = setD s.t ao.d v → s1.rd = s.rd → execs rec base l' s1 = some sE → Step x y → Sim P cfg y → Keeps (fun b => base + kr ≤ b ∧ b < base + kr + ao.op.takes) x y → CA y v u →
      a'.tmps = (a.put ao.d u).tmps → DOk m y s1.d a'.defers →
      (∀ q ∈ pd, ∀ v', guardOf s.t q.2.g = some true → q.2.op.cls = .R → evalR s.t s.h q.2.op = some v' → (∀ d v'', q.2.d = some d → s.t[d]? = some v'' → v'' = v') → ∃ v2, evalR s.t s1.h q.2.op = some v2 ∧ ∀ d v'', q.2.d = some d → s.t[d]? = some v'' → v'' = v2) → K a' y.w := by
    intro y u v s1 a' hy ht hrd hex st hsy hkp hu ha' hdk hrds
    refine hK (kr + ao.op.takes) l' pd s1 y a' ⟨hco, hex, hsy, hy, ?_, hdk, hrd.trans hm.rd, ⟨?_, ?_, ?_, ?_, hm.pds.one, hm.pds.ids⟩, ?_⟩ st (hkp.mono fun b _ hb => ⟨by omega, by omega⟩)
    · rw [ht, ha', hid_setD (fun d e ⟨q, hq, hd⟩ => (hpa q hq d e).2 hd)]
      exact put_tmps (CAs_step st _ _ hm.t) hu
    · intro j hj hn
      simp only [not_or] at hn
      rcases List.mem_append.1 hj with h | h
      · exact hm.pds.all j h hn.2
      · exact absurd (by simpa using h) hn.1
    · intro q hq
      obtain ⟨q1, q2, q3, q4⟩ := hm.pds.mem q hq
      exact ⟨by simp [q1], fun h => h.elim (fun e => hip (e ▸ q1)) q2, q3, q4⟩
    · intro q hq
      refine (hm.pds.good q hq).keep2 ht (fun d hd => (hpa q hq d hd).1) (fun d hd => (hpa q hq d hd).2) (hrds q hq) fun b blk hb hR hlt => ?_
      obtain ⟨k1, k2⟩ := hkp b hlt hR fun hh => by
        obtain ⟨_, _, r3⟩ := hm.res b hh.1 (by omega)
        rw [hm.h, r3] at hb
        cases hb
      exact ⟨by rw [hy, k1, ← hm.h]; exact hb, k2, Nat.lt_of_lt_of_le hlt st.next⟩
    · intro q hq
      have := hm.pds.low q hq
      omega
    · intro b b1 b2
      obtain ⟨r1, r2, r3⟩ := hm.res b (by omega) b2
      obtain ⟨k1, k2⟩ := hkp b r1 r2 (fun h => by omega)
      exact ⟨Nat.lt_of_lt_of_le r1 st.next, k2, by rw [k1]; exact r3⟩
  obtain ⟨o, ho, hc, hd, hgd⟩ := id hf
  unfold wpOpIn
  rw [ho]
  simp only
  simp only [exec1] at he1
  split at he1
  · rename_i hgt
    rw [if_pos (guard_ok hm.t hgd (hgc.trans hgt))]
    simp only [Option.bind_eq_some_iff] at he1
    obtain ⟨⟨v, h', d'⟩, hv, he1⟩ := he1
    split at he1
    case isFalse => cases he1
    rename_i hrall
    simp only [Option.some.injEq] at he1
    cases hco' : cOp P cfg g o with
    | none => exfalso; rw [bad_none (by rw [hc, hco']; rfl)] at hv; cases hv
    | some op' =>
      have hop : cOp P cfg g o = some ao.op := by rw [hco', hc, hco']; rfl
      refine op_ok (g := g) rk hm.sim hm.t (ao := ao) hop (s := { s with t := hid (Hd pd) s.t }) rfl hm.h hm.rd (fun b q1 q2 => hm.res b (by omega) (by omega)) ((opV_congr hag.1).trans hv) ?_
      intro y u ds hy st hsy hkp hu hdd
      have hs1 : s1 = { s with t := setD s.t ao.d v, h := h', d := d' } := he1.symm
      subst hs1
      refine fin y u v { s with t := setD s.t ao.d v, h := h', d := d' } _ hy.symm rfl rfl he2 st hsy (hkp.mono fun b _ hb => ⟨by omega, by omega⟩) hu ?_ ?_ ?_
      · rw [hd]; cases o.dst <;> rfl
      · rw [put_defers]; exact (hm.d.step hm.sim st).next hdd
      · intro q hq v' hg1 hcls hev hval
        obtain ⟨q1, q2, q3, q4⟩ := hm.pds.mem q hq
        by_cases hcall : ∃ keep f as, ao.op = .call (.iso keep) f as
        · obtain ⟨keep, f, as, e⟩ := hcall
          obtain ⟨bs, rfl, hbl⟩ := opV_iso e hv
          have htk : ao.op.takes = keep.length := by rw [e]; rfl
          exact ⟨v', evalR_addAll (fun b b1 b2 => by rw [hm.h]; exact (hm.res b (by omega) (by omega)).2.2) hev, hval⟩
        · by_cases hkind : ao.op.kind = .W
          · have hkR : kindOf P cfg g ops q.1 = .R := by
              rw [kindOf_eq q4, q3.of.use.2.2]
              exact kind_of_cls hcls
            have hmem := hre p i r hord (by rw [hf.use.2.2]; exact hkind) (fun keep f as h => hcall ⟨keep, f, as, by rw [← hf.use.2.2]; exact h⟩) q.1 q1 hkR (hRi _ q1 q2) q.2 q3
            rw [← hre'] at hmem
            have hrc := (List.all_eq_true.1 hrall) _ hmem
            have hagq := use_split (setD_agree (t := s.t) (v := v) fun d hd => (hpa q hq d hd).1)
            have hgq := guard_congr (g := q.2.g) hagq.2
            simp only [recheck, hgq, hg1] at hrc
            rw [evalR_congr hagq.1] at hrc
            split at hrc
            · rename_i v2 hv2
              refine ⟨v2, hv2, fun d v'' hqd hv'' => ?_⟩
              rw [hqd] at hrc
              simp only at hrc
              have e := eqAV_ok _ _ hrc
              have hne : ∀ e', ao.d = some e' → d ≠ e' := fun e' he' h => (hpa q hq e' he').2 (by rw [hqd, h])
              have : (setD s.t ao.d v).getD d (.iv .any) = v'' := by
                rw [List.getD_eq_getElem?_getD]
                cases hd' : ao.d with
                | none => simp [setD, hv'']
                | some e' => rw [setD, getElem_set, if_neg (hne e' hd'), hv'']; rfl
              rw [this] at e
              exact e.symm
            · cases hrc
          · obtain ⟨_, hcs⟩ := opV_soft hkind hv
            rcases hcs with ⟨_, _, rfl⟩ | ⟨_, _, rfl⟩ | ⟨_, htk, bs, hbs, rfl⟩
            · exact ⟨v', hev, hval⟩
            · exact ⟨v', hev, hval⟩
            · obtain ⟨blk, rfl⟩ := evalN_one hbs
              exact ⟨v', evalR_addAll (fun b b1 b2 => by rw [hm.h]; exact (hm.res b (by omega) (by simp at b2; omega)).2.2) hev, hval⟩
  · rename_i hgt
    rw [if_neg (by rw [guard_ok hm.t hgd (hgc.trans hgt)]; simp)]
    simp only [Option.some.injEq] at he1
    subst he1
    refine ⟨fun _ _ => trivial, ?_⟩
    refine fin x undef .undef { s with t := setD s.t ao.d .undef } _ hm.h rfl rfl he2 (Step.refl x) hm.sim (Keeps.refl _ x) (by simp only [CA]; exact ⟨#[], rfl, by simp [CAs]⟩) (by rw [hd]) (by rw [put_defers]; exact hm.d) fun q hq v' _ _ hev hval => ⟨v', hev, hval⟩
  · cases he1
end

/-- How many are still to be listed. -/
def todo (ord : List Nat) (listed : Array Bool) : Nat := (ord.filter fun i => !(listed.getD i true)).length

theorem todo_less {ord : List Nat} {listed : Array Bool} {i : Nat} (hi : i ∈ ord) (hl : i < listed.size) (hn : ¬ Ls listed i) : todo ord (listed.setIfInBounds i true) < todo ord listed := by
  unfold todo
  have hsub : ∀ j, (!((listed.setIfInBounds i true).getD j true)) = true → (!(listed.getD j true)) = true := fun j hj => by
    have h1 : ¬ Ls (listed.setIfInBounds i true) j := by unfold Ls; simpa using hj
    have h2 : ¬ Ls listed j := fun h => h1 ((Ls_set hl).2 (.inr h))
    unfold Ls at h2
    simpa using h2
  have key : ∀ l : List Nat, i ∈ l → (l.filter fun j => !((listed.setIfInBounds i true).getD j true)).length < (l.filter fun j => !(listed.getD j true)).length := by
    intro l
    induction l with
    | nil => intro h; cases h
    | cons j l ih =>
      intro h
      have hle : (l.filter fun j => !((listed.setIfInBounds i true).getD j true)).length ≤ (l.filter fun j => !(listed.getD j true)).length := by
        clear ih h
        induction l with
        | nil => simp
        | cons k l ih2 =>
          simp only [List.filter_cons]
          by_cases h1 : (!((listed.setIfInBounds i true).getD k true)) = true
          · rw [if_pos h1, if_pos (hsub k h1)]; simp only [List.length_cons]; omega
          · rw [if_neg h1]; split <;> (try simp only [List.length_cons]) <;> omega
      simp only [List.filter_cons]
      by_cases hji : j = i
      · subst hji
        have h1 : ¬ ((!((listed.setIfInBounds j true).getD j true)) = true) := by
          have : Ls (listed.setIfInBounds j true) j := (Ls_set hl).2 (.inl rfl)
          unfold Ls at this
          simp [this]
        have h2 : (!(listed.getD j true)) = true := by unfold Ls at hn; simpa using hn
        rw [if_neg h1, if_pos h2]
        simp only [List.length_cons]; omega
      · have hil : i ∈ l := by
          rcases List.mem_cons.1 h with h | h
          · exact absurd h.symm hji
          · exact h
        have := ih hil
        by_cases h1 : (!((listed.setIfInBounds i true).getD j true)) = true
        · rw [if_pos h1, if_pos (hsub j h1)]; simp only [List.length_cons]; omega
        · rw [if_neg h1]; split <;> (try simp only [List.length_cons]) <;> omega
  exact key ord hi

section
variable {P : Program} {cfg : Cfg} {g : Nat} {ops : Array Oper} {ord : List Nat} {R : Nat → List Nat} (oo : OrdOk P cfg g ops ord R)
include oo

/-- Nobody is ready: all are listed. -/
theorem all_listed {listed : Array Bool} (hsz : listed.size = ops.size) (hr : Region.ready .any ops listed = []) : ∀ (k : Nat) (p : List Nat) (i : Nat) (q : List Nat), p.length ≤ k → ord = p ++ i :: q → Ls listed i
  | k, p, i, q, hk, hord => by
    have hi := oo.lt i (by rw [hord]; simp)
    apply Classical.byContradiction
    intro hn
    have : i ∈ Region.ready .any ops listed := by
      refine ready_iff.2 ⟨hi, hn, fun e he => ?_⟩
      have hep := oo.aft p i q hord e he
      have helt := oo.lt e (by rw [hord]; simp [hep])
      obtain ⟨p1, p2, rfl⟩ := List.append_of_mem hep
      have hl : Ls listed e := by
        cases k with
        | zero => simp at hk
        | succ k =>
          refine all_listed hsz hr k p1 e (p2 ++ i :: q) ?_ (by rw [hord]; simp)
          simp at hk
          omega
      unfold Ls at hl
      have hes : e < listed.size := by omega
      simp only [Array.getD_eq_getD_getElem?, Array.getElem?_eq_getElem hes, Option.getD_some] at hl ⊢
      exact hl
    rw [hr] at this
    cases this

variable {re : Nat → List (Option Nat × Option (Nat × Bool) × AOp)} {rec : Rec} {base n : Nat} {m : Nat → Prop} {ro : Option Nat} {sE : St}

/-- **A region in any order.** -/
theorem any_ok (rk : RecOk P cfg rec) (hre : ReOk P cfg g ops ord R re) {Q : Exit → Act → World → Prop} : ∀ (fuel : Nat) (listed : Array Bool) {p r : List Nat} {kr : Nat} {l : List AOper} {pd : List (Nat × AOper)} {s : St} {x : Cx} {a : Act},
    ord = p ++ r → listed.size = ops.size → (∀ i, Ls listed i → ∀ e ∈ aftersOf ops i, Ls listed e) → (∀ i ∈ r, ¬ Ls listed i) → todo ord listed ≤ fuel → Mid P cfg g ops re rec base n m ro sE (Ls listed) p r kr l pd s x a →
    (∀ (y : Cx) (a' : Act), At P cfg m ro sE y a' → Step x y → Keeps (Rg base n) x y → Q .normal a' y.w) → wpAnyIn (FF ro) 0 P .any ops Q fuel listed a x.w := by
  have done : ∀ (listed : Array Bool) {p r : List Nat} {kr : Nat} {l : List AOper} {pd : List (Nat × AOper)} {s : St} {x : Cx} {a : Act}, ord = p ++ r → listed.size = ops.size → (∀ i ∈ r, ¬ Ls listed i) →
      Mid P cfg g ops re rec base n m ro sE (Ls listed) p r kr l pd s x a → (∀ i ∈ ord, Ls listed i) →
      (∀ (y : Cx) (a' : Act), At P cfg m ro sE y a' → Step x y → Keeps (Rg base n) x y → Q .normal a' y.w) → Q .normal a x.w := by
    intro listed p r kr l pd s x a hord hsz hun hm hall hQ
    have hr : r = [] := by
      cases r with
      | nil => rfl
      | cons i r => exact absurd (hall i (by rw [hord]; simp)) (hun i (by simp))
    subst hr
    have hco := hm.co
    simp only [cOpers, Option.some.injEq, Prod.mk.injEq] at hco
    obtain ⟨_, rfl⟩ := hco
    have hex := hm.ex
    simp only [execs, Option.some.injEq] at hex
    subst hex
    have hh : hid (Hd pd) s.t = s.t := hid_empty fun k ⟨q, hq, _⟩ => by
      obtain ⟨q1, q2, _⟩ := hm.pds.mem q hq
      exact q2 (hall _ (by rw [hord]; simp [q1]))
    exact hQ x a ⟨hm.sim, hm.h, by rw [← hh]; exact hm.t, hm.d, hm.rd⟩ (Step.refl x) (Keeps.refl _ x)
  intro fuel
  induction fuel with
  | zero =>
    intro listed p r kr l pd s x a hord hsz hcl hun htd hm hQ
    have hall : ∀ i ∈ ord, Ls listed i := fun i hi => by
      apply Classical.byContradiction
      intro hn
      unfold todo at htd
      have : i ∈ ord.filter fun i => !(listed.getD i true) := by
        refine List.mem_filter.2 ⟨hi, ?_⟩
        unfold Ls at hn
        simpa using hn
      rw [List.length_eq_zero_iff.1 (Nat.le_zero.1 htd)] at this
      cases this
    refine ⟨?_, done listed hord hsz hun hm hall hQ⟩
    cases hrd : Region.ready .any ops listed with
    | nil => rfl
    | cons i is =>
      have : i ∈ Region.ready .any ops listed := by rw [hrd]; simp
      obtain ⟨h1, h2, _⟩ := ready_iff.1 this
      exact absurd (hall i (oo.all i h1)) h2
  | succ fuel ih =>
    intro listed p r kr l pd s x a hord hsz hcl hun htd hm hQ
    refine ⟨fun hrd => done listed hord hsz hun hm (fun i hi => ?_) hQ, fun i hi => ?_⟩
    · obtain ⟨p1, q1, h⟩ := List.append_of_mem hi
      exact all_listed oo hsz hrd p1.length p1 i q1 (Nat.le_refl _) h
    · obtain ⟨h1, h2, h3⟩ := ready_iff.1 hi
      have hil : i < listed.size := by omega
      have haft : ∀ e ∈ aftersOf ops i, Ls listed e := fun e he => by
        have := h3 e he
        unfold Ls
        by_cases hes : e < listed.size
        · simp only [Array.getD_eq_getD_getElem?, Array.getElem?_eq_getElem hes, Option.getD_some] at this ⊢
          exact this
        · simp only [Array.getD_eq_getD_getElem?, Array.getElem?_eq_none (Nat.le_of_not_lt hes), Option.getD_none] at this
          cases this
      have hls : (fun j => j = i ∨ Ls listed j) = Ls (listed.setIfInBounds i true) := by
        funext j
        exact propext (Ls_set hil).symm
      have hcl' : ∀ j, Ls (listed.setIfInBounds i true) j → ∀ e ∈ aftersOf ops j, Ls (listed.setIfInBounds i true) e := fun j hj e he => by
        rw [Ls_set hil] at hj ⊢
        rcases hj with rfl | hj
        · exact .inr (haft e he)
        · exact .inr (hcl j hj e he)
      have htd' : todo ord (listed.setIfInBounds i true) ≤ fuel := by
        have := todo_less (oo.all i h1) hil h2
        omega
      have hio := oo.all i h1
      -- one that stands in p
      have inP : ∀ {p r : List Nat} {kr : Nat} {l : List AOper} {pd : List (Nat × AOper)} {s : St} {x' : Cx}, ord = p ++ r → (∀ i ∈ r, ¬ Ls listed i) → i ∈ p → Mid P cfg g ops re rec base n m ro sE (Ls listed) p r kr l pd s x' a →
          x'.w = x.w → Step x x' → Keeps (Rg base n) x x' → wpOpIn (FF ro) 0 P ops Q i (wpAnyIn (FF ro) 0 P .any ops Q fuel (listed.setIfInBounds i true)) a x.w := by
        intro p r kr l pd s x' hord hun hip hm' hw st hk
        rw [← hw]
        refine mid_pend oo hcl hm' hord hip h2 haft fun pd' y a' hmy st' hk' => ?_
        rw [hls] at hmy
        refine ih _ hord (by simpa using hsz) hcl' (fun j hj => ?_) htd' hmy fun z a'' hz st2 hk2 => hQ z a'' hz ((st.trans st').trans st2) ((hk.trans st.next hk').trans (Nat.le_trans st.next st'.next) hk2)
        rw [Ls_set hil]
        rintro (rfl | h)
        · obtain ⟨q1, q2, rfl⟩ := List.append_of_mem hj
          exact oo.nodup (p ++ q1) j q2 (by rw [hord]; simp) (by simp [hip])
        · exact hun j hj h
      rw [hord] at hio
      rcases List.mem_append.1 hio with hip | hir
      · exact inP hord hun hip hm rfl (Step.refl x) (Keeps.refl _ x)
      · obtain ⟨q1, q2, rfl⟩ := List.append_of_mem hir
        have hRi : ∀ j ∈ p ++ q1, ¬ Ls listed j → j ∉ R i := fun j hj hn h => hn (oo.listed hcl (p ++ q1).length (p ++ q1) i q2 (Nat.le_refl _) (by rw [hord]; simp) haft j h)
        have hsoft : ∀ j ∈ q1, kindOf P cfg g ops j ≠ .W ∧ ¬ Ls listed j := fun j hj => by
          have hn := hun j (by simp [hj])
          refine ⟨fun hW => ?_, hn⟩
          have hpair := oo.pair (p ++ q1) i q2 (by rw [hord]; simp) j (by simp [hj])
          simp only [pairOk, Bool.and_eq_true, Bool.or_eq_true, List.contains_eq_mem, decide_eq_true_eq] at hpair
          rcases hpair.2 with h | h
          · exact hRi j (by simp [hj]) hn h
          · rw [hW] at h; simp at h
        obtain ⟨kr1, l1, pd1, s1, x1, m1, w1, st1, k1⟩ := mid_aheads oo q1 hm hord hsoft
        have hord1 : ord = (p ++ q1) ++ (i :: q2) := by rw [hord]; simp
        by_cases hW : kindOf P cfg g ops i = .W
        · rw [← w1]
          refine mid_hard oo hcl rk hre m1 hord1 haft fun kr2 l2 pd2 s2 y a' hmy st' hk' => ?_
          rw [hls] at hmy
          refine ih _ (p := p ++ q1 ++ [i]) (r := q2) (by rw [hord]; simp) (by simpa using hsz) hcl' (fun j hj => ?_) htd' hmy fun z a'' hz st2 hk2 => hQ z a'' hz ((st1.trans st').trans st2) ((k1.trans st1.next hk').trans (Nat.le_trans st1.next st'.next) hk2)
          rw [Ls_set hil]
          rintro (rfl | h)
          · obtain ⟨q3, q4, rfl⟩ := List.append_of_mem hj
            exact oo.nodup (p ++ q1 ++ j :: q3) j q4 (by rw [hord]; simp) (by simp)
          · exact hun j (by simp [hj]) h
        · obtain ⟨kr2, l2, pd2, s2, x2, m2, w2, st2, k2⟩ := mid_ahead oo m1 hord1 hW h2
          exact inP (by rw [hord]; simp) (fun j hj => hun j (by simp [hj])) (by simp) m2 (w2.trans w1) (st1.trans st2) (k1.trans st1.next k2)
end

end Go.Eng
