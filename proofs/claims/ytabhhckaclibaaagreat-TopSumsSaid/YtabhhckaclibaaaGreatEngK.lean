/- The engine, part 25: code. -/
import Derived.Test.YtabhhckaclibaaaGreatEngJ
set_option linter.all false
namespace Go.Eng
open Go

def exOf : Ex → Exit
  | .nrm => .normal
  | .exit id => .exit id
  | .goto l => .goto l
  | .ret => .ret

/-- Marks may be laid, or there are none. -/
def May (m : Nat → Prop) (w : World) (ac : ACode) : Prop := noRng ac = true ∨ ∀ r, w.heap.size ≤ r → m r

theorem May.step {m : Nat → Prop} {x y : Cx} {ac : ACode} (h : May m x.w ac) (st : Step x y) : May m y.w ac := h.imp (fun h => h) fun h r hr => h r (Nat.le_trans st.size hr)
theorem May.seq {m : Nat → Prop} {w : World} {a b : ACode} (h : May m w (.seq a b)) : May m w a ∧ May m w b := by
  rcases h with h | h
  · simp only [noRng, Bool.and_eq_true] at h; exact ⟨.inl h.1, .inl h.2⟩
  · exact ⟨.inr h, .inr h⟩
theorem May.cond {m : Nat → Prop} {w : World} {c : X} {a b : ACode} (h : May m w (.cond c a b)) : May m w a ∧ May m w b := by
  rcases h with h | h
  · simp only [noRng, Bool.and_eq_true] at h; exact ⟨.inl h.1, .inl h.2⟩
  · exact ⟨.inr h, .inr h⟩
theorem May.scope {m : Nat → Prop} {w : World} {l : Nat} {a b : ACode} (h : May m w (.scope a l b)) : May m w a ∧ May m w b := by
  rcases h with h | h
  · simp only [noRng, Bool.and_eq_true] at h; exact ⟨.inl h.1, .inl h.2⟩
  · exact ⟨.inr h, .inr h⟩
theorem May.blk {m : Nat → Prop} {w : World} {i : Nat} {a : ACode} (h : May m w (.blk i a)) : May m w a := h.imp (fun h => by simpa only [noRng] using h) fun h => h
theorem May.loop {m : Nat → Prop} {w : World} {a : ACode} (h : May m w (.loop a)) : May m w a := h.imp (fun h => by simpa only [noRng] using h) fun h => h

/-- Code does what the evaluator says. -/
def CodeOk (P : Program) (cfg : Cfg) (rec : Rec) (fuel : Nat) (c : Code) (ac : ACode) : Prop :=
  ∀ {m : Nat → Prop} {ro : Option Nat} {s : St} {e : Ex} {s' : St} {x : Cx} {a : Act}, At P cfg m ro s x a → May m x.w ac → run rec fuel ac s = some (e, s') → ∀ {Q : Exit → Act → World → Prop},
    (∀ (y : Cx) (a' : Act), At P cfg m ro s' y a' → Step x y → Keeps (fun _ => False) x y → Q (exOf e) a' y.w) → c.wpIn (FF ro) 0 P Q a x.w

theorem DefOk.target {y : Cx} {p : AV × List AV} {D : Deferred} (h : DefOk y p D) (r : Nat) : D.target ≠ .collected r := by
  obtain ⟨u, us, _, _, h3⟩ := h
  have := h3 default y.w
  intro e
  cases u <;> simp [Deferred.ofValue, stuck, Sem.run] at this
  all_goals (subst this; cases e)

theorem DOk.lt {m : Nat → Prop} {x : Cx} {d : List (AV × List AV)} {ds : List Deferred} (h : DOk m x d ds) {r : Nat} : ∀ D ∈ ds, D.target = .collected r → r < x.w.heap.size := by
  induction h with
  | nil => intro D h; cases h
  | call h1 _ ih =>
    intro D hD e
    rcases List.mem_cons.1 hD with rfl | hD
    · exact absurd e (h1.target r)
    · exact ih D hD e
  | mark h1 h2 h3 _ ih =>
    intro D hD e
    rcases List.mem_cons.1 hD with rfl | hD
    · simp only [Target.collected.injEq] at e
      subst e
      exact (Array.getElem?_eq_some_iff.1 h2).1
    · exact ih D hD e

/-- A block is laid that nobody owns. -/
theorem grow_sim {P : Program} {cfg : Cfg} {x : Cx} (hs : Sim P cfg x) {w' : World} {obj : Obj} (hl : Laid x.w w' obj) (n : Nat) : Step x { x with w := w', h := x.h.bump n } ∧ Sim P cfg { x with w := w', h := x.h.bump n } := by
  have hget : ∀ k, k < x.w.heap.size → w'.heap[k]? = x.w.heap[k]? := fun k hk => by rw [hl.get, if_neg (by omega)]
  have st : Step x { x with w := w', h := x.h.bump n } := ⟨rfl, by simp only [hl.size]; omega, fun k hk _ => hget k hk, fun k c T fr h => ⟨c, fr, by
    show w'.heap[k]? = _
    rw [hget k (Array.getElem?_eq_some_iff.1 h).1]; exact h, rfl⟩, hl.os, hl.tape, hl.out, by simp [AH.bump], fun i hi => ⟨hi, rfl⟩, fun k h => .inl h⟩
  refine ⟨st, ⟨fun i hi => Nat.lt_of_lt_of_le (hs.lt i hi) (by simp [AH.bump]), fun i hi => Nat.lt_of_lt_of_le (hs.rlt i hi) (by simp [AH.bump]), hs.nr, fun i blk hi hR => (hs.ok i blk hi hR).step st rfl fun k off hβ => ?_, hs.inj, fun k hk => ?_, fun k hk => ?_⟩⟩
  · exact hget k (hs.own k ⟨i, off, by
      have : x.h.get i = some blk := hi
      simp [this], hβ⟩).1
  · have := hs.own k hk
    exact ⟨by show k < w'.heap.size; rw [hl.size]; omega, this.2⟩
  · have := hs.fr k hk
    show k < w'.heap.size
    rw [hl.size]; omega

/-- A loop's record is given up. -/
theorem drop_loop {P : Program} {cfg : Cfg} {x : Cx} (hs : Sim P cfg x) {b k off : Nat} {L : Loop} (hb : (x.h.get b).isSome = true) (hR : x.R b) (hβ : x.β b = some (k, off)) (hL : x.w.heap[k]? = some (.loop L)) (o : Obj) :
    Step x { x with w := x.w.putObj k o, h := x.h.del b } ∧ Sim P cfg { x with w := x.w.putObj k o, h := x.h.del b } ∧ ∀ D, Keeps D x { x with w := x.w.putObj k o, h := x.h.del b } := by
  have hw : Wrote x.w (x.w.putObj k o) k := ⟨by simp, fun j hj => World.putObj_heap_other hj, fun c T fr h => (by rw [hL] at h; cases h), rfl, rfl, rfl⟩
  have hsome : ∀ i, ((x.h.del b).get i).isSome = true → (x.h.get i).isSome = true ∧ i ≠ b := fun i h => by
    rw [AH.get_del] at h
    split at h
    · simp at h
    · rename_i e; exact ⟨h, e⟩
  have hown : ∀ k, Own x.β (x.h.del b) k → Own x.β x.h k := fun k ⟨i, o, h1, h2⟩ => ⟨i, o, (hsome i h1).1, h2⟩
  have st : Step x { x with w := x.w.putObj k o, h := x.h.del b } := wrote_step ⟨b, off, hb, hβ⟩ hw rfl rfl (fun i hi => ⟨hi, rfl⟩) hown
  refine ⟨st, ⟨fun i hi => hs.lt i (hsome i hi).1, hs.rlt, hs.nr, fun i blk2 hi hRi => ?_, fun i j k off off' hi hj => hs.inj i j k off off' (hsome i hi).1 (hsome j hj).1, fun j hj => ?_, fun j hj => ?_⟩, fun D i _ hRi _ => ⟨?_, hRi⟩⟩
  · have hi' := hsome i (by rw [hi]; rfl)
    simp only [AH.get_del] at hi
    split at hi
    · cases hi
    · rename_i e
      refine (hs.ok i blk2 hi hRi).step st rfl fun k2 off2 h2 => hw.other k2 fun e2 => ?_
      subst e2
      exact e (hs.inj i b k2 off2 off hi'.1 hb h2 hβ)
  · have := hs.own j (hown j hj)
    exact ⟨by show j < (x.w.putObj k o).heap.size; rw [hw.size]; exact this.1, this.2⟩
  · show j < (x.w.putObj k o).heap.size
    rw [hw.size]; exact hs.fr j hj
  · show (x.h.del b).get i = _
    rw [AH.get_del, if_neg (fun e => by subst e; exact hRi hR)]

section
variable {P : Program} {cfg : Cfg} {g : Nat} {rec : Rec} (rk : RecOk P cfg rec) {fuel : Nat}
include rk

/-- **A range over a function.** -/
theorem rng_ok {go : Operand} {ps : Array Tmp} {assign body : Code} {xo : X} {aa ab : ACode} (hx : cX go = some xo) (ha : cCode P cfg g assign = some aa) (hb : cCode P cfg g body = some ab) :
    CodeOk P cfg rec fuel (.rangeFunc go ps assign body) (.rng xo ps.toList aa ab) := by
  intro m ro s e s' x0 a hat hm he Q hQ
  simp only [run] at he
  split at he
  · cases he
  rename_i hrd
  have hro : ro = none := by
    have := hat.rd
    cases ro with
    | none => rfl
    | some k => rw [this] at hrd; simp at hrd
  subst hro
  simp only [Option.bind_eq_some_iff] at he
  obtain ⟨⟨c, first, cap⟩, hcal, he⟩ := he
  cases c with
  | yld l => cases he
  | fn f =>
  simp only [Option.bind_eq_some_iff] at he
  obtain ⟨⟨v2, h2⟩, hrec, he⟩ := he
  split at he
  case h_2 => cases he
  rename_i r hget
  split at he
  · cases he
  rename_i hbusy
  simp only [Option.some.injEq, Prod.mk.injEq] at he
  obtain ⟨rfl, rfl⟩ := he
  have hf : CA x0 (xo.ev s.t) (a.eval go) := cX_ok hat.t hx
  obtain ⟨fn, A, C, hu, h1, h2', h3⟩ := callee_ok rk hat.sim hf hcal
  have hfn : fn = .func f := by
    rcases h3 with ⟨f0, e1, e2⟩ | ⟨l, k, off, e1, _⟩
    · cases e1; exact e2
    · cases e1
  subst hfn
  refine wpIn_rangeFunc fun fid _ => ?_
  obtain ⟨L, hL⟩ : ∃ L : Loop, L = { state := .ready, pending := none, fn := fid, tmps := a.tmps, params := ps, assign, body, defers := x0.w.heap.size } := ⟨_, rfl⟩
  have hl1 : Laid x0.w (x0.w.alloc (.deferred (some []))) (.deferred (some [])) := laid_alloc _ _
  obtain ⟨st1, sim1⟩ := grow_sim (cfg := cfg) hat.sim hl1 1
  obtain ⟨x1, hx1⟩ : ∃ x1 : Cx, x1 = { x0 with w := x0.w.alloc (.deferred (some [])), h := x0.h.bump 1 } := ⟨_, rfl⟩
  rw [← hx1] at st1 sim1
  have hl2 : Laid x1.w (x1.w.alloc (.loop L)) (.loop L) := laid_alloc _ _
  obtain ⟨blk, hblk⟩ : ∃ blk : Blk, blk = .lp { t := s.t, ps := ps.toList, assign := aa, body := ab, st := .ready, pend := none } := ⟨_, rfl⟩
  have hh1 : x1.h = s.h.bump 1 := by rw [hx1, hat.h]
  have hna : NewAt x1.h ((s.h.bump 1).add s.h.next blk) s.h.next blk := ⟨by rw [hh1]; rfl, by rw [AH.get_add, if_pos rfl], fun i hi => by rw [AH.get_add, if_neg hi, hh1]⟩
  have hR1 : ¬ x1.R s.h.next := fun h => by
    have : x0.R s.h.next := by rw [hx1] at h; exact h
    have := hat.sim.rlt _ this
    rw [hat.h] at this; omega
  have hb1 : s.h.next < x1.h.next := by rw [hh1]; simp [AH.bump]
  have st2 := lay_step sim1 hl2 hR1 hna
  have hk1 : x1.w.heap.size = x0.w.heap.size + 1 := by rw [hx1]; simp
  obtain ⟨x2, hx2⟩ : ∃ x2 : Cx, x2 = x1.lay (x1.w.alloc (.loop L)) s.h.next ((s.h.bump 1).add s.h.next blk) := ⟨_, rfl⟩
  have hβ2 : x2.β s.h.next = some (x0.w.heap.size + 1, 0) := by rw [hx2]; simp [Cx.lay, hk1]
  have hR2 : x2.R s.h.next := by rw [hx2]; exact .inl rfl
  have hL2 : x2.w.heap[x0.w.heap.size + 1]? = some (.loop L) := by
    rw [hx2, ← hk1]
    exact World.alloc_heap_new _ _
  rw [← hx2] at st2
  have hblk2 : BlkOk P cfg x2 s.h.next blk := by
    rw [hblk]
    simp only [BlkOk]
    exact ⟨_, _, L, hβ2, hL2, by rw [hL]; exact CAs_step (st1.trans st2) _ _ hat.t, by rw [hL], ⟨g, by rw [hL]; exact ha, by rw [hL]; exact hb⟩, by rw [hL]; rfl, by rw [hL]; rfl, by simp⟩
  have sim2 : Sim P cfg x2 := by
    have := lay_sim sim1 hl2 hR1 hb1 hna (by rw [← hx2]; exact hblk2)
    rw [← hx2] at this
    exact this
  have st02 := st1.trans st2
  have hw2 : x2.w = (x0.w.alloc (.deferred (some []))).alloc (.loop L) := by rw [hx2, hx1]; rfl
  have hargs : CAs x2 (first ++ [.yld s.h.next] ++ cap) (A.toList ++ [Value.func (.yield (x0.w.heap.size + 1)) #[] #[]] ++ C.toList) := by
    refine CAs_append (CAs_append (CAs_step st02 _ _ h1) ?_) (CAs_step st02 _ _ h2')
    simp only [CAs, CA, and_true]
    exact ⟨hR2, _, _, hβ2, rfl⟩
  have hh2 : x2.h = (s.h.bump 1).add s.h.next blk := by rw [hx2]; rfl
  obtain ⟨g1, g2⟩ := rk.fn f _ _ v2 h2 (by rw [hblk] at hh2; exact hrec) x2 _ (by rw [hh2, hblk]) sim2 hargs
  have harr : (A.toList ++ [Value.func (.yield (x0.w.heap.size + 1)) #[] #[]] ++ C.toList).toArray = (A ++ #[Value.func (.yield (x0.w.heap.size + 1)) #[] #[]]) ++ C := by
    apply Array.ext'; simp
  refine ⟨x0.w.heap.size + 1, [{ target := .collected x0.w.heap.size, args := #[] }], x2.w, { target := .fn (.func f) C, args := A ++ #[.func (.yield (x0.w.heap.size + 1)) #[] #[]] }, x2.w, f, _, x2.w, ?_, ?_, fun _ _ => trivial, ?_, by simp [FF], CallsIn.mono (F := Fence.wide) g2 ?_⟩
  · show (Instr.enterLoop fid a.tmps ps assign body none).run P x0.w = _
    rw [run_enterLoop_outer, hw2, hL]
  · have e : resolve a.eval (rangeCall go (x0.w.heap.size + 1)) 0 = Deferred.ofValue (a.eval go) #[.func (.yield (x0.w.heap.size + 1)) #[] #[]] := by
      simp [resolve, rangeCall, Act.eval]
    rw [e, hu]; rfl
  · rw [harr] at g1 ⊢
    exact g1
  · rintro e w' ⟨y, u, rfl, hyh, rfl, st3, kp3, sim3, _⟩
    have hβ3 : y.β s.h.next = some (x0.w.heap.size + 1, 0) := (st3.loc _ hR2).2.trans hβ2
    have hR3 : y.R s.h.next := (st3.loc _ hR2).1
    have hb3 := sim3.ok s.h.next _ (by rw [hyh]; exact hget) hR3
    simp only [BlkOk] at hb3
    obtain ⟨k', off', L3, e1, hL3, hlo⟩ := hb3
    rw [hβ3] at e1
    simp only [Option.some.injEq, Prod.mk.injEq] at e1
    obtain ⟨rfl, rfl⟩ := e1
    obtain ⟨st4, sim4, kp4⟩ := drop_loop (cfg := cfg) sim3 (by rw [hyh, hget]; rfl) hR3 hβ3 hL3 (.loop { L3 with state := .exhausted })
    have hst : L3.state ≠ .busy := by
      rw [hlo.st]
      cases hr : r.st <;> simp_all [lState]
    refine ⟨L3.pending, _, run_endLoop hL3 hst, ?_⟩
    have hat4 : At P cfg m none { s with h := h2.del s.h.next } { y with w := y.w.putObj (x0.w.heap.size + 1) (.loop { L3 with state := .exhausted }), h := y.h.del s.h.next } { a with defers := [{ target := .collected x0.w.heap.size, args := #[] }] ++ a.defers } := by
      refine ⟨sim4, by rw [hyh], CAs_step (st02.trans (st3.trans st4)) _ _ hat.t, ?_, hat.rd⟩
      have hd2 : DOk m x2 s.d ({ target := .collected x0.w.heap.size, args := #[] } :: a.defers) := by
        refine .mark ((hm.resolve_left (by simp [noRng])) _ (Nat.le_refl _)) ?_ (fun D hD e => ?_) (hat.d.step hat.sim st02)
        · rw [hw2]
          have h5 : ((x0.w.alloc (.deferred (some []))).alloc (.loop L)).heap[x0.w.heap.size]? = (x0.w.alloc (.deferred (some []))).heap[x0.w.heap.size]? := by
            show ((x0.w.alloc (.deferred (some []))).heap.push (.loop L))[x0.w.heap.size]? = _
            rw [Array.getElem?_push, if_neg (by simp)]
          rw [h5]
          exact World.alloc_heap_new _ _
        · have := hat.d.lt D hD e
          omega
      exact (hd2.step sim2 st3).step sim3 st4
    have hkeep : Keeps (fun _ => False) x0 { y with w := y.w.putObj (x0.w.heap.size + 1) (.loop { L3 with state := .exhausted }), h := y.h.del s.h.next } := by
      intro b hb hR _
      have hne : b ≠ s.h.next := fun e => by rw [e, hat.h] at hb; omega
      have hR2b : ¬ x2.R b := by
        rw [hx2]
        rintro (h | h)
        · exact hne h
        · rw [hx1] at h; exact hR h
      have hg2 : x2.h.get b = x0.h.get b := by rw [hh2, AH.get_add, if_neg hne, ← hat.h]; rfl
      obtain ⟨k1, k2⟩ := kp3 b (Nat.lt_of_lt_of_le hb st02.next) hR2b (fun h => h)
      obtain ⟨k3, k4⟩ := kp4 (fun _ => False) b (Nat.lt_of_lt_of_le hb (st02.trans st3).next) k2 (fun h => h)
      exact ⟨k3.trans (k1.trans hg2), k4⟩
    have hfin := hQ _ _ hat4 (st02.trans (st3.trans st4)) hkeep
    have hpd := hlo.pend
    have hpn := hlo.pn
    simp only at hfin
    generalize y.w.putObj (x0.w.heap.size + 1) (.loop { L3 with state := .exhausted }) = W4 at hfin ⊢
    cases hr : r.pend with
    | none =>
      rw [hr] at hpd hfin
      simp only [Option.bind_none] at hpd
      rw [hpd]
      exact hfin
    | some ex =>
      rw [hr] at hpd hfin hpn
      simp only [Option.bind_some] at hpd
      rw [hpd]
      cases ex with
      | nrm => exact absurd rfl hpn
      | exit id => exact wpIn_exit hfin
      | goto l => exact wpIn_goto hfin
      | ret => exact wpIn_ret hfin
end

/-! ### code -/
theorem cCode0_le {P : Program} {cfg : Cfg} {g : Nat} {sc : Code → Option ACode} : ∀ (c : Code) {ac : ACode}, cCode0 P cfg g c = some ac → cCodeG sc P cfg g c = some ac
  | .skip, _, h | .exit _, _, h | .goto _, _, h | .label _, _, h | .ret, _, h => by simpa only [cCode0, cCodeG] using h
  | .region _ _ _, _, h => by simpa only [cCode0, cCodeG] using h
  | .refuse _, _, h => by simp [cCode0, cCodeG] at h
  | .scope _, _, h => by simp [cCode0, cCodeG] at h
  | .seq a b, ac, h => by
    simp only [cCode0, cCodeG, Option.bind_eq_some_iff, Option.map_eq_some_iff] at h ⊢
    obtain ⟨x, h1, y, h2, h3⟩ := h
    exact ⟨x, cCode0_le a h1, y, cCode0_le b h2, h3⟩
  | .cond _ a b, ac, h => by
    simp only [cCode0, cCodeG, Option.bind_eq_some_iff, Option.map_eq_some_iff] at h ⊢
    obtain ⟨z, h0, x, h1, y, h2, h3⟩ := h
    exact ⟨z, h0, x, cCode0_le a h1, y, cCode0_le b h2, h3⟩
  | .block _ c, ac, h => by
    simp only [cCode0, cCodeG, Option.map_eq_some_iff] at h ⊢
    obtain ⟨x, h1, h2⟩ := h
    exact ⟨x, cCode0_le c h1, h2⟩
  | .loop c, ac, h => by
    simp only [cCode0, cCodeG, Option.map_eq_some_iff] at h ⊢
    obtain ⟨x, h1, h2⟩ := h
    exact ⟨x, cCode0_le c h1, h2⟩
  | .rangeFunc _ _ a b, ac, h => by
    simp only [cCode0, cCodeG, Option.bind_eq_some_iff, Option.map_eq_some_iff] at h ⊢
    obtain ⟨z, h0, x, h1, y, h2, h3⟩ := h
    exact ⟨z, h0, x, cCode0_le a h1, y, cCode0_le b h2, h3⟩

section
variable {P : Program} {cfg : Cfg} {g : Nat} {rec : Rec} (rk : RecOk P cfg rec) (hmo : P.follows .mixedOrders = true) {fuel : Nat}
include rk hmo

theorem codeG_ok {sc : Code → Option ACode} (hle : ∀ c ac, cCodeG sc P cfg g c = some ac → cCode P cfg g c = some ac) (hsc : ∀ c ac, sc c = some ac → CodeOk P cfg rec fuel (.scope c) ac) :
    ∀ (c : Code) {ac : ACode}, cCodeG sc P cfg g c = some ac → CodeOk P cfg rec fuel c ac
  | .skip, ac, h => by
    simp only [cCodeG, Option.some.injEq] at h
    subst h
    rename_i m ro s e s' x a
    intro hat hm he Q hQ
    simp only [run, Option.some.injEq, Prod.mk.injEq] at he
    obtain ⟨rfl, rfl⟩ := he
    exact wpIn_skip (hQ x a hat (Step.refl x) (Keeps.refl _ x))
  | .label l, ac, h => by
    simp only [cCodeG, Option.some.injEq] at h
    subst h
    rename_i m ro s e s' x a
    intro hat hm he Q hQ
    simp only [run, Option.some.injEq, Prod.mk.injEq] at he
    obtain ⟨rfl, rfl⟩ := he
    exact wpIn_label (hQ x a hat (Step.refl x) (Keeps.refl _ x))
  | .exit l, ac, h => by
    simp only [cCodeG, Option.some.injEq] at h
    subst h
    rename_i m ro s e s' x a
    intro hat hm he Q hQ
    simp only [run, Option.some.injEq, Prod.mk.injEq] at he
    obtain ⟨rfl, rfl⟩ := he
    exact wpIn_exit (hQ x a hat (Step.refl x) (Keeps.refl _ x))
  | .goto l, ac, h => by
    simp only [cCodeG, Option.some.injEq] at h
    subst h
    rename_i m ro s e s' x a
    intro hat hm he Q hQ
    simp only [run, Option.some.injEq, Prod.mk.injEq] at he
    obtain ⟨rfl, rfl⟩ := he
    exact wpIn_goto (hQ x a hat (Step.refl x) (Keeps.refl _ x))
  | .ret, ac, h => by
    simp only [cCodeG, Option.some.injEq] at h
    subst h
    rename_i m ro s e s' x a
    intro hat hm he Q hQ
    simp only [run, Option.some.injEq, Prod.mk.injEq] at he
    obtain ⟨rfl, rfl⟩ := he
    exact wpIn_ret (hQ x a hat (Step.refl x) (Keeps.refl _ x))
  | .refuse _, ac, h => by simp [cCodeG] at h
  | .scope c, ac, h => by
    simp only [cCodeG] at h
    exact hsc c ac h
  | .region id ops draw, ac, h => by
    simp only [cCodeG, Option.map_eq_some_iff] at h
    obtain ⟨⟨n, l⟩, h1, rfl⟩ := h
    rename_i m ro s e s' x a
    intro hat hm he Q hQ
    simp only [run, Option.map_eq_some_iff, Prod.mk.injEq] at he
    obtain ⟨s1, h2, rfl, rfl⟩ := he
    exact reg_ok rk hmo h1 hat h2 hQ
  | .rangeFunc go ps assign body, ac, h => by
    simp only [cCodeG, Option.bind_eq_some_iff, Option.map_eq_some_iff] at h
    obtain ⟨z, h0, x, h1, y, h2, rfl⟩ := h
    exact rng_ok (g := g) rk h0 (hle _ _ h1) (hle _ _ h2)
  | .seq c d, ac, h => by
    simp only [cCodeG, Option.bind_eq_some_iff, Option.map_eq_some_iff] at h
    obtain ⟨ca, h1, cb, h2, rfl⟩ := h
    rename_i m ro s e s' x a
    intro hat hm he Q hQ
    simp only [run, Option.bind_eq_some_iff] at he
    obtain ⟨⟨e1, s1⟩, he1, he⟩ := he
    refine wpIn_seq (codeG_ok hle hsc c h1 hat hm.seq.1 he1 fun y a' hy st hk => ?_)
    cases e1 with
    | nrm => exact codeG_ok hle hsc d h2 hy (hm.seq.2.step st) he fun z a'' hz st2 hk2 => hQ z a'' hz (st.trans st2) (Keeps.trans st.next hk hk2)
    | exit id =>
      simp only [Option.some.injEq, Prod.mk.injEq] at he
      obtain ⟨rfl, rfl⟩ := he
      exact hQ y a' hy st hk
    | goto l =>
      simp only [Option.some.injEq, Prod.mk.injEq] at he
      obtain ⟨rfl, rfl⟩ := he
      exact hQ y a' hy st hk
    | ret =>
      simp only [Option.some.injEq, Prod.mk.injEq] at he
      obtain ⟨rfl, rfl⟩ := he
      exact hQ y a' hy st hk
  | .cond co c d, ac, h => by
    simp only [cCodeG, Option.bind_eq_some_iff, Option.map_eq_some_iff] at h
    obtain ⟨z, h0, ca, h1, cb, h2, rfl⟩ := h
    rename_i m ro s e s' x a
    intro hat hm he Q hQ
    simp only [run] at he
    have hz := cX_ok hat.t h0
    split at he
    case h_2 => cases he
    rename_i p hp
    rw [hp] at hz
    have hev := CA_b hz
    refine wpIn_cond hev ?_
    cases p with
    | true => exact codeG_ok hle hsc c h1 hat hm.cond.1 he hQ
    | false => exact codeG_ok hle hsc d h2 hat hm.cond.2 he hQ
  | .block id c, ac, h => by
    simp only [cCodeG, Option.map_eq_some_iff] at h
    obtain ⟨ca, h1, rfl⟩ := h
    rename_i m ro s e s' x a
    intro hat hm he Q hQ
    simp only [run, Option.map_eq_some_iff, Prod.mk.injEq] at he
    obtain ⟨⟨e1, s1⟩, he1, he2, rfl⟩ := he
    refine wpIn_block (codeG_ok hle hsc c h1 hat hm.blk he1 fun y a' hy st hk => ?_)
    have hq := hQ y a' hy st hk
    cases e1 with
    | exit id' =>
      simp only [exOf, Exit.inBlock]
      by_cases hid : id' = id
      · subst hid
        rw [if_pos rfl] at he2 ⊢
        subst he2
        exact hq
      · rw [if_neg (by simpa using hid)] at he2
        rw [if_neg hid]
        subst he2
        exact hq
    | nrm => rw [if_neg (by simp)] at he2; subst he2; exact hq
    | goto l => rw [if_neg (by simp)] at he2; subst he2; exact hq
    | ret => rw [if_neg (by simp)] at he2; subst he2; exact hq
  | .loop c, ac, h => by
    simp only [cCodeG, Option.map_eq_some_iff] at h
    obtain ⟨ca, h1, rfl⟩ := h
    rename_i m ro s e s' x a
    intro hat hm he Q hQ
    simp only [run] at he
    refine wpIn_loop_of ?_
    have key : ∀ (k : Nat) {s : St} {x : Cx} {a : Act}, At P cfg m ro s x a → May m x.w ca → loopN (run rec fuel ca) k s = some (e, s') →
        (∀ (y : Cx) (a' : Act), At P cfg m ro s' y a' → Step x y → Keeps (fun _ => False) x y → Q (exOf e) a' y.w) → LoopIn (FF ro) 0 P c Q a x.w := by
      intro k
      induction k with
      | zero => intro s x a _ _ he; cases he
      | succ k ih =>
        intro s x a hat hm he hQ
        simp only [loopN, Option.bind_eq_some_iff] at he
        obtain ⟨⟨e1, s1⟩, he1, he⟩ := he
        refine loopIn_step (codeG_ok hle hsc c h1 hat hm he1 fun y a' hy st hk => ?_)
        cases e1 with
        | nrm => exact ih hy (hm.step st) he fun z a'' hz st2 hk2 => hQ z a'' hz (st.trans st2) (Keeps.trans st.next hk hk2)
        | exit id =>
          simp only [Option.some.injEq, Prod.mk.injEq] at he
          obtain ⟨rfl, rfl⟩ := he
          exact hQ y a' hy st hk
        | goto l =>
          simp only [Option.some.injEq, Prod.mk.injEq] at he
          obtain ⟨rfl, rfl⟩ := he
          exact hQ y a' hy st hk
        | ret =>
          simp only [Option.some.injEq, Prod.mk.injEq] at he
          obtain ⟨rfl, rfl⟩ := he
          exact hQ y a' hy st hk
    exact key fuel hat hm.loop he hQ

theorem code0_ok (c : Code) {ac : ACode} (h : cCode0 P cfg g c = some ac) : CodeOk P cfg rec fuel c ac := codeG_ok rk hmo (fun _ _ h => cCode0_le _ h) (fun _ _ h => by cases h) c h

/-- A scope, jumps within it. -/
theorem scope_ok (c : Code) {ac : ACode} (h : cScope P cfg g c = some ac) : CodeOk P cfg rec fuel (.scope c) ac := by
  intro m ro s e s' x a hat hm he Q hQ
  unfold cScope at h
  refine wpIn_scope_of ?_
  split at h
  · rename_i hl
    refine scopeIn_step (code0_ok rk hmo c h hat hm he fun y a' hy st hk => ?_)
    have hq := hQ y a' hy st hk
    cases e with
    | goto l =>
      simp only [exOf, Exit.inScope]
      cases hf : findLabel c l with
      | none => exact hq
      | some r => have := findLabel_labels c l hf; rw [hl] at this; cases this
    | nrm => exact hq
    | exit id => exact hq
    | ret => exact hq
  · rename_i l hl
    simp only [Option.bind_eq_some_iff, Option.map_eq_some_iff] at h
    obtain ⟨r, hr, ca, h1, cb, h2, rfl⟩ := h
    simp only [run, Option.bind_eq_some_iff] at he
    obtain ⟨⟨e1, s1⟩, he1, he⟩ := he
    have key : ∀ (k : Nat) (e1 : Ex) {s1 : St} {y : Cx} {a' : Act}, At P cfg m ro s1 y a' → May m y.w cb → jumpN l (run rec fuel cb) k (e1, s1) = some (e, s') →
        (∀ (z : Cx) (a'' : Act), At P cfg m ro s' z a'' → Step y z → Keeps (fun _ => False) y z → Q (exOf e) a'' z.w) → Exit.inScope (FF ro) 0 P c Q (exOf e1) a' y.w := by
      intro k
      induction k with
      | zero => intro e1 s1 y a' _ _ he; simp [jumpN] at he
      | succ k ih =>
        intro e1 s1 y a' hy hmy he hQ
        simp only [jumpN] at he
        cases e1 with
        | goto l' =>
          simp only at he
          simp only [exOf, Exit.inScope]
          split at he
          · rename_i e2
            subst e2
            rw [hr]
            simp only [Option.bind_eq_some_iff] at he
            obtain ⟨⟨e2, s2⟩, he2, he⟩ := he
            exact scopeIn_step (code0_ok rk hmo r h2 hy hmy he2 fun z a'' hz st2 hk2 => ih e2 hz (hmy.step st2) he fun z' b hz' st3 hk3 => hQ z' b hz' (st2.trans st3) (Keeps.trans st2.next hk2 hk3))
          · rename_i hne
            simp only [Option.some.injEq, Prod.mk.injEq] at he
            obtain ⟨rfl, rfl⟩ := he
            cases hf : findLabel c l' with
            | none => exact hQ y a' hy (Step.refl y) (Keeps.refl _ y)
            | some r' =>
              have := findLabel_labels c l' hf
              rw [hl] at this
              simp only [List.mem_singleton] at this
              exact absurd this hne
        | nrm =>
          simp only [Option.some.injEq, Prod.mk.injEq] at he
          obtain ⟨rfl, rfl⟩ := he
          exact hQ y a' hy (Step.refl y) (Keeps.refl _ y)
        | exit id =>
          simp only [Option.some.injEq, Prod.mk.injEq] at he
          obtain ⟨rfl, rfl⟩ := he
          exact hQ y a' hy (Step.refl y) (Keeps.refl _ y)
        | ret =>
          simp only [Option.some.injEq, Prod.mk.injEq] at he
          obtain ⟨rfl, rfl⟩ := he
          exact hQ y a' hy (Step.refl y) (Keeps.refl _ y)
    exact scopeIn_step (code0_ok rk hmo c h1 hat hm.scope.1 he1 fun y a' hy st hk => key fuel e1 hy (hm.scope.2.step st) he fun z a'' hz st2 hk2 => hQ z a'' hz (st.trans st2) (Keeps.trans st.next hk hk2))
  · cases h

/-- **Code.** -/
theorem code_ok (c : Code) {ac : ACode} (h : cCode P cfg g c = some ac) : CodeOk P cfg rec fuel c ac := codeG_ok rk hmo (fun _ _ h => h) (fun c ac h => scope_ok rk hmo c h) c h
end

end Go.Eng

