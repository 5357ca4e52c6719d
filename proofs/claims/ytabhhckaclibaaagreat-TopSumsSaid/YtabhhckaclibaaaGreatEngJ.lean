/- The engine, part 24: regions; laws of scopes and loops. -/
import Derived.Test.YtabhhckaclibaaaGreatEngI
import Derived.RangeFuncRecord
import Derived.ScopeJumps
set_option linter.all false
namespace Go.Eng

theorem takeWhile_mid : ∀ {p : List Nat} {i : Nat} {q : List Nat}, i ∉ p → (p ++ i :: q).takeWhile (· != i) = p
  | [], i, q, _ => by simp
  | a :: p, i, q, h => by
    simp only [List.mem_cons, not_or] at h
    rw [List.cons_append, List.takeWhile_cons, if_pos (by simpa using Ne.symm h.1), takeWhile_mid h.2]

/-- A region that is put into one order. -/
theorem draw_ok {P : Program} {cfg : Cfg} {g : Nat} {ops : Array Oper} {n : Nat} {l : List AOper} (h : cDraw P cfg g ops = some (n, l)) :
    ∃ ord R re, OrdOk P cfg g ops ord R ∧ ReOk P cfg g ops ord R re ∧ cOpers P cfg g ops re 0 ord = some (n, l) := by
  simp only [cDraw] at h
  split at h
  case isFalse => cases h
  rename_i hc
  generalize greedyN (aftersOf ops) (fun i => kindOf P cfg g ops i == .W) ops.size (List.range ops.size) [] = ord at h hc
  generalize lookN (reachN (aftersOf ops) ord []) = R at h hc
  simp only [Bool.and_eq_true, List.all_eq_true, List.mem_range, List.contains_eq_mem, decide_eq_true_eq] at hc
  obtain ⟨⟨⟨c1, c2⟩, c3⟩, c4⟩ := hc
  have oo : OrdOk P cfg g ops ord R := by
    refine ⟨c1, c2, fun i hi j hj => ?_, fun p i q ho e he => ?_, fun p i q ho j hj => ?_, fun p i q ho hi => ?_⟩
    · simp only [chkReach, List.all_eq_true, Bool.or_eq_true, List.contains_eq_mem, decide_eq_true_eq, List.any_eq_true] at c3
      exact c3 i hi j hj
    · have := (chkOrd_ok c4 p i q ho).1 e he
      simpa using this
    · exact (chkOrd_ok c4 p i q ho).2.1 j (.inr hj)
    · exact (chkOrd_ok c4 p i q ho).2.2 (.inr hi)
  refine ⟨ord, R, _, oo, ?_, h⟩
  intro p i q ho hk hnc j hj hkj hR aj hf
  have htw : ord.takeWhile (· != i) = p := by rw [ho]; exact takeWhile_mid (oo.nodup p i q ho)
  obtain ⟨o, hoj, hcj, hdj, hgj⟩ := id hf
  have hop := hf.of.use.2.2
  dsimp only
  split
  · rename_i keep f as e
    exact absurd e (hnc _ _ _)
  · rw [if_pos (by simp [hk]), htw]
    refine List.mem_filterMap.2 ⟨j, List.mem_filter.2 ⟨hj, by simp [hkj, hR]⟩, ?_⟩
    rw [hoj]
    simp only [Option.bind_some]
    refine Option.map_eq_some_iff.2 ⟨aj.g, hgj, ?_⟩
    rw [hdj, hop]

/-- All that is ahead of a region's numbers. -/
theorem bump_at {P : Program} {cfg : Cfg} {m : Nat → Prop} {ro : Option Nat} {s : St} {x : Cx} {a : Act} (hat : At P cfg m ro s x a) (n : Nat) {w' : World} (hh : w'.heap = x.w.heap) (ho : w'.os = x.w.os) (ht : w'.tape = x.w.tape) (hu : w'.output = x.w.output) :
    At P cfg m ro { s with h := s.h.bump n } { x with w := w', h := x.h.bump n } a ∧ Step x { x with w := w', h := x.h.bump n } ∧
      (∀ b, s.h.next ≤ b → b < s.h.next + n → b < (x.h.bump n).next ∧ ¬ x.R b ∧ (x.h.bump n).get b = none) := by
  have hs := hat.sim
  have st : Step x { x with w := w', h := x.h.bump n } := ⟨rfl, by simp [hh], fun k _ _ => by simp [hh], fun k c T fr h => ⟨c, fr, by simpa [hh] using h, rfl⟩, ho, ht, hu, by simp [AH.bump], fun i hi => ⟨hi, rfl⟩, fun k h => .inl h⟩
  have hsim : Sim P cfg { x with w := w', h := x.h.bump n } := ⟨fun i hi => Nat.lt_of_lt_of_le (hs.lt i hi) (by simp [AH.bump]), fun i hi => Nat.lt_of_lt_of_le (hs.rlt i hi) (by simp [AH.bump]), hs.nr,
    fun i blk hi hR => (hs.ok i blk hi hR).step st rfl fun k off _ => by simp [hh], hs.inj, fun k hk => by simpa [hh] using hs.own k hk, fun k hk => by simpa [hh] using hs.fr k hk⟩
  refine ⟨⟨hsim, by rw [hat.h], CAs_step st _ _ hat.t, hat.d.step hs st, hat.rd⟩, st, fun b b1 b2 => ?_⟩
  rw [hat.h] at b1 b2
  refine ⟨by simp only [AH.bump]; omega, fun hR => ?_, ?_⟩
  · have := hs.rlt b hR; omega
  · cases hb : (x.h.bump n).get b with
    | none => rfl
    | some blk =>
      have : x.h.get b = some blk := hb
      have := hs.lt b (by simp [this])
      omega

section
variable {P : Program} {cfg : Cfg} {g : Nat} {rec : Rec} {m : Nat → Prop} {ro : Option Nat}

/-- **A region.** -/
theorem reg_ok (rk : RecOk P cfg rec) (hmo : P.follows .mixedOrders = true) {id : Nat} {ops : Array Oper} {draw : Bool} {n : Nat} {l : List AOper} (hc : cReg P cfg g ops draw = some (n, l)) {s s' : St} {x : Cx} {a : Act} (hat : At P cfg m ro s x a)
    (he : execs rec s.h.next l { s with h := s.h.bump n } = some s') {Q : Exit → Act → World → Prop} (hQ : ∀ (y : Cx) (a' : Act), At P cfg m ro s' y a' → Step x y → Keeps (fun _ => False) x y → Q .normal a' y.w) : (Code.region id ops draw).wpIn (FF ro) 0 P Q a x.w := by
  have hQ' : ∀ (w' : World), w'.heap = x.w.heap → w'.os = x.w.os → w'.tape = x.w.tape → w'.output = x.w.output → ∀ (y : Cx) (a' : Act), At P cfg m ro s' y a' → Step { x with w := w', h := x.h.bump n } y → Keeps (Rg s.h.next n) { x with w := w', h := x.h.bump n } y → Q .normal a' y.w := by
    intro w' hh ho ht hu y a' hy st hk
    obtain ⟨_, b2, _⟩ := bump_at hat n hh ho ht hu
    refine hQ y a' hy (b2.trans st) fun b hb hR _ => ?_
    exact hk b (by simp only [AH.bump]; omega) hR (fun h => by have := h.1; rw [hat.h] at this; omega)
  cases draw with
  | false =>
    refine wpIn_region ?_
    obtain ⟨b1, b2, b3⟩ := bump_at hat n (w' := x.w) rfl rfl rfl rfl
    simp only [cReg] at hc
    refine seq_ok (x := { x with w := x.w, h := x.h.bump n }) (g := g) rk _ hc b1 (fun b q1 q2 => ?_) he fun y a' hy st hk => hQ' x.w rfl rfl rfl rfl y a' hy st (hk.mono fun b _ hb => ⟨by omega, by omega⟩)
    exact b3 b (by omega) q2
  | true =>
    refine wpIn_region_any hmo ?_
    obtain ⟨b1, b2, b3⟩ := bump_at hat n (w' := { x.w with drawn := x.w.drawn + 1 }) rfl rfl rfl rfl
    simp only [cReg, if_true] at hc
    obtain ⟨ord, R, re, oo, hre, hco⟩ := draw_ok hc
    refine any_ok (x := { x with w := { x.w with drawn := x.w.drawn + 1 }, h := x.h.bump n }) (s := { s with h := s.h.bump n }) (p := []) (pd := []) oo rk hre ops.size (Array.replicate ops.size false) rfl (by simp) (fun i hi e he => ?_) (fun i hi hl => ?_) ?_ ⟨hco, he, b1.sim, b1.h, ?_, b1.d, b1.rd, ⟨?_, ?_, ?_, ?_, ?_, ?_⟩, ?_⟩ (hQ' _ rfl rfl rfl rfl)
    · unfold Ls at hi
      simp only [Array.getD_eq_getD_getElem?, Array.getElem?_replicate] at hi
      split at hi
      · cases hi
      · rename_i hge
        simp only [aftersOf] at he
        rw [Array.getElem?_eq_none (Nat.le_of_not_lt hge)] at he
        cases he
    · have := oo.lt i hi
      unfold Ls at hl
      simp [Array.getD_eq_getD_getElem?, Array.getElem?_replicate, this] at hl
    · have hnd : ∀ (l p : List Nat), ord = p ++ l → l.Nodup := by
        intro l
        induction l with
        | nil => intro p _; simp
        | cons i l ih =>
          intro p hp
          have h1 := ih (p ++ [i]) (by rw [hp]; simp)
          refine List.nodup_cons.2 ⟨fun hi => ?_, h1⟩
          obtain ⟨q1, q2, rfl⟩ := List.append_of_mem hi
          exact oo.nodup (p ++ i :: q1) i q2 (by rw [hp]; simp) (by simp)
      have h1 := hnd ord [] rfl
      have h2 : ord.length ≤ (List.range ops.size).length := h1.length_le_of_subset fun i hi => List.mem_range.2 (oo.lt i hi)
      unfold todo
      refine Nat.le_trans (List.length_filter_le _ _) ?_
      simpa using h2
    · rw [hid_empty (fun k ⟨q, hq, _⟩ => by cases hq)]; exact b1.t
    · intro i hi; cases hi
    · intro q hq; cases hq
    · intro q hq; cases hq
    · intro q hq; cases hq
    · intro q hq; cases hq
    · intro q hq; cases hq
    · intro b q1 q2; exact b3 b (by omega) q2
end

/-! ### laws of loops and scopes, inside a fence -/
section
variable {F : Fence} {n : Nat} {P : Program}

/-- In a loop's midst. -/
def LoopIn (F : Fence) (n : Nat) (P : Program) (c : Code) (Q : Exit → Act → World → Prop) (a : Act) (w : World) : Prop :=
  ∀ (b : Frame) (k : List Item) (cs : List Frame), b.roundOf = F.round → F.fn b.fn → F.room (cs.length + 1 + n) →
    ∃ e a' w', Q e a' w' ∧ ArrivesIn (Machine.fenced P F) P (lone (b.atR a (.code c :: .inLoop c :: k)) cs w) b k cs e a' w'

theorem wpIn_loop_of {c : Code} {Q : Exit → Act → World → Prop} {a : Act} {w : World} (h : LoopIn F n P c Q a w) : (Code.loop c).wpIn F n P Q a w := fun b k cs hro hb hr =>
  let ⟨e, a', w', q, r⟩ := h b k cs hro hb hr
  ⟨e, a', w', q, .of_steps (.one (fenced_calm hb hr rfl) stepR_loop) r⟩

theorem loopIn_step {c : Code} {Q : Exit → Act → World → Prop} {a : Act} {w : World} (h : c.wpIn F n P (Exit.then (LoopIn F n P c Q) Q) a w) : LoopIn F n P c Q a w := by
  intro b k cs hro hb hr
  obtain ⟨e, a₁, w₁, hq, harr⟩ := h b (.inLoop c :: k) cs hro hb hr
  cases e with
  | normal =>
    obtain ⟨e₂, a₂, w₂, hq₂, harr₂⟩ := hq b k cs hro hb hr
    exact ⟨e₂, a₂, w₂, hq₂, .of_steps (StepsIn.trans harr (.one (fenced_calm hb hr rfl) stepR_inLoop)) harr₂⟩
  | exit id => exact ⟨_, a₁, w₁, hq, .pass (x := .inLoop c) rfl (fun _ _ => .inl (by simp)) harr⟩
  | goto l => exact ⟨_, a₁, w₁, hq, .pass (x := .inLoop c) rfl (fun _ _ => .inl (by simp)) harr⟩
  | ret => exact ⟨_, a₁, w₁, hq, .pass (x := .inLoop c) rfl (fun _ _ => .inl (by simp)) harr⟩
  | panic ch => exact ⟨_, a₁, w₁, hq, .pass (x := .inLoop c) rfl (fun _ _ => .inl (by simp)) harr⟩
  | outgrown => exact ⟨_, a₁, w₁, hq, .pass (x := .inLoop c) rfl (fun _ _ => .inl (by simp)) harr⟩

theorem stepR_scope {b : Frame} {a : Act} {k : List Item} {cs : List Frame} {w : World} {c : Code} : step P (lone (b.atR a (.code (.scope c) :: k)) cs w) = .next (lone (b.atR a (.code c :: .inScope c :: k)) cs w) :=
  step_lone_go (by simp [stepG, stepG.exec, Frame.atR])
theorem stepR_inScope {b : Frame} {a : Act} {k : List Item} {cs : List Frame} {w : World} {c : Code} : step P (lone (b.atR a (.inScope c :: k)) cs w) = .next (lone (b.atR a k) cs w) :=
  step_lone_go (by simp [stepG, stepG.exec, Frame.atR])

/-- In a scope's midst: code c0 is done, in scope c. -/
def ScopeIn (F : Fence) (n : Nat) (P : Program) (c c0 : Code) (Q : Exit → Act → World → Prop) (a : Act) (w : World) : Prop :=
  ∀ (b : Frame) (k : List Item) (cs : List Frame), b.roundOf = F.round → F.fn b.fn → F.room (cs.length + 1 + n) →
    ∃ e a' w', Q e a' w' ∧ ArrivesIn (Machine.fenced P F) P (lone (b.atR a (.code c0 :: .inScope c :: k)) cs w) b k cs e a' w'

theorem wpIn_scope_of {c : Code} {Q : Exit → Act → World → Prop} {a : Act} {w : World} (h : ScopeIn F n P c c Q a w) : (Code.scope c).wpIn F n P Q a w := fun b k cs hro hb hr =>
  let ⟨e, a', w', q, r⟩ := h b k cs hro hb hr
  ⟨e, a', w', q, .of_steps (.one (fenced_calm hb hr rfl) stepR_scope) r⟩

/-- Jumps within a scope. -/
def Exit.inScope (F : Fence) (n : Nat) (P : Program) (c : Code) (Q : Exit → Act → World → Prop) : Exit → Act → World → Prop
  | .goto l, a, w => match findLabel c l with
    | some rest => ScopeIn F n P c rest Q a w
    | none => Q (.goto l) a w
  | e, a, w => Q e a w

theorem scopeIn_step {c c0 : Code} {Q : Exit → Act → World → Prop} {a : Act} {w : World} (h : c0.wpIn F n P (Exit.inScope F n P c Q) a w) : ScopeIn F n P c c0 Q a w := by
  intro b k cs hro hb hr
  obtain ⟨e, a₁, w₁, hq, harr⟩ := h b (.inScope c :: k) cs hro hb hr
  cases e with
  | normal => exact ⟨.normal, a₁, w₁, hq, StepsIn.trans harr (.one (fenced_calm hb hr rfl) stepR_inScope)⟩
  | exit id =>
    have hx : exitTo id (.inScope c :: k) = exitTo id k := by simp [exitTo]
    exact ⟨.exit id, a₁, w₁, hq, fun k' hk => harr.1 k' (by rw [hx]; exact hk), fun hr' hk => harr.2 hr' (by rw [hx]; exact hk)⟩
  | goto l =>
    simp only [Exit.inScope] at hq
    cases hf : findLabel c l with
    | some rest =>
      rw [hf] at hq
      obtain ⟨e₂, a₂, w₂, hq₂, harr₂⟩ := hq b k cs hro hb hr
      exact ⟨e₂, a₂, w₂, hq₂, .of_steps (harr.1 _ (by simp [gotoIn, hf])) harr₂⟩
    | none =>
      rw [hf] at hq
      have hx : gotoIn l (.inScope c :: k) = gotoIn l k := by simp [gotoIn, hf]
      exact ⟨.goto l, a₁, w₁, hq, fun k' hk => harr.1 k' (by rw [hx]; exact hk), fun hr' hk => harr.2 hr' (by rw [hx]; exact hk)⟩
  | ret => exact ⟨_, a₁, w₁, hq, harr⟩
  | panic ch => exact ⟨_, a₁, w₁, hq, harr⟩
  | outgrown => exact ⟨_, a₁, w₁, hq, harr⟩
end

theorem findLabel_labels : ∀ (c : Code) (l : Nat) {r : Code}, findLabel c l = some r → l ∈ labels c
  | .seq a b, l, r, h => by
    simp only [findLabel] at h
    simp only [labels, List.mem_append]
    split at h
    · rename_i h1; exact .inl (findLabel_labels a l h1)
    · exact .inr (findLabel_labels b l h)
  | .label l', l, r, h => by
    simp only [findLabel] at h
    split at h
    · rename_i e; simp only [beq_iff_eq] at e; simp [labels, e]
    · cases h
  | .skip, l, r, h | .region .., l, r, h | .cond .., l, r, h | .block .., l, r, h | .loop .., l, r, h | .exit .., l, r, h | .goto .., l, r, h | .ret, l, r, h | .scope .., l, r, h | .rangeFunc .., l, r, h | .refuse .., l, r, h => by simp [findLabel] at h

end Go.Eng

