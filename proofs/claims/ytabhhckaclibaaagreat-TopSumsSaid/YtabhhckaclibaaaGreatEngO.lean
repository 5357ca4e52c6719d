/- The engine, part 31: a deferred call that recovers from nothing. -/
import Derived.Test.YtabhhckaclibaaaGreatEngN
import Derived.RecoverIn
set_option linter.all false
namespace Go.Eng

/-- A deferred call that recovers, where nothing has panicked. -/
def dprimRecover : List AV → AH → Option AH
  | [_], h => some h
  | _, _ => none

theorem wpS_one {P : Program} {ops : Array Oper} {Q : Exit → Act → List Frame → World → Prop} {i : Nat} {rest : List Nat} {o : Oper} {a : Act} {cs : List Frame} {w w' : World} {v : Value} (ho : ops[i]? = some o) (hg : o.guard = none)
    (hr : (execOp a.eval o).run P w = .ok (.value v) w') (hk : wpOpsSIn Fence.wide 0 P ops Q rest (a.put o.dst v) cs w') : wpOpsSIn Fence.wide 0 P ops Q (i :: rest) a cs w := by
  simp only [wpOpsSIn, ho]
  refine ⟨fun _ _ => trivial, ?_⟩
  rw [if_pos (by simp [Region.wanted, hg]), hr]
  exact hk

theorem wpS_rec {P : Program} {ops : Array Oper} {Q : Exit → Act → List Frame → World → Prop} {i : Nat} {rest : List Nat} {o : Oper} {a : Act} {cs : List Frame} {w w' : World} (ho : ops[i]? = some o) (hg : o.guard = none)
    (hr : (execOp a.eval o).run P w = .ok .recover w') (hrec : recoverD cs = none) (hk : wpOpsSIn Fence.wide 0 P ops Q rest (a.put o.dst .nilIface) cs w') : wpOpsSIn Fence.wide 0 P ops Q (i :: rest) a cs w := by
  simp only [wpOpsSIn, ho]
  refine ⟨fun _ _ => trivial, ?_⟩
  rw [if_pos (by simp [Region.wanted, hg]), hr]
  simp only [hrec]
  exact hk

theorem dprim_recover {P : Program} {cfg : Cfg} {f : Nat} {F : Func} {i0 i1 : Nat} {o0 o1 o2 o3 : Oper} {c0 : Call} {cx : Code} {T : TypeId} {ms : Array (String × TypeId)} (hF : P.funcs[f]? = some F) (hn : F.name ≠ "runtime.NumGoroutine")
    (hb : F.body = some (.seq (.region i0 #[o0, o1] false) (.seq (.region i1 #[o2, o3] false) (.cond (.tmp 6) cx .skip)))) (hnt : F.ntmps = 15) (hres : F.results = #[])
    (h0 : o0.op = .call c0 ∧ o0.dst = some 4 ∧ o0.guard = none) (hc0 : c0.callee = .builtin .recover) (ha0 : c0.args = #[]) (h1 : o1.op = .assign (.tmp 4) ∧ o1.dst = some 1 ∧ o1.guard = none)
    (h2 : o2.op = .move (.tmp 1) ∧ o2.dst = some 5 ∧ o2.guard = none) (h3 : ∃ T', o3.op = .binOp .neq T (.tmp 5) (.const .nilIface) T') (h3' : o3.dst = some 6 ∧ o3.guard = none) (hT : P.underlying T = some (.interface ms)) :
    ∀ (args : List AV) (h h' : AH), dprimRecover args h = some h' → ∀ (x : Cx) (us : List Value), x.h = h → Sim P cfg x → CAs x args us → DefnOk P f us.toArray x.w (OutD P cfg x h') := by
  intro args h h' he x us hx hs ha
  unfold dprimRecover at he
  split at he
  case h_2 => cases he
  simp only [Option.some.injEq] at he
  subst he
  subst hx
  match us, ha with
  | [u], ha =>
  refine ⟨callFunc_enter hF hn hb _ _, ?_⟩
  refine callsDIn_of_wpSIn (F := Fence.wide) hF hb trivial fun c₀ cs hmode => ?_
  have hst : ({ tmps := #[u] ++ Array.replicate (F.ntmps - 1) undef, defers := [] } : Act) = { tmps := #[u, undef, undef, undef, undef, undef, undef, undef, undef, undef, undef, undef, undef, undef, undef], defers := [] } := by
    rw [hnt]; rfl
  show Code.wpSIn _ _ _ _ _ ({ tmps := #[u] ++ Array.replicate (F.ntmps - 1) undef, defers := [] } : Act) _ _
  rw [hst]
  have hrec : recoverD (c₀ :: cs) = none := by simp [recoverD, hmode]
  obtain ⟨T', h3⟩ := h3
  have heq : (Op.equalIn Op.maxDepth T .nilIface .nilIface).run P x.w = .ok true x.w := by
    have : ∀ d, (Op.equalIn (d + 1) T .nilIface .nilIface).run P x.w = .ok true x.w := fun d => by simp [Op.equalIn, run_underlying hT]
    exact this 9999
  refine wpSIn_seq (wpSIn_region ?_)
  show wpOpsSIn _ _ _ _ _ [0, 1] _ _ _
  refine wpS_rec (o := o0) (w' := x.w) rfl h0.2.2 (by simp [execOp, h0.1, resolve, hc0, ha0, invoke, builtin]) hrec ?_
  rw [h0.2.1]
  refine wpS_one (o := o1) (v := .nilIface) (w' := x.w) rfl h1.2.2 (by simp [execOp, h1.1, Act.eval, Act.put]) ?_
  rw [h1.2.1]
  refine wpSIn_seq (wpSIn_region ?_)
  show wpOpsSIn _ _ _ _ _ [0, 1] _ _ _
  refine wpS_one (o := o2) (v := .nilIface) (w' := x.w) rfl h2.2.2 (by simp [execOp, h2.1, Act.eval, Act.put]) ?_
  rw [h2.2.1]
  refine wpS_one (o := o3) (v := .bool false) (w' := x.w) rfl h3'.2 (by simp [execOp, h3, Act.eval, Act.put, eqGuard, binOp, Op.equal, heq]) ?_
  rw [h3'.1]
  refine wpSIn_cond (t := false) (by simp [Act.eval, Act.put]) ?_
  refine wpSIn_of_wpIn rfl (wpIn_skip ?_)
  exact ⟨rfl, c₀.mode, by cases c₀; rfl, _, results_none hres _ _ _, hmode, x, _, rfl, rfl, rfl, Step.refl x, Keeps.refl _ x, hs⟩

end Go.Eng

/- The engine, part 32: more fuel gives no other answer; known answers. -/
namespace Go.Eng

/-- rec' answers all that rec answers. -/
def Le (rec rec' : Rec) : Prop := ∀ c a h r, rec c a h = some r → rec' c a h = some r

theorem bind_le {α β : Type} {x x' : Option α} {f f' : α → Option β} {r : β} (hx : ∀ a, x = some a → x' = some a) (hf : ∀ a, x = some a → f a = some r → f' a = some r) (h : x.bind f = some r) : x'.bind f' = some r := by
  cases hxa : x with
  | none => rw [hxa] at h; cases h
  | some a =>
    rw [hxa] at h
    rw [hx a hxa]
    exact hf a hxa h

theorem map_le {α β : Type} {x x' : Option α} {f : α → β} {r : β} (hx : ∀ a, x = some a → x' = some a) (h : x.map f = some r) : x'.map f = some r := by
  cases hxa : x with
  | none => rw [hxa] at h; cases h
  | some a =>
    rw [hxa] at h
    rw [hx a hxa]
    exact h

section
variable {rec rec' : Rec} (hr : Le rec rec')
include hr

theorem isoCall_le {keep : List Nat} {h : AH} {c : Callee} {as : List AV} {r : AV × List Blk} (e : isoCall rec keep h c as = some r) : isoCall rec' keep h c as = some r :=
  bind_le (fun _ h => h) (fun _ _ e => bind_le (fun _ h => hr _ _ _ _ h) (fun _ _ e => e) e) e

theorem shCall_le {all : Bool} {h : AH} {c : Callee} {as : List AV} {r : AV × AH} (e : shCall rec all h c as = some r) : shCall rec' all h c as = some r :=
  map_le (fun _ h => hr _ _ _ _ h) e

theorem opV_le {base : Nat} {o : AOper} {s : St} {r : AV × AH × List (AV × List AV)} (e : opV rec base o s = some r) : opV rec' base o s = some r := by
  unfold opV at e ⊢
  split at e
  · rename_i m f args heq
    refine bind_le (fun _ h => h) (fun ⟨c, first, cap⟩ _ e => ?_) e
    cases m with
    | iso keep => exact map_le (fun _ h => isoCall_le hr h) e
    | sh all => exact map_le (fun _ h => shCall_le hr h) e
  · rename_i m nm tab x args heq
    refine bind_le (fun _ h => h) (fun ⟨ty, v0⟩ _ e => bind_le (fun _ h => h) (fun ⟨f, dr⟩ _ e => bind_le (fun _ h => h) (fun v _ e => ?_) e) e) e
    cases m with
    | iso keep => exact map_le (fun _ h => isoCall_le hr h) e
    | sh all => exact map_le (fun _ h => shCall_le hr h) e
  · exact e
  · exact e

theorem exec1_le {base : Nat} {o : AOper} {s s' : St} (e : exec1 rec base o s = some s') : exec1 rec' base o s = some s' := by
  unfold exec1 at e ⊢
  split at e
  · exact bind_le (fun _ h => opV_le hr h) (fun _ _ e => e) e
  · exact e
  · cases e

theorem execs_le {base : Nat} : ∀ {l : List AOper} {s s' : St}, execs rec base l s = some s' → execs rec' base l s = some s'
  | [], _, _, e => e
  | o :: os, s, s', e => by
    simp only [execs] at e ⊢
    exact bind_le (fun _ h => exec1_le hr h) (fun _ _ e => execs_le e) e
end

theorem loopN_le {f f' : St → Option (Ex × St)} (hf : ∀ s r, f s = some r → f' s = some r) : ∀ {n n' : Nat} {s : St} {r : Ex × St}, n ≤ n' → loopN f n s = some r → loopN f' n' s = some r
  | 0, _, _, _, _, e => by cases e
  | n + 1, 0, _, _, h, _ => by omega
  | n + 1, n' + 1, s, r, h, e => by
    simp only [loopN] at e ⊢
    refine bind_le (fun _ h => hf _ _ h) (fun ⟨ex, s1⟩ _ e => ?_) e
    cases ex with
    | nrm => exact loopN_le hf (by omega) e
    | exit id => exact e
    | goto l => exact e
    | ret => exact e

theorem jumpN_le {l : Nat} {f f' : St → Option (Ex × St)} (hf : ∀ s r, f s = some r → f' s = some r) : ∀ {n n' : Nat} {p r : Ex × St}, n ≤ n' → jumpN l f n p = some r → jumpN l f' n' p = some r
  | 0, _, _, _, _, e => by simp [jumpN] at e
  | n + 1, 0, _, _, h, _ => by omega
  | n + 1, n' + 1, (ex, s), r, h, e => by
    simp only [jumpN] at e ⊢
    cases ex with
    | goto l' =>
      simp only at e ⊢
      split at e
      · rename_i hl
        rw [if_pos hl]
        exact bind_le (fun _ h => hf _ _ h) (fun _ _ e => jumpN_le hf (by omega) e) e
      · rename_i hl
        rw [if_neg hl]; exact e
    | nrm => exact e
    | exit id => exact e
    | ret => exact e

theorem run_le {rec rec' : Rec} (hr : Le rec rec') {n n' : Nat} (hn : n ≤ n') : ∀ (c : ACode) {s : St} {r : Ex × St}, run rec n c s = some r → run rec' n' c s = some r
  | .skip, _, _, e | .label, _, _, e | .exit _, _, _, e | .goto _, _, _, e | .ret, _, _, e | .forget _, _, _, e => by simpa only [run] using e
  | .reg k ops, s, r, e => by
    simp only [run] at e ⊢
    exact map_le (fun _ h => execs_le hr h) e
  | .seq a b, s, r, e => by
    simp only [run] at e ⊢
    refine bind_le (fun _ h => run_le hr hn a h) (fun ⟨ex, s1⟩ _ e => ?_) e
    cases ex with
    | nrm => exact run_le hr hn b e
    | exit id => exact e
    | goto l => exact e
    | ret => exact e
  | .cond x a b, s, r, e => by
    simp only [run] at e ⊢
    split at e
    · split at e
      · rename_i h; rw [if_pos h]; exact run_le hr hn a e
      · rename_i h; rw [if_neg h]; exact run_le hr hn b e
    · cases e
  | .blk id c, s, r, e => by
    simp only [run] at e ⊢
    exact map_le (fun _ h => run_le hr hn c h) e
  | .loop c, s, r, e => by
    simp only [run] at e ⊢
    exact loopN_le (fun _ _ h => run_le hr hn c h) hn e
  | .scope c l rest, s, r, e => by
    simp only [run] at e ⊢
    exact bind_le (fun _ h => run_le hr hn c h) (fun _ _ e => jumpN_le (fun _ _ h => run_le hr hn rest h) hn e) e
  | .rng x ps a b, s, r, e => by
    simp only [run] at e ⊢
    split at e
    · cases e
    · rename_i h
      rw [if_neg h]
      refine bind_le (fun _ h => h) (fun ⟨c, first, cap⟩ _ e => ?_) e
      cases c with
      | yld l => cases e
      | fn f => exact bind_le (fun _ h => hr _ _ _ _ h) (fun _ _ e => e) e

theorem defers_le {cd cd' : Callee → List AV → AH → Option AH} (hc : ∀ c a h r, cd c a h = some r → cd' c a h = some r) : ∀ {d : List (AV × List AV)} {h h' : AH}, defers cd d h = some h' → defers cd' d h = some h'
  | [], _, _, e => e
  | (f, args) :: ds, h, h', e => by
    simp only [defers] at e ⊢
    exact bind_le (fun _ h => h) (fun ⟨c, first, cap⟩ _ e => bind_le (fun _ h => hc _ _ _ _ h) (fun _ _ e => defers_le hc e) e) e

theorem callD_le {T : Tab} {rec rec' : Rec} (hr : Le rec rec') {n n' : Nat} (hn : n ≤ n') : ∀ c a h r, callD T rec n c a h = some r → callD T rec' n' c a h = some r
  | .yld _, _, _, _, e => by cases e
  | .fn f, args, h, r, e => by
    simp only [callD] at e ⊢
    split at e
    · exact e
    · refine bind_le (fun _ h => h) (fun fn _ e => ?_) e
      split at e
      · rename_i h; rw [if_pos h]; exact bind_le (fun _ h => run_le hr hn _ h) (fun _ _ e => e) e
      · cases e

/-- One round of the evaluator. -/
def callR (T : Tab) (rec : Rec) (n : Nat) : Rec
  | .fn f, args, h =>
    match T.prim f with
    | some p => p args h
    | none => (T.fn f).bind fun fn =>
      (run rec n fn.body (start fn args h)).bind fun (e, s) =>
        match e with
        | .nrm | .ret => (defers (callD T rec n) s.d s.h).bind fun h' => (results { s with h := h' } fn.res).map fun v => (v, h')
        | _ => none
  | .yld l, args, h =>
    match h.get l with
    | some (.lp r) =>
      if r.st = .ready ∧ args.length = r.ps.length then
        (run rec n r.assign { t := setPs r.ps args r.t, h := h, d := [], rd := true }).bind fun (e, s) =>
          match e with
          | .nrm =>
            match s.h.get l with
            | some (.lp r1) =>
              if r1.st = .ready then
                (run rec n r.body { s with h := s.h.set l (.lp { r1 with st := .busy }) }).bind fun (e', s') =>
                  match s'.h.get l with
                  | some (.lp r') => some (.iv (.b (e' = .nrm)), s'.h.set l (.lp { r' with st := if e' = .nrm then .ready else .done, pend := if e' = .nrm then none else some e' }))
                  | _ => none
              else none
            | _ => none
          | _ => none
      else none
    | _ => none

theorem call_succ (T : Tab) (n : Nat) : call T (n + 1) = callR T (call T n) n := by
  funext c a h
  cases c <;> rfl

theorem callR_le {T : Tab} {rec rec' : Rec} (hr : Le rec rec') {n n' : Nat} (hn : n ≤ n') : Le (callR T rec n) (callR T rec' n') := by
  intro c a h r e
  cases c with
  | fn f =>
    simp only [callR] at e ⊢
    split at e
    · exact e
    · refine bind_le (fun _ h => h) (fun fn _ e => bind_le (fun _ h => run_le hr hn _ h) (fun ⟨ex, s⟩ _ e => ?_) e) e
      cases ex with
      | nrm => exact bind_le (fun _ h => defers_le (callD_le hr hn) h) (fun _ _ e => e) e
      | ret => exact bind_le (fun _ h => defers_le (callD_le hr hn) h) (fun _ _ e => e) e
      | exit id => exact e
      | goto l => exact e
  | yld l =>
    simp only [callR] at e ⊢
    split at e
    · split at e
      · rename_i h
        rw [if_pos h]
        refine bind_le (fun _ h => run_le hr hn _ h) (fun ⟨ex, s⟩ _ e => ?_) e
        cases ex with
        | nrm =>
          simp only at e ⊢
          split at e
          · split at e
            · rename_i h
              rw [if_pos h]
              exact bind_le (fun _ h => run_le hr hn _ h) (fun _ _ e => e) e
            · cases e
          · cases e
        | exit id => exact e
        | goto l => exact e
        | ret => exact e
      · cases e
    · cases e

theorem call_le {T : Tab} : ∀ {n n' : Nat}, n ≤ n' → Le (call T n) (call T n')
  | 0, _, _ => fun c a h r e => by cases c <;> cases e
  | n + 1, 0, h => by omega
  | n + 1, n' + 1, h => by
    rw [call_succ, call_succ]
    exact callR_le (call_le (by omega)) (by omega)

/-- With known answers. -/
def callO (T : Tab) (O : Rec) : Nat → Rec
  | 0 => O
  | n + 1 => fun c a h => match O c a h with
    | some r => some r
    | none => callR T (callO T O n) n c a h

theorem callO_le {T : Tab} {O : Rec} {N : Nat} (hO : Le O (call T N)) : ∀ n, Le (callO T O n) (call T (N + n))
  | 0 => hO
  | n + 1 => fun c a h r e => by
    simp only [callO] at e
    split at e
    · rename_i r' h'
      simp only [Option.some.injEq] at e
      subst e
      exact call_le (by omega) _ _ _ _ (hO _ _ _ _ h')
    · rw [← Nat.add_assoc, call_succ]
      exact callR_le (callO_le hO n) (by omega) _ _ _ _ e

/-! ### two answers are one -/
def eqRows : List (List AV) → List (List AV) → Bool
  | [], [] => true
  | x :: xs, y :: ys => eqAVl x y && eqRows xs ys
  | _, _ => false
def eqBlks : List (Nat × Blk) → List (Nat × Blk) → Bool
  | [], [] => true
  | (a, .cells s x) :: xs, (b, .cells t y) :: ys => a == b && s == t && eqRows x y && eqBlks xs ys
  | _, _ => false
def eqAns : Option (AV × AH) → AV × AH → Bool
  | some (v, h), (v', h') => eqAV v v' && h.next == h'.next && eqBlks h.bl h'.bl
  | none, _ => false

theorem eqRows_ok : ∀ (x y : List (List AV)), eqRows x y = true → x = y
  | [], [], _ => rfl
  | [], _ :: _, h => by simp [eqRows] at h
  | _ :: _, [], h => by simp [eqRows] at h
  | x :: xs, y :: ys, h => by
    simp only [eqRows, Bool.and_eq_true] at h
    rw [eqAVl_ok _ _ h.1, eqRows_ok _ _ h.2]
theorem eqBlks_ok : ∀ (x y : List (Nat × Blk)), eqBlks x y = true → x = y
  | [], [], _ => rfl
  | [], _ :: _, h => by simp [eqBlks] at h
  | (a, .cells s x) :: xs, y, h => by
    cases y with
    | nil => simp [eqBlks] at h
    | cons p ys =>
      obtain ⟨b, blk⟩ := p
      cases blk with
      | cells t y =>
        simp only [eqBlks, Bool.and_eq_true, beq_iff_eq] at h
        obtain ⟨⟨⟨h1, h2⟩, h3⟩, h4⟩ := h
        rw [h1, h2, eqRows_ok _ _ h3, eqBlks_ok _ _ h4]
      | mp _ => simp [eqBlks] at h
      | lp _ => simp [eqBlks] at h
  | (a, .mp _) :: xs, y, h => by cases y <;> simp [eqBlks] at h
  | (a, .lp _) :: xs, y, h => by cases y <;> simp [eqBlks] at h
theorem eqAns_ok {x : Option (AV × AH)} {r : AV × AH} (h : eqAns x r = true) : x = some r := by
  cases x with
  | none => simp [eqAns] at h
  | some p =>
    obtain ⟨v, ⟨n, bl⟩⟩ := p
    obtain ⟨v', ⟨n', bl'⟩⟩ := r
    simp only [eqAns, Bool.and_eq_true, beq_iff_eq] at h
    obtain ⟨⟨h1, h2⟩, h3⟩ := h
    rw [eqAV_ok _ _ h1, h2, eqBlks_ok _ _ h3]

end Go.Eng

/- The engine, part 33: laws to compute by. What comes behind is not looked at ahead of its turn. -/
namespace Go.Eng

def seqK (rec : Rec) (n : Nat) (b : ACode) (p : Ex × St) : Option (Ex × St) :=
  match p.1 with
  | .nrm => run rec n b p.2
  | e => some (e, p.2)
theorem seqK_nrm (rec : Rec) (n : Nat) (b : ACode) (s : St) : seqK rec n b (.nrm, s) = run rec n b s := rfl
theorem seqK_ret (rec : Rec) (n : Nat) (b : ACode) (s : St) : seqK rec n b (.ret, s) = some (.ret, s) := rfl
theorem seqK_exit (rec : Rec) (n : Nat) (b : ACode) (i : Nat) (s : St) : seqK rec n b (.exit i, s) = some (.exit i, s) := rfl
theorem seqK_goto (rec : Rec) (n : Nat) (b : ACode) (i : Nat) (s : St) : seqK rec n b (.goto i, s) = some (.goto i, s) := rfl

def loopK (f : St → Option (Ex × St)) (n : Nat) (p : Ex × St) : Option (Ex × St) :=
  match p.1 with
  | .nrm => loopN f n p.2
  | e => some (e, p.2)
theorem loopK_nrm (f : St → Option (Ex × St)) (n : Nat) (s : St) : loopK f n (.nrm, s) = loopN f n s := rfl
theorem loopK_ret (f : St → Option (Ex × St)) (n : Nat) (s : St) : loopK f n (.ret, s) = some (.ret, s) := rfl
theorem loopK_exit (f : St → Option (Ex × St)) (n i : Nat) (s : St) : loopK f n (.exit i, s) = some (.exit i, s) := rfl
theorem loopK_goto (f : St → Option (Ex × St)) (n i : Nat) (s : St) : loopK f n (.goto i, s) = some (.goto i, s) := rfl
theorem loop_step (f : St → Option (Ex × St)) (n : Nat) (s : St) : loopN f (n + 1) s = (f s).bind (loopK f n) := rfl

theorem jump_nrm (l : Nat) (f : St → Option (Ex × St)) (n : Nat) (s : St) : jumpN l f (n + 1) (.nrm, s) = some (.nrm, s) := rfl
theorem jump_ret (l : Nat) (f : St → Option (Ex × St)) (n : Nat) (s : St) : jumpN l f (n + 1) (.ret, s) = some (.ret, s) := rfl
theorem jump_exit (l : Nat) (f : St → Option (Ex × St)) (n i : Nat) (s : St) : jumpN l f (n + 1) (.exit i, s) = some (.exit i, s) := rfl
theorem jump_goto (l : Nat) (f : St → Option (Ex × St)) (n i : Nat) (s : St) : jumpN l f (n + 1) (.goto i, s) = if i = l then (f s).bind (jumpN l f n) else some (.goto i, s) := rfl

theorem run_skip (rec : Rec) (n : Nat) (s : St) : run rec n .skip s = some (.nrm, s) := rfl
theorem run_label (rec : Rec) (n : Nat) (s : St) : run rec n .label s = some (.nrm, s) := rfl
theorem run_ret (rec : Rec) (n : Nat) (s : St) : run rec n .ret s = some (.ret, s) := rfl
theorem run_exit (rec : Rec) (n i : Nat) (s : St) : run rec n (.exit i) s = some (.exit i, s) := rfl
theorem run_goto (rec : Rec) (n i : Nat) (s : St) : run rec n (.goto i) s = some (.goto i, s) := rfl
theorem run_seq (rec : Rec) (n : Nat) (a b : ACode) (s : St) : run rec n (.seq a b) s = (run rec n a s).bind (seqK rec n b) := rfl
theorem run_reg (rec : Rec) (n k : Nat) (ops : List AOper) (t : List AV) (h : AH) (d : List (AV × List AV)) (rd : Bool) : run rec n (.reg k ops) ⟨t, h, d, rd⟩ = (execs rec h.next ops ⟨t, h.bump k, d, rd⟩).map fun s' => (.nrm, s') := rfl
def condK (rec : Rec) (n : Nat) (a b : ACode) (s : St) (v : AV) : Option (Ex × St) :=
  match v with
  | .iv (.b p) => if p then run rec n a s else run rec n b s
  | _ => none
theorem run_cond (rec : Rec) (n : Nat) (x : X) (a b : ACode) (t : List AV) (h : AH) (d : List (AV × List AV)) (rd : Bool) : run rec n (.cond x a b) ⟨t, h, d, rd⟩ = condK rec n a b ⟨t, h, d, rd⟩ (x.ev t) := rfl
theorem condK_true (rec : Rec) (n : Nat) (a b : ACode) (s : St) : condK rec n a b s (.iv (.b true)) = run rec n a s := rfl
theorem condK_false (rec : Rec) (n : Nat) (a b : ACode) (s : St) : condK rec n a b s (.iv (.b false)) = run rec n b s := rfl
def exitTo (id : Nat) (p : Ex × St) : Ex × St := (if p.1 = .exit id then .nrm else p.1, p.2)
theorem exitTo_nrm (i : Nat) (s : St) : exitTo i (.nrm, s) = (.nrm, s) := rfl
theorem exitTo_ret (i : Nat) (s : St) : exitTo i (.ret, s) = (.ret, s) := rfl
theorem exitTo_goto (i j : Nat) (s : St) : exitTo i (.goto j, s) = (.goto j, s) := by simp [exitTo]
theorem exitTo_exit (i j : Nat) (s : St) : exitTo i (.exit j, s) = if j = i then (.nrm, s) else (.exit j, s) := by
  simp only [exitTo, Ex.exit.injEq]
  split <;> rfl
theorem run_blk (rec : Rec) (n i : Nat) (c : ACode) (s : St) : run rec n (.blk i c) s = (run rec n c s).map (exitTo i) := rfl
theorem run_loop (rec : Rec) (n : Nat) (c : ACode) (s : St) : run rec n (.loop c) s = loopN (run rec n c) n s := rfl
theorem run_scope (rec : Rec) (n l : Nat) (c rest : ACode) (s : St) : run rec n (.scope c l rest) s = (run rec n c s).bind (jumpN l (run rec n rest) n) := rfl
theorem run_forget (rec : Rec) (n : Nat) (ts : List Nat) (t : List AV) (h : AH) (d : List (AV × List AV)) (rd : Bool) : run rec n (.forget ts) ⟨t, h, d, rd⟩ = some (.nrm, ⟨forgetT ts t, h, d, rd⟩) := rfl

def callK (T : Tab) (n : Nat) (res : List RV) (p : Ex × St) : Option (AV × AH) :=
  match p.1 with
  | .nrm | .ret => (defers (callD T (call T n) n) p.2.d p.2.h).bind fun h' => (results { p.2 with h := h' } res).map fun v => (v, h')
  | _ => none
theorem callK_nrm (T : Tab) (n : Nat) (res : List RV) (t : List AV) (h : AH) (rd : Bool) : callK T n res (.nrm, ⟨t, h, [], rd⟩) = (results ⟨t, h, [], rd⟩ res).map fun v => (v, h) := rfl
theorem callK_ret (T : Tab) (n : Nat) (res : List RV) (t : List AV) (h : AH) (rd : Bool) : callK T n res (.ret, ⟨t, h, [], rd⟩) = (results ⟨t, h, [], rd⟩ res).map fun v => (v, h) := rfl
theorem call_fn {T : Tab} {f : Nat} {fn : AFn} (hp : T.prim f = none) (hf : T.fn f = some fn) (n : Nat) (args : List AV) (h : AH) : call T (n + 1) (.fn f) args h = (run (call T n) n fn.body ⟨args ++ List.replicate (fn.ntmps - args.length) .undef, h, [], false⟩).bind (callK T n fn.res) := by
  simp only [call, hp, hf, Option.bind_some]
  rfl
theorem execs_nil (rec : Rec) (base : Nat) (s : St) : execs rec base [] s = some s := rfl
theorem execs_cons (rec : Rec) (base : Nat) (o : AOper) (os : List AOper) (s : St) : execs rec base (o :: os) s = (exec1 rec base o s).bind (execs rec base os) := rfl

end Go.Eng
