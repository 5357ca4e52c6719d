/- The engine, part 4: operations that look at temporaries alone do what the model's do. -/
import Derived.Test.YtabhhckaclibaaaGreatEngA
import Derived.WalkKit
set_option linter.all false
namespace Go.Eng

mutual
theorem ofVal_ok (x : Cx) : ∀ (v : Value), okVal v = true → CA x (ofVal v) v
  | .bool b, _ => by simp [ofVal, CA, CI]
  | .int k n, _ => by simp [ofVal, CA, CI]
  | .string s, _ => by cases s; simp [ofVal, CA, CI]
  | .slice none 0 0, _ => by simp [ofVal, CA, CI]
  | .slice (some a) n c, _ => by simp [ofVal, CA, CI]
  | .slice none (n + 1) c, _ => by simp [ofVal, CA, CI]
  | .slice none 0 (c + 1), _ => by simp [ofVal, CA, CI]
  | .agg ⟨l⟩, h => by
    simp only [okVal] at h
    simp only [ofVal, CA]
    obtain ⟨h1, h2⟩ := ofLeaves_ok x l h
    exact ⟨⟨l⟩, rfl, h1, h2⟩
  | .tuple ⟨l⟩, h => by
    simp only [okVal] at h
    simp only [ofVal, CA]
    exact ⟨⟨l⟩, rfl, ofVals_ok x l h⟩
  | .func (.func f) ⟨a⟩ ⟨c⟩, h => by
    simp only [okVal, Bool.and_eq_true] at h
    simp only [ofVal, CA]
    exact ⟨⟨a⟩, ⟨c⟩, rfl, ofVals_ok x a h.1, ofVals_ok x c h.2⟩
  | .func (.method n) a c, _ => by simp [ofVal, CA, CI]
  | .func (.methodOf t n) a c, _ => by simp [ofVal, CA, CI]
  | .func (.via t q f r) a c, _ => by simp [ofVal, CA, CI]
  | .func (.yield l) a c, _ => by simp [ofVal, CA, CI]
  | .float k b, _ => by simp [ofVal, CA, CI]
  | .complex k b c, _ => by simp [ofVal, CA, CI]
  | .pointer p, _ => by simp [ofVal, CA, CI]
  | .map p, _ => by simp [ofVal, CA, CI]
  | .chan p, _ => by simp [ofVal, CA, CI]
  | .nilFunc, _ => by simp [ofVal, CA, CI]
  | .iface t v, _ => by simp [ofVal, CA, CI]
  | .nilIface, _ => by simp [ofVal, CA, CI]
theorem ofVals_ok (x : Cx) : ∀ (l : List Value), okVals l = true → CAs x (ofVals l) l
  | [], _ => by simp [ofVals, CAs]
  | v :: vs, h => by
    simp only [okVals, Bool.and_eq_true] at h
    simp only [ofVals, CAs]
    exact ⟨ofVal_ok x v h.1, ofVals_ok x vs h.2⟩
theorem ofLeaves_ok (x : Cx) : ∀ (l : List Value), okLeaves l = true → CAs x (ofVals l) l ∧ ∀ u ∈ l, leafV u
  | [], _ => by simp [ofVals, CAs]
  | v :: vs, h => by
    cases v <;> simp only [okLeaves, Bool.and_eq_true, Bool.false_eq_true] at h <;>
      (obtain ⟨h1, h2⟩ := h
       obtain ⟨h3, h4⟩ := ofLeaves_ok x vs h2
       simp only [ofVals, CAs]
       refine ⟨⟨ofVal_ok x _ h1, h3⟩, fun u hu => ?_⟩
       rcases List.mem_cons.1 hu with rfl | hu
       · simp [leafV]
       · exact h4 u hu)
end

theorem cX_ok {x : Cx} {t : List AV} {a : Act} (ht : CAs x t a.tmps.toList) {o : Operand} {y : X} (h : cX o = some y) : CA x (y.ev t) (a.eval o) := by
  cases o with
  | tmp n =>
    simp only [cX, Option.some.injEq] at h
    subst h
    simp only [X.ev, Act.eval]
    cases hn : t[n]? with
    | none =>
      rw [List.getD_eq_getElem?_getD, hn]
      simp [CA, CI]
    | some b =>
      obtain ⟨v, h1, h2⟩ := CAs_get ht n hn
      rw [List.getD_eq_getElem?_getD, hn]
      simp only [Option.getD_some]
      have : a.tmps.getD n undef = v := by
        simp only [Array.getElem?_toList] at h1
        simp [Array.getD_eq_getD_getElem?, h1]
      rw [this]; exact h2
  | const v =>
    simp only [cX] at h
    split at h
    · rename_i hv
      simp only [Option.some.injEq] at h
      subst h
      exact ofVal_ok x v hv
    · cases h
  | global g => simp [cX] at h
  | func f =>
    simp only [cX, Option.some.injEq] at h
    subst h
    simp only [X.ev, Act.eval, CA]
    exact ⟨#[], #[], rfl, by simp [CAs], by simp [CAs]⟩

/-- An operation that leaves a value, and the world as it is. -/
abbrev Gives (P : Program) (o : Oper) (a : Act) (x : Cx) (v : AV) : Prop := ∃ u, (execOp a.eval o).run P x.w = .ok (.value u) x.w ∧ CA x v u

theorem CA_b {x : Cx} {b : Bool} {u : Value} (h : CA x (.iv (.b b)) u) : u = .bool b := by simpa [CA, CI] using h
theorem CA_i {x : Cx} {k : IntKind} {n : Int} {u : Value} (h : CA x (.iv (.i k n)) u) : u = .int k n := by simpa [CA, CI] using h
theorem CA_s {x : Cx} {l : List UInt8} {u : Value} (h : CA x (.iv (.s l)) u) : u = .string ⟨l.toArray⟩ := by simpa [CA, CI] using h
theorem CA_b' (x : Cx) (b : Bool) : CA x (.iv (.b b)) (.bool b) := by simp [CA, CI]
theorem CA_i' (x : Cx) (k : IntKind) (n : Int) : CA x (.iv (.i k n)) (.int k n) := by simp [CA, CI]
theorem CA_s' (x : Cx) (l : List UInt8) : CA x (.iv (.s l)) (.string ⟨l.toArray⟩) := by simp [CA, CI]

theorem bytesLess_eq : ∀ a b, Op.bytesLess a b = bytesLess a b
  | [], [] => rfl
  | [], _ :: _ => rfl
  | _ :: _, [] => rfl
  | x :: a, y :: b => by simp only [Op.bytesLess, bytesLess, bytesLess_eq a b]

theorem run_sizeT {P : Program} {t : TypeId} {n : Nat} (h : sizeT P t = some n) (w : World) : (sizeOf t).run P w = .ok n w := by
  simp only [sizeT, Option.map_eq_some_iff] at h
  obtain ⟨i, hi, e⟩ := h
  simp [sizeOf, typeInfo, hi, e]
theorem run_aggT {P : Program} {t : TypeId} {b : Bool} (h : aggT P t = some b) (w : World) : (isAgg t).run P w = .ok b w := by
  simp only [aggT, Option.map_eq_some_iff] at h
  obtain ⟨d, hd, e⟩ := h
  simp only [isAgg, Sem.run_bind, run_underlying hd, Result.andThen_ok]
  subst e
  cases d <;> rfl
theorem run_zeroT' {P : Program} {t : TypeId} {z : AV} (h : zeroT P t = some z) : ∃ v i, P.info? t = some i ∧ i.zero = some v ∧ (∀ w, (zeroValue t).run P w = .ok v w) ∧ okVal v = true ∧ isTup v = false ∧ z = ofVal v := by
  simp only [zeroT, Option.bind_eq_some_iff] at h
  obtain ⟨v, ⟨i, hi, hz⟩, h⟩ := h
  split at h
  · rename_i hv
    simp only [Bool.and_eq_true, Bool.not_eq_true'] at hv
    simp only [Option.some.injEq] at h
    exact ⟨v, i, hi, hz, fun w => by simp [zeroValue, typeInfo, hi, hz], hv.1, hv.2, h.symm⟩
  · cases h
theorem run_zeroT {P : Program} {t : TypeId} {z : AV} (h : zeroT P t = some z) (w : World) : ∃ v, (zeroValue t).run P w = .ok v w ∧ okVal v = true ∧ z = ofVal v := by
  obtain ⟨v, _, _, _, h1, h2, _, h3⟩ := run_zeroT' h
  exact ⟨v, h1 w, h2, h3⟩

theorem CAs_drop {x : Cx} : ∀ {l : List AV} {vs : List Value} (_ : CAs x l vs) (n : Nat), CAs x (l.drop n) (vs.drop n)
  | [], [], _, n => by simp [CAs]
  | [], _ :: _, h, _ => by simp [CAs] at h
  | _ :: _, [], h, _ => by simp [CAs] at h
  | a :: as, v :: vs, h, 0 => by simpa using h
  | a :: as, v :: vs, h, n + 1 => by simp only [CAs] at h; simpa using CAs_drop h.2 n
theorem CAs_take {x : Cx} : ∀ {l : List AV} {vs : List Value} (_ : CAs x l vs) (n : Nat), CAs x (l.take n) (vs.take n)
  | [], [], _, n => by simp [CAs]
  | [], _ :: _, h, _ => by simp [CAs] at h
  | _ :: _, [], h, _ => by simp [CAs] at h
  | a :: as, v :: vs, h, 0 => by simp [CAs]
  | a :: as, v :: vs, h, n + 1 => by simp only [CAs] at h; simp only [List.take_succ_cons, CAs]; exact ⟨h.1, CAs_take h.2 n⟩

theorem extract_list (cs : Array Value) (off n : Nat) : (cs.extract off (off + n)).toList = (cs.toList.drop off).take n := by
  simp [Array.toList_extract, List.extract_eq_take_drop]

/-- A part of cells, as the model takes it. -/
theorem part_ok {P : Program} {x : Cx} {T : TypeId} {n off : Nat} {ag : Bool} (hn : sizeT P T = some n) (hag : aggT P T = some ag) {l : List AV} {cs : Array Value} (h : CAs x l cs.toList) (hl : ∀ u ∈ cs.toList, leafV u) {v : AV} (he : partV l off n ag = some v) :
    ∃ u, (part T cs off).run P x.w = .ok u x.w ∧ CA x v u := by
  unfold partV at he
  split at he
  · rename_i hle
    cases ag with
    | true =>
      simp only [if_true, Option.some.injEq] at he
      subst he
      refine ⟨.agg (cs.extract off (off + n)), by simp [part, run_aggT hag, run_sizeT hn], ?_⟩
      simp only [CA]
      refine ⟨_, rfl, ?_, fun u hu => ?_⟩
      · rw [extract_list]; exact CAs_take (CAs_drop h off) n
      · rw [extract_list] at hu
        exact hl u (List.mem_of_mem_drop (List.mem_of_mem_take hu))
    | false =>
      simp only [Bool.false_eq_true, if_false] at he
      obtain ⟨u, h1, h2⟩ := CAs_get h off he
      have h1 : cs[off]? = some u := by simpa using h1
      exact ⟨u, by simp [part, run_aggT hag, h1], h2⟩
  · cases he

theorem add_mk (k off n : Nat) : (⟨k, off, none⟩ : Addr).add n = ⟨k, off + n, none⟩ := by
  unfold Addr.add; split <;> simp_all

theorem isNil_sl {x : Cx} {v : AV} {u : Value} {p : Bool} (h : CA x v u) (hp : isNil .sl v = some p) : ∃ ad n c, u = .slice ad n c ∧ p = ad.isNone := by
  unfold isNil at hp
  split at hp <;> simp_all only [Option.some.injEq, reduceCtorEq] <;> subst hp
  · simp only [CA, CI] at h
    obtain ⟨ad, cap, e, _, hn, _⟩ := h
    obtain ⟨rfl, rfl⟩ := hn trivial
    exact ⟨_, _, _, e, rfl⟩
  · simp only [CA, CI] at h
    obtain ⟨ad, cap, e, _, hn, hr⟩ := h
    obtain ⟨k, off, sz, rfl, _⟩ := hr (by simp)
    exact ⟨_, _, _, e, rfl⟩
  · simp only [CA] at h
    obtain ⟨_, ad, c, e, hc', _, hm⟩ := h
    cases ad with
    | none => simp only at hm; omega
    | some ad => exact ⟨_, _, _, e, rfl⟩
  · simp only [CA, CI] at h
    exact ⟨_, _, _, h, rfl⟩
  · simp only [CA, CI] at h
    exact ⟨_, _, _, h, rfl⟩
theorem isNil_pt {x : Cx} {v : AV} {u : Value} {p : Bool} (h : CA x v u) (hp : isNil .pt v = some p) : ∃ q, u = .pointer q ∧ p = q.isNone := by
  unfold isNil at hp
  split at hp <;> simp_all only [Option.some.injEq, reduceCtorEq] <;> subst hp
  · simp only [CA, CI] at h
    exact ⟨_, h, rfl⟩
  · simp only [CA, CI] at h
    obtain ⟨k, off, e, _⟩ := h
    exact ⟨_, e, rfl⟩
  · simp only [CA] at h
    obtain ⟨_, k, off, _, e⟩ := h
    exact ⟨_, e, rfl⟩
theorem isNil_mp {x : Cx} {v : AV} {u : Value} {p : Bool} (h : CA x v u) (hp : isNil .mp v = some p) : ∃ q, u = .map q ∧ p = q.isNone := by
  unfold isNil at hp
  split at hp <;> simp_all only [Option.some.injEq, reduceCtorEq] <;> subst hp
  · simp only [CA, CI] at h
    exact ⟨_, h, rfl⟩
  · simp only [CA] at h
    obtain ⟨_, k, off, _, e⟩ := h
    exact ⟨_, e, rfl⟩
theorem isNil_fn {x : Cx} {v : AV} {u : Value} {p : Bool} (h : CA x v u) (hp : isNil .fn v = some p) : (p = true ∧ u = .nilFunc) ∨ (p = false ∧ ∃ f q r, u = .func f q r) := by
  unfold isNil at hp
  split at hp <;> simp_all only [Option.some.injEq, reduceCtorEq] <;> subst hp
  · simp only [CA, CI] at h
    exact .inl ⟨by first | trivial | rfl, h⟩
  · simp only [CA, CI] at h
    obtain ⟨a, c, e, _⟩ := h
    exact .inr ⟨by first | trivial | rfl, _, _, _, e⟩
  · simp only [CA] at h
    obtain ⟨a, c, e, _⟩ := h
    exact .inr ⟨by first | trivial | rfl, _, _, _, e⟩
  · simp only [CA] at h
    obtain ⟨_, k, off, _, e⟩ := h
    exact .inr ⟨by first | trivial | rfl, _, _, _, e⟩
theorem isNil_ifc {x : Cx} {v : AV} {u : Value} {p : Bool} (h : CA x v u) (hp : isNil .ifc v = some p) : (p = true ∧ u = .nilIface) ∨ (p = false ∧ ∃ f q, u = .iface f q) := by
  unfold isNil at hp
  split at hp <;> simp_all only [Option.some.injEq, reduceCtorEq] <;> subst hp
  · simp only [CA, CI] at h
    exact .inl ⟨by first | trivial | rfl, h⟩
  · simp only [CA, CI] at h
    obtain ⟨u, e, _⟩ := h
    exact .inr ⟨by first | trivial | rfl, _, _, e⟩
  · simp only [CA] at h
    obtain ⟨u, e, _⟩ := h
    exact .inr ⟨by first | trivial | rfl, _, _, e⟩

section
variable {P : Program} {cfg : Cfg} {g : Nat} {x : Cx} {t : List AV} {a : Act} (ht : CAs x t a.tmps.toList)
include ht

theorem mov_ok {y : Operand} {z : X} {v : AV} (hc : cX y = some z) (he : evalP t (.mov z) = some v) {o : Oper} (ho : o.op = .move y ∨ o.op = .assign y) : Gives P o a x v := by
  simp only [evalP, Option.some.injEq] at he
  subst he
  refine ⟨a.eval y, ?_, cX_ok ht hc⟩
  rcases ho with ho | ho <;> simp [execOp, ho, pure]

theorem pick_ok {c p q : Operand} {c' p' q' : X} {v : AV} (h1 : cX c = some c') (h2 : cX p = some p') (h3 : cX q = some q') (he : evalP t (.pick c' p' q') = some v) {o : Oper} (ho : o.op = .pick c p q) : Gives P o a x v := by
  simp only [evalP] at he
  split at he
  · rename_i b hb
    have hc := cX_ok ht h1
    rw [hb] at hc
    have hc := CA_b hc
    simp only [Option.some.injEq] at he
    subst he
    refine ⟨if b then a.eval p else a.eval q, ?_, ?_⟩
    · simp [execOp, ho, hc, asBool]
    · cases b
      · exact cX_ok ht h3
      · exact cX_ok ht h2
  · cases he

theorem not_ok {y : Operand} {z : X} {v : AV} {T : TypeId} (hc : cX y = some z) (he : evalP t (.not z) = some v) {o : Oper} (ho : o.op = .unOp .not T y) : Gives P o a x v := by
  simp only [evalP] at he
  split at he
  · rename_i b hb
    have h := cX_ok ht hc
    rw [hb] at h
    have h := CA_b h
    simp only [Option.some.injEq] at he
    subst he
    exact ⟨.bool !b, by simp [execOp, ho, h, Op.unary], CA_b' _ _⟩
  · cases he

theorem neg_ok {y : Operand} {z : X} {v : AV} {T : TypeId} (hc : cX y = some z) (he : evalP t (.neg z) = some v) {o : Oper} (ho : o.op = .unOp .neg T y) : Gives P o a x v := by
  simp only [evalP] at he
  split at he
  · rename_i k n hb
    have h := cX_ok ht hc
    rw [hb] at h
    have h := CA_i h
    simp only [Option.some.injEq] at he
    subst he
    exact ⟨.int k (k.wrap (0 - n)), by simp [execOp, ho, h, Op.unary, Op.intArith], CA_i' _ _ _⟩
  · cases he

theorem ext_ok {y : Operand} {z : X} {v : AV} {i : Nat} (hc : cX y = some z) (he : evalP t (.ext z i) = some v) {o : Oper} (ho : o.op = .extract y i) : Gives P o a x v := by
  simp only [evalP] at he
  split at he
  · rename_i l hb
    have h := cX_ok ht hc
    rw [hb] at h
    simp only [CA] at h
    obtain ⟨cs, e, h⟩ := h
    obtain ⟨u, h1, h2⟩ := CAs_get h i he
    refine ⟨u, ?_, h2⟩
    have h1 : cs[i]? = some u := by simpa using h1
    simp [execOp, ho, e, Instr.extract, h1]
  · cases he

theorem mkfn_ok {f : Nat} {p q : Array Operand} {p' q' : List X} {v : AV} (h1 : mapO cX p.toList = some p') (h2 : mapO cX q.toList = some q') (he : evalP t (.mkfn f p' q') = some v) {o : Oper} (ho : o.op = .makeFunc (.func f) p q) : Gives P o a x v := by
  have key : ∀ (l : List Operand) (l' : List X), mapO cX l = some l' → CAs x (l'.map (X.ev t)) (l.map a.eval) := by
    intro l
    induction l with
    | nil => intro l' h; simp only [mapO, Option.some.injEq] at h; subst h; simp [CAs]
    | cons y ys ih =>
      intro l' h
      simp only [mapO, Option.bind_eq_some_iff, Option.map_eq_some_iff] at h
      obtain ⟨z, hz, zs, hzs, e⟩ := h
      subst e
      simp only [List.map_cons, CAs]
      exact ⟨cX_ok ht hz, ih zs hzs⟩
  simp only [evalP, Option.some.injEq] at he
  subst he
  refine ⟨.func (.func f) (p.map a.eval) (q.map a.eval), by simp [execOp, ho, Instr.makeFunc], ?_⟩
  simp only [CA]
  exact ⟨_, _, rfl, by simpa using key _ _ h1, by simpa using key _ _ h2⟩

theorem conv_ok {y : Operand} {z : X} {v : AV} {s d : TypeId} {k k' : IntKind} (hs : P.underlying s = some (.int k')) (hd : P.underlying d = some (.int k)) (hc : cX y = some z) (he : evalP t (.conv k z) = some v) {o : Oper} (ho : o.op = .convert s d y) : Gives P o a x v := by
  simp only [evalP] at he
  split at he
  · rename_i k0 n hb
    have h := cX_ok ht hc
    rw [hb] at h
    have h := CA_i h
    simp only [Option.some.injEq] at he
    subst he
    exact ⟨.int k (k.wrap n), by simp [execOp, ho, h, convert, run_underlying hs, run_underlying hd, Conv.intToInt], CA_i' _ _ _⟩
  · cases he

theorem lens_ok {y : Operand} {z : X} {v : AV} {T : TypeId} {o : Oper} (hT : P.underlying T = some .string) (hc : cX y = some z) (he : evalP t (.lens z) = some v)
    {tys : Array TypeId} (hty : tys[0]? = some T) (ho : o.op = .call { callee := .builtin .len, args := #[y], argTypes := tys }) : Gives P o a x v := by
  have h := cX_ok ht hc
  simp only [evalP] at he
  split at he
  · rename_i u hb
    rw [hb] at h
    have h := CA_s h
    simp only [Option.some.injEq] at he
    subst he
    refine ⟨.int .i64 u.length, ?_, CA_i' _ _ _⟩
    have hsz : (⟨u.toArray⟩ : ByteArray).size = u.length := by simp [ByteArray.size]
    simp [execOp, ho, resolve, invoke, builtin, Builtin.len_, hty, h, run_underlying hT, goInt, hsz]
  · cases he

theorem len_ok {y : Operand} {z : X} {v : AV} {T e : TypeId} {o : Oper} (hT : P.underlying T = some (.slice e)) (hc : cX y = some z) (he : evalP t (.len z) = some v)
    {tys : Array TypeId} (hty : tys[0]? = some T) (ho : o.op = .call { callee := .builtin .len, args := #[y], argTypes := tys }) : Gives P o a x v := by
  have h := cX_ok ht hc
  have key : ∀ (ad : Option Addr) (n c : Nat), a.eval y = .slice ad n c → Gives P o a x (.iv (.i .i64 n)) := fun ad n c e =>
    ⟨.int .i64 n, by simp [execOp, ho, resolve, invoke, builtin, Builtin.len_, hty, e, run_underlying hT, goInt], CA_i' _ _ _⟩
  simp only [evalP] at he
  split at he
  · rename_i tg rows hb
    rw [hb] at h
    simp only [CA, CI] at h
    obtain ⟨ad, cap, e, _⟩ := h
    simp only [Option.some.injEq] at he
    subst he
    exact key _ _ _ e
  · rename_i hb
    rw [hb] at h
    simp only [CA] at h
    obtain ⟨_, ad, c, e, _⟩ := h
    simp only [Option.some.injEq] at he
    subst he
    exact key _ _ _ e
  · rename_i hb
    rw [hb] at h
    simp only [CA] at h
    obtain ⟨_, k, c, e, _⟩ := h
    simp only [Option.some.injEq] at he
    subst he
    exact key _ _ _ e
  · cases he

theorem lena_ok {y : Operand} {n : Nat} {v : AV} {T e : TypeId} {o : Oper} (hT : P.underlying T = some (.array n e) ∨ ∃ q, P.underlying T = some (.pointer q) ∧ P.underlying q = some (.array n e)) (he : evalP t (.lena n) = some v)
    {tys : Array TypeId} (hty : tys[0]? = some T) (ho : o.op = .call { callee := .builtin .len, args := #[y], argTypes := tys }) : Gives P o a x v := by
  simp only [evalP, Option.some.injEq] at he
  subst he
  refine ⟨.int .i64 n, ?_, CA_i' _ _ _⟩
  rcases hT with hT | ⟨q, hT, hq⟩
  · simp only [execOp, ho, resolve, invoke, builtin, Builtin.len_]
    simp [hty, run_underlying hT, goInt]
  · simp only [execOp, ho, resolve, invoke, builtin, Builtin.len_]
    simp [hty, run_underlying hT, run_underlying hq, goInt]

theorem cap_ok {y : Operand} {z : X} {v : AV} {T e : TypeId} {o : Oper} (hT : P.underlying T = some (.slice e)) (hc : cX y = some z) (he : evalP t (.cap z) = some v)
    {tys : Array TypeId} (hty : tys[0]? = some T) (ho : o.op = .call { callee := .builtin .cap, args := #[y], argTypes := tys }) : Gives P o a x v := by
  have h := cX_ok ht hc
  have key : ∀ (ad : Option Addr) (n c : Nat), a.eval y = .slice ad n c → Gives P o a x (.iv (.i .i64 c)) := fun ad n c e =>
    ⟨.int .i64 c, by simp [execOp, ho, resolve, invoke, builtin, Builtin.cap_, hty, e, run_underlying hT, goInt], CA_i' _ _ _⟩
  simp only [evalP] at he
  split at he
  · rename_i c hb
    rw [hb] at h
    simp only [CA] at h
    obtain ⟨_, ad, c', e, _, hc', _⟩ := h
    simp only [Option.some.injEq] at he
    subst he
    have := hc' _ rfl
    subst this
    exact key _ _ _ e
  · rename_i rows hb
    rw [hb] at h
    simp only [CA, CI] at h
    obtain ⟨ad, c', e, _, hn, _⟩ := h
    simp only [Option.some.injEq] at he
    subst he
    obtain ⟨_, rfl⟩ := hn trivial
    exact key _ _ _ e
  · cases he

theorem mkif_ok {y : Operand} {z : X} {v : AV} {T : TypeId} {ag : Bool} {o : Oper} (hT : ∃ d, P.underlying T = some d ∧ ∀ ms, d ≠ .interface ms) (hc : cX y = some z) (he : evalP t (.mkif T ag z) = some v) (ho : o.op = .makeInterface T y) : Gives P o a x v := by
  have h := cX_ok ht hc
  obtain ⟨d, hd, hne⟩ := hT
  have hrun : (execOp a.eval o).run P x.w = .ok (.value (.iface T (a.eval y))) x.w := by
    simp only [execOp, ho, Instr.makeInterface]
    cases d <;> simp [run_underlying hd]
    exact absurd rfl (hne _)
  have key : ∀ b, z.ev t = b → CA x (.ifc T b) (.iface T (a.eval y)) := fun b e => by
    simp only [CA]
    exact ⟨_, rfl, e ▸ h⟩
  simp only [evalP] at he
  split at he <;> first
    | (exfalso; simp at he; done)
    | (simp only [Option.some.injEq] at he; subst he; exact ⟨_, hrun, key _ (by first | assumption | rfl)⟩)

theorem nchk_ok {y : Operand} {z : X} {v : AV} {o : Oper} (hc : cX y = some z) (he : evalP t (.nchk z) = some v) (ho : o.op = .nilCheck y) : Gives P o a x v := by
  have h := cX_ok ht hc
  simp only [evalP] at he
  split at he
  all_goals first
    | (exfalso; simp at he; done)
    | (rename_i hb
       simp only [Option.some.injEq] at he
       subst he
       rw [hb] at h
       refine ⟨a.eval y, ?_, h⟩
       simp only [CA, CI] at h
       first
         | (obtain ⟨_, k, off, _, e⟩ := h; simp [execOp, ho, e]; done)
         | (obtain ⟨k, off, e, _⟩ := h; simp [execOp, ho, e]; done)
         | (obtain ⟨u, e, _⟩ := h; simp [execOp, ho, e]; done))

theorem bin_ok' {op : BinOp} {y z : Operand} {y' z' : X} {v : AV} {T yT : TypeId} {o : Oper} (h1 : cX y = some y') (h2 : cX z = some z')
    (he : evalP t (.bin op y' z') = some v) (ho : o.op = .binOp op T y z yT) : Gives P o a x v := by
  have e1 := cX_ok ht h1
  have e2 := cX_ok ht h2
  simp only [evalP] at he
  unfold binV at he
  split at he
  · rename_i k m k' n hb1 hb2
    rw [hb1] at e1
    rw [hb2] at e2
    have e1 := CA_i e1
    have e2 := CA_i e2
    have hg : ∀ w, (eqGuard op T y z (.int k m) (.int k' n)).run P w = .ok () w := fun w => by
      unfold eqGuard; cases op <;> simp
    cases op <;> simp only at he
    case shl =>
      simp only [shI] at he
      split at he
      · simp at he
      · rename_i hb
        simp only [Option.map_some, Option.some.injEq] at he
        subst he
        exact ⟨.int k (k.wrap (m * 2 ^ (min n.toNat k.bits))), by simp [execOp, ho, e1, e2, hg, binOp, Op.shift, hb], CA_i' _ _ _⟩
    case shr =>
      simp only [shI] at he
      split at he
      · simp at he
      · rename_i hb
        simp only [Option.map_some, Option.some.injEq] at he
        subst he
        exact ⟨.int k (m.fdiv (2 ^ (min n.toNat k.bits))), by simp [execOp, ho, e1, e2, hg, binOp, Op.shift, hb], CA_i' _ _ _⟩
    all_goals
      split at he
      case isFalse => simp at he
      rename_i hk
      subst hk
      simp only [binI] at he
    case h_1.quo.isTrue =>
      split at he
      · simp at he
      · rename_i hz
        simp only [Option.map_some, Option.some.injEq] at he
        subst he
        exact ⟨_, by simp [execOp, ho, e1, e2, hg, binOp, Op.intDiv, hz], CA_i' _ _ _⟩
    case h_1.rem.isTrue =>
      split at he
      · simp at he
      · rename_i hz
        simp only [Option.map_some, Option.some.injEq] at he
        subst he
        exact ⟨_, by simp [execOp, ho, e1, e2, hg, binOp, Op.intDiv, hz], CA_i' _ _ _⟩
    all_goals
      simp only [Option.map_some, Option.some.injEq] at he
      subst he
      first
        | exact ⟨_, by simp [execOp, ho, e1, e2, hg, binOp, Op.intArith, Op.intBits, Op.intCmp]; rfl, CA_i' _ _ _⟩
        | exact ⟨_, by simp [execOp, ho, e1, e2, hg, binOp, Op.intArith, Op.intBits, Op.intCmp]; rfl, CA_b' _ _⟩
        | exact ⟨_, by simp [execOp, ho, e1, e2, hg, binOp, Op.intArith, Op.intBits, Op.intCmp], CA_i' _ _ _⟩
        | exact ⟨_, by simp [execOp, ho, e1, e2, hg, binOp, Op.intArith, Op.intBits, Op.intCmp], CA_b' _ _⟩
  · rename_i l m hb1 hb2
    rw [hb1] at e1
    rw [hb2] at e2
    have e1 := CA_s e1
    have e2 := CA_s e2
    have hg : ∀ w, (eqGuard op T y z (.string ⟨l.toArray⟩) (.string ⟨m.toArray⟩)).run P w = .ok () w := fun w => by
      unfold eqGuard; cases op <;> simp
    simp only [Option.map_eq_some_iff] at he
    obtain ⟨r, hr, e⟩ := he
    subst e
    cases op <;> simp only [strI] at hr
    all_goals first
      | (exfalso; simp at hr; done)
      | (simp only [Option.some.injEq] at hr
         subst hr
         exact ⟨_, by simp [execOp, ho, e1, e2, hg, binOp, Op.stringOp, bytesLess_eq]; rfl, CA_b' _ _⟩)
      | (simp only [Option.some.injEq] at hr
         subst hr
         exact ⟨_, by simp [execOp, ho, e1, e2, hg, binOp, Op.stringOp, bytesLess_eq], CA_b' _ _⟩)
  · cases he

theorem bin_ok {op : BinOp} {y z : Operand} {y' z' : X} {v : AV} {T yT : TypeId} {o : Oper} (h1 : cX y = some y') (h2 : cX z = some z')
    (_hT : (∃ k, P.underlying T = some (.int k)) ∨ P.underlying T = some .string ∨ P.underlying T = some .bool)
    (he : evalP t (.bin op y' z') = some v) (ho : o.op = .binOp op T y z yT) : Gives P o a x v := bin_ok' ht h1 h2 he ho

theorem convs_ok {y : Operand} {z : X} {v : AV} {s d : TypeId} (hs : P.underlying s = some .string) (hd : P.underlying d = some .string) (hc : cX y = some z) (he : evalP t (.movs z) = some v) {o : Oper} (ho : o.op = .convert s d y) : Gives P o a x v := by
  have h := cX_ok ht hc
  simp only [evalP] at he
  split at he
  · rename_i l hb
    simp only [Option.some.injEq] at he
    subst he
    rw [hb] at h
    have e := CA_s h
    exact ⟨_, by simp [execOp, ho, convert, run_underlying hs, run_underlying hd, e], h⟩
  · cases he

theorem beq_ok {neg : Bool} {y z : Operand} {y' z' : X} {v : AV} {T yT : TypeId} {o : Oper} (h1 : cX y = some y') (h2 : cX z = some z')
    (hT : P.underlying T = some .bool) (he : evalP t (.beq neg y' z') = some v) (ho : o.op = .binOp (if neg then .neq else .eql) T y z yT) : Gives P o a x v := by
  have e1 := cX_ok ht h1
  have e2 := cX_ok ht h2
  simp only [evalP] at he
  split at he
  · rename_i p q hb1 hb2
    rw [hb1] at e1
    rw [hb2] at e2
    have e1 := CA_b e1
    have e2 := CA_b e2
    simp only [Option.some.injEq] at he
    subst he
    have hq : ∀ w, (Op.equal T (.bool p) (.bool q)).run P w = .ok (p == q) w := fun w => by
      have h0 : ∀ d, (Op.equalIn (d + 1) T (.bool p) (.bool q)).run P w = .ok (p == q) w := fun d => by
        simp [Op.equalIn, run_underlying hT]
      exact h0 9999
    refine ⟨.bool ((p == q) != neg), ?_, CA_b' _ _⟩
    cases neg
    · have hg : ∀ w, (eqGuard .eql T y z (.bool p) (.bool q)).run P w = .ok () w := fun w => by
        unfold eqGuard; simp
      simp [execOp, ho, e1, e2, hg, binOp, hq]
    · have hg : ∀ w, (eqGuard .neq T y z (.bool p) (.bool q)).run P w = .ok () w := fun w => by
        unfold eqGuard; simp
      simp [execOp, ho, e1, e2, hg, binOp, hq]
  · cases he

/-- Is a value nil, as the model asks it? -/
theorem eqn_ok {neg : Bool} {y z : Operand} {y' : X} {v : AV} {T yT : TypeId} {k : NilK} {o : Oper} (hk : nilK P T z = some k) (hc : cX y = some y')
    (he : evalP t (.eqn k neg y') = some v) (ho : o.op = .binOp (if neg then .neq else .eql) T y z yT) : Gives P o a x v := by
  have h := cX_ok ht hc
  simp only [evalP, Option.map_eq_some_iff] at he
  obtain ⟨p, hp, e'⟩ := he
  subst e'
  have fin : ∀ c u, z = .const c → a.eval y = u → (∀ w, (eqGuard (if neg then .neq else .eql) T y z u c).run P w = .ok () w) → (∀ d w, (Op.equalIn (d + 1) T u c).run P w = .ok p w) →
      (∀ w, (binOp (if neg then .neq else .eql) T u c).run P w = ((do pure (.bool ((← Op.equal T u c) != neg)) : Sem Value)).run P w) → Gives P o a x (.iv (.b (p != neg))) := by
    intro c u hz hy hg heq hb
    refine ⟨.bool (p != neg), ?_, CA_b' _ _⟩
    have hq : ∀ w, (Op.equal T u c).run P w = .ok p w := fun w => heq 9999 w
    simp only [execOp, ho]
    subst hz
    have hz' : a.eval (.const c) = c := rfl
    simp [hz', hy, hg, hb, hq]
  unfold nilK at hk
  split at hk
  case h_6 => cases hk
  all_goals
    split at hk
    case h_2 => cases hk
    rename_i hT
    simp only [Option.some.injEq] at hk
    subst hk
  case h_1 =>
    obtain ⟨ad, n, c, e, rfl⟩ := isNil_sl h hp
    exact fin _ _ rfl e (fun w => by unfold eqGuard; cases neg <;> simp) (fun d w => by cases ad <;> simp [Op.equalIn, run_underlying hT]) (fun w => by cases neg <;> simp [binOp])
  case h_1 =>
    obtain ⟨q, e, rfl⟩ := isNil_pt h hp
    exact fin _ _ rfl e (fun w => by unfold eqGuard; cases neg <;> simp) (fun d w => by cases q <;> simp [Op.equalIn, run_underlying hT]) (fun w => by cases neg <;> simp [binOp])
  case h_1 =>
    rcases isNil_fn h hp with ⟨rfl, e⟩ | ⟨rfl, f, q, r, e⟩
    · exact fin _ _ rfl e (fun w => by unfold eqGuard; cases neg <;> simp) (fun d w => by simp [Op.equalIn, run_underlying hT]) (fun w => by cases neg <;> simp [binOp])
    · exact fin _ _ rfl e (fun w => by unfold eqGuard; cases neg <;> simp) (fun d w => by simp [Op.equalIn, run_underlying hT]) (fun w => by cases neg <;> simp [binOp])
  case h_1 =>
    rcases isNil_ifc h hp with ⟨rfl, e⟩ | ⟨rfl, f, q, e⟩
    · exact fin _ _ rfl e (fun w => by unfold eqGuard; cases neg <;> simp) (fun d w => by simp [Op.equalIn, run_underlying hT]) (fun w => by cases neg <;> simp [binOp])
    · exact fin _ _ rfl e (fun w => by unfold eqGuard; cases neg <;> simp) (fun d w => by simp [Op.equalIn, run_underlying hT]) (fun w => by cases neg <;> simp [binOp])
  case h_1 =>
    obtain ⟨q, e, rfl⟩ := isNil_mp h hp
    exact fin _ _ rfl e (fun w => by unfold eqGuard; cases neg <;> simp) (fun d w => by cases q <;> simp [Op.equalIn, run_underlying hT]) (fun w => by cases neg <;> simp [binOp])

theorem fld_ok {y : Operand} {z : X} {v : AV} {T : TypeId} {f : Nat} {fd : Field} {n : Nat} {ag : Bool} {o : Oper} (hf : fieldT P T f = some fd) (hn : sizeT P fd.type = some n) (hag : aggT P fd.type = some ag)
    (hc : cX y = some z) (he : evalP t (.fld fd.offset n ag z) = some v) (ho : o.op = .field T y f) : Gives P o a x v := by
  have h := cX_ok ht hc
  simp only [fieldT] at hf
  split at hf
  case h_2 => cases hf
  rename_i fs hfs
  simp only [evalP] at he
  split at he
  · rename_i cs hb
    rw [hb] at h
    simp only [CA] at h
    obtain ⟨us, e, h1, h2⟩ := h
    obtain ⟨u, h3, h4⟩ := part_ok hn hag h1 h2 he
    exact ⟨u, by simp [execOp, ho, Instr.field, run_underlying hfs, hf, e, asAgg, h3], h4⟩
  · cases he

theorem fad_ok {y : Operand} {z : X} {v : AV} {T : TypeId} {f : Nat} {fd : Field} {n : Nat} {o : Oper} (hf : fieldT P T f = some fd) (hn : sizeT P fd.type = some n) (hn0 : n ≠ 0)
    (hc : cX y = some z) (he : evalP t (.fad fd.offset z) = some v) (ho : o.op = .fieldAddr T y f) : Gives P o a x v := by
  have h := cX_ok ht hc
  simp only [fieldT] at hf
  split at hf
  case h_2 => cases hf
  rename_i fs hfs
  have key : ∀ k off, a.eval y = .pointer (some ⟨k, off, none⟩) → (execOp a.eval o).run P x.w = .ok (.value (.pointer (some ⟨k, off + fd.offset, none⟩))) x.w := fun k off e => by
    simp [execOp, ho, Instr.fieldAt, run_underlying hfs, hf, e, Instr.sureAddr, fieldPlace, run_sizeT hn, hn0, add_mk]
  simp only [evalP] at he
  unfold fieldAddr at he
  split at he
  · rename_i b s i j hb
    rw [hb] at h
    simp only [CA] at h
    obtain ⟨hl, k, off, hβ, e⟩ := h
    simp only [Option.some.injEq] at he
    subst he
    refine ⟨_, key _ _ e, ?_⟩
    simp only [CA]
    exact ⟨hl, k, off, hβ, by simp [Nat.add_assoc]⟩
  · rename_i row j hb
    rw [hb] at h
    simp only [CA, CI] at h
    obtain ⟨k, off, e, h1, h2⟩ := h
    simp only [Option.some.injEq] at he
    subst he
    refine ⟨_, key _ _ e, ?_⟩
    simp only [CA, CI]
    exact ⟨k, off, by simp [Nat.add_assoc], h1, h2⟩
  · cases he
end

theorem Ok.lent {β : Loc} {h : AH} {Fr : Nat → Prop} {l : Bool} {k : Nat} (hk : Ok β h Fr l k) : Ok β h Fr true k := ⟨hk.1, fun e => by cases e⟩

theorem CRows_get {w : World} {A : Bool → Nat → Prop} {k sz : Nat} : ∀ {rows : List (List IV)} {off : Nat} (_ : CRows w A k off rows) (_ : ∀ r ∈ rows, r.length = sz) (i : Nat) {row : List IV} (_ : rows[i]? = some row), CRow w A k (off + i * sz) row
  | [], _, _, _, i, row, h => by simp at h
  | r :: rs, off, h, hl, 0, row, e => by
    simp only [CRows] at h
    simp at e; subst e
    simpa using h.1
  | r :: rs, off, h, hl, i + 1, row, e => by
    simp only [CRows] at h
    have hr := hl r (by simp)
    have := CRows_get h.2 (fun q hq => hl q (by simp [hq])) i (by simpa using e)
    rw [hr] at this
    rwa [show off + (i + 1) * sz = off + sz + i * sz from by rw [Nat.add_mul]; omega]

theorem inRange_some {i : Int} {n j : Nat} (h : inRange i n = some j) : 0 ≤ i ∧ i < n ∧ i.toNat = j ∧ j < n := by
  unfold inRange at h
  split at h
  · rename_i hc
    simp only [Option.some.injEq] at h
    omega
  · cases h

section
variable {P : Program} {cfg : Cfg} {g : Nat} {x : Cx} {t : List AV} {a : Act} (ht : CAs x t a.tmps.toList)
include ht

theorem iad_ok {y i : Operand} {y' i' : X} {v : AV} {T e : TypeId} {sz : Nat} {o : Oper} (hT : P.underlying T = some (.slice e)) (hsz : sizeT P e = some sz)
    (h1 : cX y = some y') (h2 : cX i = some i') (he : evalP t (.iad sz y' i') = some v) (ho : o.op = .indexAddr T y i) : Gives P o a x v := by
  have e1 := cX_ok ht h1
  have e2 := cX_ok ht h2
  simp only [evalP] at he
  split at he
  case h_2 => cases he
  rename_i kk n hb
  rw [hb] at e2
  have e2 := CA_i e2
  have key : ∀ ad len cap j, a.eval y = .slice (some ad) len cap → inRange n len = some j → (execOp a.eval o).run P x.w = .ok (.value (.pointer (some (ad.add (j * sz))))) x.w := fun ad len cap j e hj => by
    obtain ⟨p1, p2, p3, p4⟩ := inRange_some hj
    simp [execOp, ho, Instr.indexAt, e2, asIntOf, run_underlying hT, e, p1, p2, run_sizeT hsz, p3]
  unfold indexAddr at he
  split at he
  · rename_i tg rows hb1
    rw [hb1] at e1
    simp only [CA, CI] at e1
    obtain ⟨ad, cap, e, _, _, hr⟩ := e1
    split at he
    case h_2 => cases he
    rename_i j hj
    split at he
    case h_2 => cases he
    rename_i row hrow
    split at he
    case isFalse => cases he
    rename_i hlen
    simp only [Option.some.injEq] at he
    subst he
    have hne : rows ≠ [] := by rintro rfl; simp at hrow
    obtain ⟨k, off, s, rfl, hA, hs, hall, hrows⟩ := hr hne
    have hss : s = sz := by rw [← hall row (List.mem_of_getElem? hrow), hlen]
    subst hss
    refine ⟨_, key _ _ _ _ e hj, ?_⟩
    rw [add_mk]
    simp only [CA, CI]
    exact ⟨k, off + j * s, rfl, fun _ => hA.lent, CRows_get (CRows_sub hA hrows) hall j hrow⟩
  · rename_i b s st len cap hb1
    rw [hb1] at e1
    simp only [CA] at e1
    obtain ⟨hl, ad, c, e, hc, _, hm⟩ := e1
    split at he
    case isFalse => cases he
    rename_i hss
    subst hss
    simp only [Option.map_eq_some_iff] at he
    obtain ⟨j, hj, e'⟩ := he
    subst e'
    have hlen := (inRange_some hj).2.2.2
    cases ad with
    | none => simp only at hm; omega
    | some ad =>
      rcases hm with hm | ⟨k, off, hβ, rfl, _⟩
      · omega
      · refine ⟨_, key _ _ _ _ e hj, ?_⟩
        rw [add_mk]
        simp only [CA]
        exact ⟨hl, k, off, hβ, by simp [Nat.add_mul, Nat.add_assoc]⟩
  · rename_i b s q r ez len hb1
    rw [hb1] at e1
    simp only [CA] at e1
    obtain ⟨hl, ad, c, e, hc, hm⟩ := e1
    split at he
    case isFalse => cases he
    rename_i hss
    subst hss
    simp only [Option.map_eq_some_iff] at he
    obtain ⟨j, hj, e'⟩ := he
    subst e'
    have hlen := (inRange_some hj).2.2.2
    obtain ⟨k, off, hβ, rfl⟩ := hm (by omega)
    refine ⟨_, key _ _ _ _ e hj, ?_⟩
    rw [add_mk]
    simp only [CA]
    exact ⟨hl, k, off, hβ, by simp [Nat.add_assoc]⟩
  · cases he

theorem iada_ok {y i : Operand} {y' i' : X} {v : AV} {T e : TypeId} {len sz : Nat} {o : Oper} (hT : P.underlying T = some (.array len e)) (hsz : sizeT P e = some sz)
    (h1 : cX y = some y') (h2 : cX i = some i') (he : evalP t (.iada len sz y' i') = some v) (ho : o.op = .indexAddr T y i) : Gives P o a x v := by
  have e1 := cX_ok ht h1
  have e2 := cX_ok ht h2
  simp only [evalP] at he
  split at he
  case h_2 => cases he
  rename_i kk n hb
  rw [hb] at e2
  have e2 := CA_i e2
  have key : ∀ ad j, a.eval y = .pointer (some ad) → inRange n len = some j → (execOp a.eval o).run P x.w = .ok (.value (.pointer (some (ad.add (j * sz))))) x.w := fun ad j e hj => by
    obtain ⟨p1, p2, p3, p4⟩ := inRange_some hj
    simp [execOp, ho, Instr.indexAt, e2, asIntOf, run_underlying hT, e, Instr.sureAddr, p1, p2, run_sizeT hsz, p3]
  unfold indexAddrA at he
  split at he
  · rename_i b s q r hb1
    rw [hb1] at e1
    simp only [CA] at e1
    obtain ⟨hl, k, off, hβ, e⟩ := e1
    simp only [Option.map_eq_some_iff] at he
    obtain ⟨j, hj, e'⟩ := he
    subst e'
    refine ⟨_, key _ _ e hj, ?_⟩
    rw [add_mk]
    simp only [CA]
    exact ⟨hl, k, off, hβ, by simp [Nat.add_assoc]⟩
  · rename_i row r hb1
    rw [hb1] at e1
    simp only [CA, CI] at e1
    obtain ⟨k, off, e, hA, hrow⟩ := e1
    simp only [Option.map_eq_some_iff] at he
    obtain ⟨j, hj, e'⟩ := he
    subst e'
    refine ⟨_, key _ _ e hj, ?_⟩
    rw [add_mk]
    simp only [CA, CI]
    exact ⟨k, off, by simp [Nat.add_assoc], hA, hrow⟩
  · cases he

theorem idx_ok {y i : Operand} {y' i' : X} {v : AV} {T e : TypeId} {len sz : Nat} {ag : Bool} {o : Oper} (hT : P.underlying T = some (.array len e)) (hsz : sizeT P e = some sz) (hag : aggT P e = some ag)
    (h1 : cX y = some y') (h2 : cX i = some i') (he : evalP t (.idx len sz ag y' i') = some v) (ho : o.op = .index T y i) : Gives P o a x v := by
  have e1 := cX_ok ht h1
  have e2 := cX_ok ht h2
  simp only [evalP] at he
  split at he
  case h_2 => cases he
  rename_i kk n cs hb hb1
  rw [hb] at e2
  rw [hb1] at e1
  have e2 := CA_i e2
  simp only [CA] at e1
  obtain ⟨us, e, h3, h4⟩ := e1
  simp only [Option.bind_eq_some_iff] at he
  obtain ⟨j, hj, hp⟩ := he
  obtain ⟨p1, p2, p3, p4⟩ := inRange_some hj
  obtain ⟨u, h5, h6⟩ := part_ok hsz hag h3 h4 hp
  exact ⟨u, by simp [execOp, ho, Instr.index, e2, asIntOf, run_underlying hT, e, p1, p2, run_sizeT hsz, p3, h5], h6⟩

theorem idxs_ok {y i : Operand} {y' i' : X} {v : AV} {T : TypeId} {o : Oper} (hT : P.underlying T = some .string)
    (h1 : cX y = some y') (h2 : cX i = some i') (he : evalP t (.idxs y' i') = some v) (ho : o.op = .index T y i) : Gives P o a x v := by
  have e1 := cX_ok ht h1
  have e2 := cX_ok ht h2
  simp only [evalP] at he
  split at he
  case h_2 => cases he
  rename_i kk n l hb hb1
  rw [hb] at e2
  rw [hb1] at e1
  have e2 := CA_i e2
  have e1 := CA_s e1
  simp only [Option.bind_eq_some_iff, Option.map_eq_some_iff] at he
  obtain ⟨j, hj, u, hu, e'⟩ := he
  subst e'
  obtain ⟨p1, p2, p3, p4⟩ := inRange_some hj
  have hu' : (⟨l.toArray⟩ : ByteArray)[j]? = some u := by
    have hs : j < (⟨l.toArray⟩ : ByteArray).size := by simp [ByteArray.size]; exact p4
    rw [ByteArray.getElem?_lt' _ _ hs]
    have : l[j] = u := by rw [List.getElem?_eq_getElem p4] at hu; exact Option.some.inj hu
    simp [ByteArray.getElem_eq_getElem_data, this]
  exact ⟨.int .u8 u.toNat, by simp [execOp, ho, Instr.index, e2, asIntOf, run_underlying hT, e1, p1, p3, hu'], CA_i' _ _ _⟩
end

/-- A bound, as the evaluator, and the model, have it. -/
def BV : Option Int → Option Value → Prop
  | none, none => True
  | some n, some v => ∃ k, v = .int k n
  | _, _ => False

theorem sliceBound_ok {P : Program} {w : World} {v : Value} {k : IntKind} {n : Int} {y : Nat} {code : BoundsCode} (hv : v = .int k n) (h0 : 0 ≤ n) (h1 : n ≤ y) : (Instr.sliceBound v y code).run P w = .ok n.toNat w := by
  subst hv
  simp [Instr.sliceBound, asIntOf, h0, h1]

/-- The model's bounds. -/
theorem sliceBounds_ok {P : Program} {w : World} {s : Bool} {len cap top : Nat} {lo hi mx : Option Int} {vl vh vm : Option Value} (hl : BV lo vl) (hh : BV hi vh) (hm : BV mx vm) (htop : top ≤ cap) (hlen : len ≤ cap) {l h : Nat} {m : Option Nat}
    (hb : bounds len top lo hi mx = some (l, h, m)) : (Instr.sliceBounds s len cap vl vh vm).run P w = .ok (l, h, m.getD cap) w ∧ l ≤ h ∧ h ≤ m.getD cap ∧ m.getD cap ≤ cap ∧ h ≤ top := by
  unfold bounds at hb
  cases mx with
  | none =>
    cases vm with
    | some _ => simp [BV] at hm
    | none =>
      simp only at hb
      split at hb
      case isFalse => cases hb
      rename_i hc
      simp only [Option.some.injEq, Prod.mk.injEq] at hb
      obtain ⟨rfl, rfl, rfl⟩ := hb
      cases hi with
      | none =>
        cases vh with
        | some _ => simp [BV] at hh
        | none =>
          cases lo with
          | none =>
            cases vl with
            | some _ => simp [BV] at hl
            | none => simp only [Option.getD_none] at hc; exact ⟨by simp [Instr.sliceBounds], by simp, by simp; omega, by simp, by simp; omega⟩
          | some q =>
            cases vl with
            | none => simp [BV] at hl
            | some u =>
              obtain ⟨k, hu⟩ := hl
              simp only [Option.getD_none, Option.getD_some] at hc ⊢
              refine ⟨?_, by omega, by omega, by omega, by omega⟩
              simp [Instr.sliceBounds, sliceBound_ok hu hc.1 hc.2.1]
      | some r =>
        cases vh with
        | none => simp [BV] at hh
        | some uh =>
          obtain ⟨kh, huh⟩ := hh
          cases lo with
          | none =>
            cases vl with
            | some _ => simp [BV] at hl
            | none =>
              simp only [Option.getD_none, Option.getD_some] at hc ⊢
              refine ⟨?_, by omega, by omega, by omega, by omega⟩
              cases s <;> simp [Instr.sliceBounds, sliceBound_ok huh hc.2.1 (by omega : r ≤ (cap : Int))]
          | some q =>
            cases vl with
            | none => simp [BV] at hl
            | some u =>
              obtain ⟨k, hu⟩ := hl
              simp only [Option.getD_some] at hc ⊢
              refine ⟨?_, by omega, by simp; omega, by simp, by omega⟩
              have e1 : ((r.toNat : Nat) : Int) = r := by omega
              cases s <;> simp [Instr.sliceBounds, sliceBound_ok huh (by omega : 0 ≤ r) (by omega : r ≤ (cap : Int)), sliceBound_ok hu hc.1 (by omega : q ≤ ((r.toNat : Nat) : Int))]
  | some mm =>
    cases vm with
    | none => simp [BV] at hm
    | some um =>
      obtain ⟨km, hum⟩ := hm
      simp only at hb
      cases hi with
      | none => simp at hb
      | some r =>
        cases vh with
        | none => simp [BV] at hh
        | some uh =>
          obtain ⟨kh, huh⟩ := hh
          simp only at hb
          split at hb
          case isFalse => cases hb
          rename_i hc
          simp only [Option.some.injEq, Prod.mk.injEq] at hb
          obtain ⟨rfl, rfl, rfl⟩ := hb
          cases lo with
          | none =>
            cases vl with
            | some _ => simp [BV] at hl
            | none =>
              simp only [Option.getD_none, Option.getD_some] at hc ⊢
              refine ⟨?_, by omega, by omega, by omega, by omega⟩
              cases s <;> simp [Instr.sliceBounds, sliceBound_ok hum (by omega : 0 ≤ mm) (by omega : mm ≤ (cap : Int)), sliceBound_ok huh hc.2.1 (by omega : r ≤ ((mm.toNat : Nat) : Int))]
          | some q =>
            cases vl with
            | none => simp [BV] at hl
            | some u =>
              obtain ⟨k, hu⟩ := hl
              simp only [Option.getD_some] at hc ⊢
              refine ⟨?_, by omega, by omega, by omega, by omega⟩
              cases s <;> simp [Instr.sliceBounds, sliceBound_ok hum (by omega : 0 ≤ mm) (by omega : mm ≤ (cap : Int)), sliceBound_ok huh (by omega : 0 ≤ r) (by omega : r ≤ ((mm.toNat : Nat) : Int)), sliceBound_ok hu hc.1 (by omega : q ≤ ((r.toNat : Nat) : Int))]

theorem CRows_drop {w : World} {A : Bool → Nat → Prop} {k sz : Nat} : ∀ {rows : List (List IV)} {off : Nat} (_ : CRows w A k off rows) (_ : ∀ r ∈ rows, r.length = sz) (n : Nat), n ≤ rows.length → CRows w A k (off + n * sz) (rows.drop n)
  | rows, off, h, hl, 0, _ => by simpa using h
  | [], off, h, hl, n + 1, hn => by simp at hn
  | r :: rs, off, h, hl, n + 1, hn => by
    simp only [CRows] at h
    have hr := hl r (by simp)
    have := CRows_drop h.2 (fun q hq => hl q (by simp [hq])) n (by simpa using hn)
    rw [hr] at this
    rw [show off + (n + 1) * sz = off + sz + n * sz from by rw [Nat.add_mul]; omega]
    simpa using this
theorem CRows_take {w : World} {A : Bool → Nat → Prop} {k : Nat} : ∀ {rows : List (List IV)} {off : Nat} (_ : CRows w A k off rows) (n : Nat), CRows w A k off (rows.take n)
  | rows, off, h, 0 => by simp [CRows]
  | [], off, h, n + 1 => by simp [CRows]
  | r :: rs, off, h, n + 1 => by
    simp only [CRows] at h
    simp only [List.take_succ_cons, CRows]
    exact ⟨h.1, CRows_take h.2 n⟩

section
variable {P : Program} {cfg : Cfg} {g : Nat} {x : Cx} {t : List AV} {a : Act} (ht : CAs x t a.tmps.toList)
include ht

theorem boundOf_ok {y : Option Operand} {z : Option X} {n : Option Int} (hy : optX y = some z) (hb : boundOf t z = some n) : BV n (y.map a.eval) := by
  cases y with
  | none =>
    simp only [optX, Option.some.injEq] at hy
    subst hy
    simp only [boundOf, Option.some.injEq] at hb
    subst hb
    simp [BV]
  | some y =>
    simp only [optX, Option.map_eq_some_iff] at hy
    obtain ⟨z', hz, e⟩ := hy
    subst e
    simp only [boundOf] at hb
    split at hb
    · rename_i k m hm
      simp only [Option.some.injEq] at hb
      subst hb
      have h := cX_ok ht hz
      rw [hm] at h
      exact ⟨k, CA_i h⟩
    · cases hb

theorem slc_ok {y : Operand} {y' : X} {lo hi mx : Option Operand} {lo' hi' mx' : Option X} {v : AV} {T e : TypeId} {sz : Nat} {o : Oper} (hT : P.underlying T = some (.slice e)) (hsz : sizeT P e = some sz)
    (h1 : cX y = some y') (h2 : optX lo = some lo') (h3 : optX hi = some hi') (h4 : optX mx = some mx') (he : evalP t (.slc sz y' lo' hi' mx') = some v) (ho : o.op = .slice T y lo hi mx) : Gives P o a x v := by
  have e1 := cX_ok ht h1
  simp only [evalP, Option.bind_eq_some_iff] at he
  obtain ⟨l, hl, h, hh, m, hm, he⟩ := he
  have bl := boundOf_ok ht h2 hl
  have bh := boundOf_ok ht h3 hh
  have bm := boundOf_ok ht h4 hm
  unfold sliceV at he
  split at he
  · rename_i tg rows hb
    rw [hb] at e1
    simp only [CA, CI] at e1
    obtain ⟨ad, cap, e2, hcap, hn, hr⟩ := e1
    split at he
    case isFalse => cases he
    rename_i hu
    simp only [Option.map_eq_some_iff] at he
    obtain ⟨⟨l', h', m'⟩, hbd, e3⟩ := he
    subst e3
    obtain ⟨hrun, p1, p2, p3, p4⟩ := sliceBounds_ok (P := P) (w := x.w) (s := true) bl bh bm hcap hcap hbd
    refine ⟨.slice (if m'.getD cap = l' then ad else ad.map (·.add (l' * sz))) (h' - l') (m'.getD cap - l'), by simp [execOp, ho, Instr.sliceAt, Instr.slice, run_underlying hT, e2, hrun, run_sizeT hsz], ?_⟩
    have hlen : ((rows.drop l').take (h' - l')).length = h' - l' := by simp; omega
    simp only [CA, CI]
    refine ⟨_, _, by rw [hlen], by rw [hlen]; omega, fun htg => ?_, fun hne => ?_⟩
    · obtain ⟨rfl, rfl⟩ := hn htg
      have : m'.getD 0 = 0 := by omega
      simp
      omega
    · have hlt : l' < h' := by
        rcases Nat.lt_or_ge l' h' with q | q
        · exact q
        · exfalso; apply hne; rw [show h' - l' = 0 from by omega]; simp
      have hrne : rows ≠ [] := by rintro rfl; simp at p4; omega
      obtain ⟨k, off, s, rfl, hA, hs, hall, hrows⟩ := hr hrne
      have hss : s = sz := by
        cases rows with
        | nil => exact absurd rfl hrne
        | cons r rs =>
          simp only [uni, List.all_cons, Bool.and_eq_true, beq_iff_eq] at hu
          rw [← hall r (by simp), hu.1]
      subst hss
      refine ⟨k, off + l' * s, s, ?_, hA, hs, fun r hr => hall r (List.mem_of_mem_drop (List.mem_of_mem_take hr)), CRows_take (CRows_drop hrows hall l' (by omega)) _⟩
      rw [if_neg (by omega)]
      simp [add_mk]
  · rename_i b s st len cp hb
    rw [hb] at e1
    simp only [CA] at e1
    obtain ⟨hl1, ad, cap, e2, hcap, hcp, hm1⟩ := e1
    split at he
    case isTrue => cases he
    rename_i hss
    have hss : s = sz := by simpa using hss
    subst hss
    simp only [Option.map_eq_some_iff] at he
    obtain ⟨⟨l', h', m'⟩, hbd, e3⟩ := he
    subst e3
    have htop : cp.getD len ≤ cap := by
      cases cp with
      | none => simpa using hcap
      | some c => have := hcp c rfl; simp; omega
    obtain ⟨hrun, p1, p2, p3, p4⟩ := sliceBounds_ok (P := P) (w := x.w) (s := true) bl bh bm htop hcap hbd
    refine ⟨.slice (if m'.getD cap = l' then ad else ad.map (·.add (l' * s))) (h' - l') (m'.getD cap - l'), by simp [execOp, ho, Instr.sliceAt, Instr.slice, run_underlying hT, e2, hrun, run_sizeT hsz], ?_⟩
    simp only [CA]
    refine ⟨hl1, _, _, rfl, by omega, fun c hc => ?_, ?_⟩
    · cases m' with
      | some m'' => simp at hc; simp [hc]
      | none =>
        cases cp with
        | none => simp at hc
        | some c0 =>
          have := hcp c0 rfl
          simp at hc
          simp
          omega
    · cases ad with
      | none =>
        simp only at hm1
        have : m'.getD cap = l' := by omega
        rw [if_pos this]
        simp only
        omega
      | some ad =>
        by_cases hml : m'.getD cap = l'
        · rw [if_pos hml]
          exact .inl (by omega)
        · rw [if_neg hml]
          rcases hm1 with hm1 | ⟨k, off, hβ, rfl, ⟨c, T', fr, hh1, hh2⟩, hsp⟩
          · omega
          · simp only [Option.map_some, add_mk]
            refine .inr ⟨k, off, hβ, by rw [Nat.add_mul]; simp [Nat.add_assoc], ⟨c, T', fr, hh1, Nat.le_trans ?_ hh2⟩, hsp⟩
            exact Nat.add_le_add_left (Nat.mul_le_mul_right _ (by omega)) _
  · cases he

theorem slcs_ok {y : Operand} {y' : X} {lo hi : Option Operand} {lo' hi' : Option X} {v : AV} {T : TypeId} {o : Oper} (hT : P.underlying T = some .string)
    (h1 : cX y = some y') (h2 : optX lo = some lo') (h3 : optX hi = some hi') (he : evalP t (.slcs y' lo' hi') = some v) (ho : o.op = .slice T y lo hi none) : Gives P o a x v := by
  have e1 := cX_ok ht h1
  simp only [evalP, Option.bind_eq_some_iff] at he
  obtain ⟨l, hl, h, hh, he⟩ := he
  have bl := boundOf_ok ht h2 hl
  have bh := boundOf_ok ht h3 hh
  split at he
  · rename_i u hb
    rw [hb] at e1
    have e1 := CA_s e1
    simp only [Option.map_eq_some_iff] at he
    obtain ⟨⟨l', h', m'⟩, hbd, e3⟩ := he
    subst e3
    have hus : (⟨u.toArray⟩ : ByteArray).size = u.length := by simp [ByteArray.size]
    obtain ⟨hrun, p1, p2, p3, p4⟩ := sliceBounds_ok (P := P) (w := x.w) (s := false) (mx := none) (vm := none) bl bh (by simp [BV]) (Nat.le_refl _) (Nat.le_refl _) hbd
    refine ⟨.string ((⟨u.toArray⟩ : ByteArray).extract l' h'), by simp [execOp, ho, Instr.sliceAt, Instr.slice, run_underlying hT, e1, hus, hrun], ?_⟩
    have : (⟨u.toArray⟩ : ByteArray).extract l' h' = ⟨((u.drop l').take (h' - l')).toArray⟩ := by
      have h3 : ((⟨u.toArray⟩ : ByteArray).extract l' h').data = (u.toArray.extract l' h') := by simp [ByteArray.data_extract]
      cases hx : (⟨u.toArray⟩ : ByteArray).extract l' h' with
      | mk d =>
        rw [hx] at h3
        simp only at h3
        subst h3
        congr 1
        simp [List.extract_eq_take_drop]
    rw [this]
    exact CA_s' _ _
  · cases he

end

theorem CRow_drop {w : World} {A : Bool → Nat → Prop} {k : Nat} : ∀ {row : List IV} {off : Nat} (_ : CRow w A k off row) (n : Nat), n ≤ row.length → CRow w A k (off + n) (row.drop n)
  | row, off, h, 0, _ => by simpa using h
  | [], off, h, n + 1, hn => by simp at hn
  | y :: ys, off, h, n + 1, hn => by
    simp only [CRow] at h
    have := CRow_drop h.2 n (by simpa using hn)
    rw [show off + (n + 1) = off + 1 + n from by omega]
    simpa using this
theorem CRow_take {w : World} {A : Bool → Nat → Prop} {k : Nat} : ∀ {row : List IV} {off : Nat} (_ : CRow w A k off row) (n : Nat), CRow w A k off (row.take n)
  | row, off, h, 0 => by simp [CRow]
  | [], off, h, n + 1 => by simp [CRow]
  | y :: ys, off, h, n + 1 => by
    simp only [CRow] at h
    simp only [List.take_succ_cons, CRow]
    exact ⟨h.1, CRow_take h.2 n⟩

/-- A row's parts, as rows. -/
theorem CRows_windows {w : World} {A : Bool → Nat → Prop} {k sz off : Nat} {row : List IV} (h : CRow w A k off row) : ∀ (n o : Nat), o + n * sz ≤ row.length →
    CRows w A k (off + o) ((List.range n).map fun j => (row.drop (o + j * sz)).take sz)
  | 0, o, _ => by simp [CRows]
  | n + 1, o, hn => by
    rw [Nat.add_mul] at hn
    have h1 : ((row.drop o).take sz).length = sz := by simp; omega
    rw [List.range_succ_eq_map]
    simp only [List.map_cons, CRows, List.map_map]
    refine ⟨by simpa using CRow_take (CRow_drop h o (by omega)) sz, ?_⟩
    have := CRows_windows (sz := sz) h n (o + sz) (by omega)
    simp only [Nat.zero_mul, Nat.add_zero, h1]
    rw [Nat.add_assoc]
    refine (congrArg (CRows w A k (off + (o + sz))) (List.map_congr_left fun j _ => ?_)).mp this
    simp only [Function.comp, Nat.succ_eq_add_one]
    rw [Nat.add_mul, show o + sz + j * sz = o + (j * sz + 1 * sz) from by omega]

theorem CAs_iv {x : Cx} : ∀ {l : List IV} {vs : List Value}, CIs x.w x.ok l vs → CAs x (l.map .iv) vs
  | [], [], _ => by simp [CAs]
  | [], _ :: _, h => by simp [CIs] at h
  | _ :: _, [], h => by simp [CIs] at h
  | y :: ys, v :: vs, h => by
    simp only [CIs] at h
    simp only [List.map_cons, CAs, CA]
    exact ⟨h.1, CAs_iv h.2⟩

theorem mapX_ok {x : Cx} {t : List AV} {a : Act} (ht : CAs x t a.tmps.toList) : ∀ {l : List Operand} {l' : List X}, mapO cX l = some l' → CAs x (l'.map (X.ev t)) (l.map a.eval)
  | [], l', h => by simp only [mapO, Option.some.injEq] at h; subst h; simp [CAs]
  | y :: ys, l', h => by
    simp only [mapO, Option.bind_eq_some_iff, Option.map_eq_some_iff] at h
    obtain ⟨z, hz, zs, hzs, e⟩ := h
    subst e
    simp only [List.map_cons, CAs]
    exact ⟨cX_ok ht hz, mapX_ok ht hzs⟩

/-- Cells of numbers, bools, strings, compared. -/
theorem eqIV_ok {P : Program} {x : Cx} {T : TypeId} {s : SK} (hs : scalT P T = some s) {y z : IV} {u v : Value} (hy : CI x.w x.ok y u) (hz : CI x.w x.ok z v) {p : Bool} (he : eqIV s y z = some p) (d : Nat) (w : World) :
    (Op.equalIn (d + 1) T u v).run P w = .ok p w := by
  unfold scalT at hs
  unfold eqIV at he
  split at he
  · simp only [Option.some.injEq] at he
    subst he
    simp only [CI] at hy hz
    subst hy hz
    split at hs <;> simp_all [Op.equalIn, run_underlying]
  · split at he
    case isFalse => cases he
    rename_i hk
    subst hk
    simp only [Option.some.injEq] at he
    subst he
    simp only [CI] at hy hz
    subst hy hz
    split at hs <;> simp_all [Op.equalIn, run_underlying]
  · simp only [Option.some.injEq] at he
    subst he
    simp only [CI] at hy hz
    subst hy hz
    split at hs
    · simp at hs
    · simp at hs
    · rename_i hT
      rw [run_equalIn_string _ _ _ _ _ hT]
      simp
    · simp at hs
  · cases he

theorem eqFields_ok {P : Program} {x : Cx} (d : Nat) (w : World) {xs ys : Array Value} : ∀ (fs : List Field) (i : Nat) (ks : List SK) (l l' : List AV) (p : Bool), plainFs P i fs = some ks →
    CAs x l (xs.toList.drop i) → CAs x l' (ys.toList.drop i) → eqCells ks l l' = some p → (Op.eqFields (d + 1) xs ys fs).run P w = .ok p w
  | [], i, ks, l, l', p, hp, hl, hl', he => by
    simp only [plainFs, Option.some.injEq] at hp
    subst hp
    cases l with
    | cons _ _ => simp [eqCells] at he
    | nil =>
      cases l' with
      | cons _ _ => simp [eqCells] at he
      | nil =>
        simp only [eqCells, Option.some.injEq] at he
        subst he
        simp [Op.eqFields]
  | f :: fs, i, ks, l, l', p, hp, hl, hl', he => by
    simp only [plainFs] at hp
    split at hp
    case isFalse => cases hp
    rename_i hc
    simp only [Bool.and_eq_true, bne_iff_ne, ne_eq, beq_iff_eq] at hc
    simp only [Option.bind_eq_some_iff, Option.map_eq_some_iff] at hp
    obtain ⟨k, hk, ks', hks, e⟩ := hp
    subst e
    unfold eqCells at he
    split at he
    · exfalso; simp_all
    · rename_i s ss a x' b y' e1
      simp only [List.cons.injEq] at e1
      obtain ⟨rfl, rfl⟩ := e1
      split at he
      case h_2 => cases he
      rename_i p1 q1 hp1 hq1
      simp only [Option.some.injEq] at he
      subst he
      obtain ⟨u, hu, hu'⟩ : ∃ u, xs[i]? = some u ∧ CI x.w x.ok a u ∧ CAs x x' (xs.toList.drop (i + 1)) := by
        cases hd : xs.toList.drop i with
        | nil => rw [hd] at hl; simp [CAs] at hl
        | cons u us =>
          rw [hd] at hl
          simp only [CAs, CA] at hl
          have h1 : xs.toList[i]? = some u := by
            have := congrArg (fun l => l[0]?) hd
            simpa using this
          refine ⟨u, by simpa using h1, hl.1, ?_⟩
          have : xs.toList.drop (i + 1) = us := by
            have := congrArg (List.drop 1) hd
            simpa [Nat.add_comm] using this
          rw [this]; exact hl.2
      obtain ⟨v, hv, hv'⟩ : ∃ u, ys[i]? = some u ∧ CI x.w x.ok b u ∧ CAs x y' (ys.toList.drop (i + 1)) := by
        cases hd : ys.toList.drop i with
        | nil => rw [hd] at hl'; simp [CAs] at hl'
        | cons u us =>
          rw [hd] at hl'
          simp only [CAs, CA] at hl'
          have h1 : ys.toList[i]? = some u := by
            have := congrArg (fun l => l[0]?) hd
            simpa using this
          refine ⟨u, by simpa using h1, hl'.1, ?_⟩
          have : ys.toList.drop (i + 1) = us := by
            have := congrArg (List.drop 1) hd
            simpa [Nat.add_comm] using this
          rw [this]; exact hl'.2
      have hna : (isAgg f.type).run P w = .ok false w := by
        unfold scalT at hk
        split at hk <;> first
          | (rename_i hT; simp [isAgg, run_underlying hT]; done)
          | (exfalso; simp at hk; done)
      have pa : (part f.type xs f.offset).run P w = .ok u w := by simp [part, hna, hc.2, hu]
      have pb : (part f.type ys f.offset).run P w = .ok v w := by simp [part, hna, hc.2, hv]
      have hq := eqIV_ok hk hu'.1 hv'.1 hp1 d w
      have ih := eqFields_ok d w fs (i + 1) ks' x' y' q1 hks hu'.2 hv'.2 hq1
      simp only [Op.eqFields, if_pos (show f.name ≠ "_" from hc.1), Sem.run_bind, pa, pb, hq, Result.andThen_ok]
      cases p1
      · simp
      · simpa using ih
    · cases he

/-- Two values of a plain type, compared. -/
theorem plain_ok {P : Program} {x : Cx} {T : TypeId} {ks : Bool × List SK} (hT : plainT P T = some ks) {y z : AV} {u v : Value} (hy : CA x y u) (hz : CA x z v) {p : Bool} (he : eqPlain ks y z = some p) (d : Nat) (w : World) :
    (Op.equalIn (d + 2) T u v).run P w = .ok p w := by
  unfold plainT at hT
  split at hT
  · rename_i fs hfs
    split at hT
    case isTrue => cases hT
    rename_i hs
    simp only [Option.map_eq_some_iff] at hT
    obtain ⟨l, hl, e⟩ := hT
    subst e
    unfold eqPlain at he
    split at he
    · simp only [CA] at hy hz
      obtain ⟨us, rfl, h1, _⟩ := hy
      obtain ⟨vs, rfl, h2, _⟩ := hz
      have hf : P.fieldsOf T = fs := by simp [Program.fieldsOf, hfs]
      rw [run_equalIn_struct (P := P) w (d + 1) T us vs (by rw [hf]; exact hfs) (by simpa using hs), hf]
      exact eqFields_ok d w fs.toList 0 l _ _ p hl (by simpa using h1) (by simpa using h2) he
    · exfalso; simp_all
    · cases he
  · simp only [Option.map_eq_some_iff] at hT
    obtain ⟨k, hk, e⟩ := hT
    subst e
    unfold eqPlain at he
    split at he
    · exfalso; simp_all
    · simp only [CA] at hy hz
      simp only [eqCells] at he
      split at he
      · rename_i p1 q1 hp1 hq1
        simp only [Option.some.injEq] at he hq1
        subst hq1 he
        simp only [Bool.and_true]
        exact eqIV_ok hk hy hz hp1 (d + 1) w
      · cases he
    · cases he

section
variable {P : Program} {cfg : Cfg} {g : Nat} {x : Cx} {t : List AV} {a : Act} (ht : CAs x t a.tmps.toList)
include ht

theorem slca_ok {y : Operand} {y' : X} {lo hi : Option Operand} {lo' hi' : Option X} {v : AV} {T e : TypeId} {n sz : Nat} {o : Oper} (hT : P.underlying T = some (.array n e)) (hsz : sizeT P e = some sz)
    (h1 : cX y = some y') (h2 : optX lo = some lo') (h3 : optX hi = some hi') (he : evalP t (.slca n sz y' lo' hi') = some v) (ho : o.op = .slice T y lo hi none) : Gives P o a x v := by
  have e1 := cX_ok ht h1
  simp only [evalP, Option.bind_eq_some_iff] at he
  obtain ⟨l, hl, h, hh, he⟩ := he
  have bl := boundOf_ok ht h2 hl
  have bh := boundOf_ok ht h3 hh
  have key : ∀ ad l' h' m', a.eval y = .pointer (some ad) → bounds n n l h none = some (l', h', m') → (execOp a.eval o).run P x.w = .ok (.value (.slice (some (if m'.getD n = l' then ad else ad.add (l' * sz))) (h' - l') (m'.getD n - l'))) x.w ∧ l' ≤ h' ∧ h' ≤ m'.getD n ∧ m'.getD n ≤ n := by
    intro ad l' h' m' e hbd
    obtain ⟨hrun, p1, p2, p3, p4⟩ := sliceBounds_ok (P := P) (w := x.w) (s := false) (mx := none) (vm := none) bl bh (by simp [BV]) (Nat.le_refl _) (Nat.le_refl _) hbd
    exact ⟨by simp [execOp, ho, Instr.sliceAt, run_underlying hT, e, Instr.sureAddr, hrun, run_sizeT hsz], p1, p2, p3⟩
  split at he
  · rename_i row r hb
    rw [hb] at e1
    simp only [CA, CI] at e1
    obtain ⟨k, off, e, hA, hrow⟩ := e1
    simp only [Option.bind_eq_some_iff] at he
    obtain ⟨⟨l', h', m'⟩, hbd, he⟩ := he
    simp only at he
    split at he
    case isFalse => cases he
    rename_i hc
    simp only [Option.some.injEq] at he
    subst he
    obtain ⟨hrun, p1, p2, p3⟩ := key _ _ _ _ e hbd
    refine ⟨_, hrun, ?_⟩
    simp only [CA, CI]
    have hln : ((List.range (h' - l')).map fun j => (row.drop (r + (l' + j) * sz)).take sz).length = h' - l' := by simp
    refine ⟨_, m'.getD n - l', by rw [hln], by rw [hln]; omega, by simp, fun hne => ?_⟩
    have hlt : l' < h' := by
      rcases Nat.lt_or_ge l' h' with q | q
      · exact q
      · exfalso; apply hne; rw [show h' - l' = 0 from by omega]; simp
    rw [if_neg (by omega), add_mk]
    have hsl : l' * sz + (h' - l') * sz ≤ n * sz := by rw [← Nat.add_mul]; exact Nat.mul_le_mul_right _ (by omega)
    have hpos : 0 < n * sz := Nat.mul_pos (by omega) hc.2
    have hrne : row ≠ [] := by rintro rfl; simp at hc; omega
    refine ⟨k, off + r + l' * sz, sz, rfl, hA hrne, hc.2, ?_, ?_⟩
    · intro q hq
      simp only [List.mem_map, List.mem_range] at hq
      obtain ⟨j, hj, rfl⟩ := hq
      have : (l' + j) * sz + sz ≤ n * sz := by
        rw [← Nat.succ_mul]; exact Nat.mul_le_mul_right _ (by omega)
      simp
      omega
    · have := CRows_windows (sz := sz) hrow (h' - l') (r + l' * sz) (by omega)
      rw [Nat.add_assoc]
      rw [sub_b]
      refine (congrArg (CRows x.w x.ok k (off + (r + l' * sz))) (List.map_congr_left fun j _ => ?_)).mp this
      rw [Nat.add_mul, Nat.add_assoc]
  · rename_i b s i r hb
    rw [hb] at e1
    simp only [CA] at e1
    obtain ⟨hl1, k, off, hβ, e⟩ := e1
    simp only [Option.map_eq_some_iff] at he
    obtain ⟨⟨l', h', m'⟩, hbd, e3⟩ := he
    subst e3
    obtain ⟨hrun, p1, p2, p3⟩ := key _ _ _ _ e hbd
    refine ⟨_, hrun, ?_⟩
    simp only [CA]
    refine ⟨hl1, _, _, rfl, by omega, fun hne => ⟨k, off, hβ, ?_⟩⟩
    rw [if_neg (by omega), add_mk]
    simp [Nat.add_assoc]
  · cases he

theorem eqs_ok {neg : Bool} {ks : Bool × List SK} {y z : Operand} {y' z' : X} {v : AV} {T yT : TypeId} {fs : Array Field} {o : Oper} (h1 : cX y = some y') (h2 : cX z = some z')
    (hT : plainT P T = some ks) (hfs : P.underlying T = some (.struct fs)) (hg : P.eqGuardType P.depth T = false) (he : evalP t (.eqs neg ks y' z') = some v) (ho : o.op = .binOp (if neg then .neq else .eql) T y z yT) : Gives P o a x v := by
  have e1 := cX_ok ht h1
  have e2 := cX_ok ht h2
  simp only [evalP, Option.map_eq_some_iff] at he
  obtain ⟨p, hp, e⟩ := he
  subst e
  have hk1 : ks.1 = true := by
    unfold plainT at hT
    rw [hfs] at hT
    simp only at hT
    split at hT
    · cases hT
    · simp only [Option.map_eq_some_iff] at hT
      obtain ⟨l, _, e⟩ := hT
      rw [← e]
  have hag : ∃ us vs, a.eval y = .agg us ∧ a.eval z = .agg vs := by
    unfold eqPlain at hp
    rw [hk1] at hp
    split at hp
    · rename_i q1 q2
      rw [q1] at e1
      rw [q2] at e2
      simp only [CA] at e1 e2
      obtain ⟨us, h3, _⟩ := e1
      obtain ⟨vs, h4, _⟩ := e2
      exact ⟨us, vs, h3, h4⟩
    · exfalso; simp_all
    · cases hp
  obtain ⟨us, vs, h3, h4⟩ := hag
  have hq := plain_ok hT e1 e2 hp 9998 x.w
  rw [h3, h4] at hq
  refine ⟨.bool (p != neg), ?_, CA_b' _ _⟩
  cases neg
  · simp only [execOp, ho, h3, h4, Bool.false_eq_true, if_false]
    simp [run_eqGuard_agg _ _ _ _ _ _ _ hg, run_eql_struct, hq]
  · simp only [execOp, ho, h3, h4, if_true]
    simp [run_eqGuard_agg _ _ _ _ _ _ _ hg, run_neq_struct, hq]

theorem mnmx_ok {mx : Bool} {ys : Array Operand} {zs : List X} {v : AV} {tys : Array TypeId} {o : Oper} (h1 : mapO cX ys.toList = some zs) (he : evalP t (.mnmx mx zs) = some v)
    (ho : o.op = .call { callee := .builtin (if mx then .max else .min), args := ys, argTypes := tys }) : Gives P o a x v := by
  have e1 := mapX_ok ht h1
  have key : ∀ (rest : List AV) (us : List Value) (k : IntKind) (n r : Int), CAs x rest us → mnmxI mx k n rest = some r →
      (us.foldlM (if mx then Builtin.max2 else Builtin.min2) (.int k n)).run P x.w = .ok (.int k r) x.w := by
    intro rest
    induction rest with
    | nil =>
      intro us k n r h hr
      cases us with
      | cons _ _ => simp [CAs] at h
      | nil => simp only [mnmxI, Option.some.injEq] at hr; subst hr; simp
    | cons y ys ih =>
      intro us k n r h hr
      cases us with
      | nil => simp [CAs] at h
      | cons u us =>
        simp only [CAs] at h
        unfold mnmxI at hr
        split at hr
        · rename_i q; cases q
        · rename_i k' m rest' q
          simp only [List.cons.injEq] at q
          obtain ⟨rfl, rfl⟩ := q
          split at hr
          case isFalse => cases hr
          rename_i hk
          subst hk
          have hu := CA_i h.1
          subst hu
          have := ih us k _ r h.2 hr
          simp only [List.foldlM_cons]
          cases mx <;> simp only [Bool.false_eq_true, if_false, if_true] at this ⊢ <;> simpa [Builtin.min2, Builtin.max2] using this
        · cases hr
  simp only [evalP] at he
  split at he
  · rename_i k n rest hr
    simp only [Option.map_eq_some_iff] at he
    obtain ⟨r, hr2, e⟩ := he
    subst e
    rw [hr] at e1
    cases hv : ys.toList.map a.eval with
    | nil => rw [hv] at e1; simp [CAs] at e1
    | cons u us =>
      rw [hv] at e1
      simp only [CAs] at e1
      have hu := CA_i e1.1
      subst hu
      have := key _ _ _ _ _ e1.2 hr2
      refine ⟨.int k r, ?_, CA_i' _ _ _⟩
      have hv' : (ys.map a.eval).toList = .int k n :: us := by simpa using hv
      cases mx <;> simp only [Bool.false_eq_true, if_false, if_true] at this ho <;> simp [execOp, ho, resolve, invoke, builtin, Builtin.min_, Builtin.max_, hv', hv, this]
  · cases he

theorem tas_ok {y : Operand} {y' : X} {v zero : AV} {ok : Bool} {T xT : TypeId} {o : Oper} (hT : ∃ d, P.underlying T = some d ∧ ∀ ms, d ≠ .interface ms) (hz : zeroT P T = some zero) (h1 : cX y = some y')
    (he : evalP t (.tas T ok zero y') = some v) (ho : o.op = .typeAssert y xT T ok) : Gives P o a x v := by
  have e1 := cX_ok ht h1
  obtain ⟨d, hd, hne⟩ := hT
  obtain ⟨zv, hzv, hzo, rfl⟩ := run_zeroT (w := x.w) hz
  have hzc := ofVal_ok x zv hzo
  have hrun : ∀ ty u, a.eval y = .iface ty u → (execOp a.eval o).run P x.w =
      if ty = T then .ok (.value (if ok then .tuple #[u, .bool true] else u)) x.w else if ok then .ok (.value (.tuple #[zv, .bool false])) x.w else (execOp a.eval o).run P x.w := by
    intro ty u e
    simp only [execOp, ho, Instr.typeAssert, e]
    by_cases hty : ty = T
    · subst hty
      cases d <;> first
        | exact absurd rfl (hne _)
        | (cases ok <;> simp [run_underlying hd])
    · rw [if_neg hty]
      cases ok
      · simp
      · cases d <;> first
          | exact absurd rfl (hne _)
          | simp [run_underlying hd, hty, hzv]
  have fin1 : ∀ ty u w', a.eval y = .iface ty u → ty = T → CA x w' u → Gives P o a x (if ok then .tup [w', .iv (.b true)] else w') := by
    intro ty u w' e hty hw
    refine ⟨_, by rw [hrun ty u e, if_pos hty], ?_⟩
    cases ok
    · exact hw
    · simp only [if_true, CA]
      exact ⟨_, rfl, by simp [CAs, hw, CA, CI]⟩
  have fin2 : ∀ ty u, a.eval y = .iface ty u → ty ≠ T → ok = true → Gives P o a x (.tup [ofVal zv, .iv (.b false)]) := by
    intro ty u e hty hok
    subst hok
    refine ⟨_, by rw [hrun ty u e, if_neg hty]; rfl, ?_⟩
    simp only [CA]
    exact ⟨_, rfl, by simp [CAs, hzc, CA, CI]⟩
  simp only [evalP] at he
  split at he
  · rename_i ty w' hb
    rw [hb] at e1
    simp only [CA] at e1
    obtain ⟨u, e, hw⟩ := e1
    split at he
    · rename_i hty
      simp only [Option.some.injEq] at he
      subst he
      exact fin1 _ _ _ e hty hw
    · rename_i hty
      split at he
      · rename_i hok
        simp only [Option.some.injEq] at he
        subst he
        exact fin2 _ _ e hty hok
      · cases he
  · rename_i ty ag cells hb
    rw [hb] at e1
    simp only [CA, CI] at e1
    obtain ⟨u, e, hw⟩ := e1
    split at he
    · rename_i hty
      simp only [Option.map_eq_some_iff] at he
      obtain ⟨w', hw', e'⟩ := he
      subst e'
      refine fin1 _ _ _ e hty ?_
      split at hw'
      · simp only [Option.some.injEq] at hw'
        subst hw'
        simp only [if_true] at hw
        obtain ⟨cs, rfl, h2, h3⟩ := hw
        simp only [CA]
        exact ⟨cs, rfl, CAs_iv h2, h3⟩
      · simp only [Option.some.injEq] at hw'
        subst hw'
        simp only [Bool.false_eq_true, if_false, CIs] at hw
        simp only [CA]
        exact hw.1
      · cases hw'
    · rename_i hty
      split at he
      · rename_i hok
        simp only [Option.some.injEq] at he
        subst he
        exact fin2 _ _ e hty hok
      · cases he
  · rename_i hb
    rw [hb] at e1
    simp only [CA, CI] at e1
    split at he
    · rename_i hok
      simp only [Option.some.injEq] at he
      subst he
      subst hok
      refine ⟨.tuple #[zv, .bool false], ?_, ?_⟩
      · simp only [execOp, ho, Instr.typeAssert, e1]
        cases d <;> first
          | exact absurd rfl (hne _)
          | simp [run_underlying hd, hzv]
      · simp only [CA]
        exact ⟨_, rfl, by simp [CAs, hzc, CA, CI]⟩
    · cases he
  · cases he
end

/-- A value's cells. -/
theorem cellsO_ok {x : Cx} {v : AV} {u : Value} (h : CA x v u) {c : List AV} (hc : cellsO v = some c) : CAs x c u.cells.toList ∧ ∀ z ∈ u.cells.toList, leafV z := by
  have one : leafV u → c = [v] → CAs x c u.cells.toList ∧ ∀ z ∈ u.cells.toList, leafV z := by
    intro hl e
    subst e
    have : u.cells = #[u] := by cases u <;> simp_all [Value.cells, leafV]
    rw [this]
    simp [CAs, h, hl]
  unfold cellsO at hc
  split at hc
  · simp only [Option.some.injEq] at hc
    subst hc
    simp only [CA] at h
    obtain ⟨cs, rfl, h1, h2⟩ := h
    exact ⟨h1, h2⟩
  · cases hc
  · cases hc
  · cases hc
  · cases hc
  · cases hc
  · rename_i n1 n2 n3 n4 n5 n6
    simp only [Option.some.injEq] at hc
    refine one ?_ hc.symm
    cases v with
    | iv y =>
      simp only [CA] at h
      cases y with
      | any => exact absurd rfl n3
      | agg l => exact absurd rfl (n4 l)
      | b b => simp only [CI] at h; subst h; simp [leafV]
      | i k n => simp only [CI] at h; subst h; simp [leafV]
      | s l => simp only [CI] at h; subst h; simp [leafV]
      | c w =>
        simp only [CI] at h
        subst h
        cases u with
        | agg q => exact absurd rfl (n5 q)
        | tuple q => exact absurd rfl (n6 q)
        | _ => simp [leafV]
      | rsl tg r => simp only [CI] at h; obtain ⟨a, cap, e, _⟩ := h; subst e; simp [leafV]
      | rptr r o => simp only [CI] at h; obtain ⟨k, off, e, _⟩ := h; subst e; simp [leafV]
      | fn f p q => simp only [CI] at h; obtain ⟨k, off, e, _⟩ := h; subst e; simp [leafV]
      | ifc ty ag cs => simp only [CI] at h; obtain ⟨k, e, _⟩ := h; subst e; simp [leafV]
    | agg l => exact absurd rfl (n1 l)
    | tup l => exact absurd rfl (n2 l)
    | ptr b sz i o => simp only [CA] at h; obtain ⟨_, k, off, _, e⟩ := h; subst e; simp [leafV]
    | sl b sz st len cap => simp only [CA] at h; obtain ⟨_, k, off, e, _⟩ := h; subst e; simp [leafV]
    | fn f p q => simp only [CA] at h; obtain ⟨k, off, e, _⟩ := h; subst e; simp [leafV]
    | yld l => simp only [CA] at h; obtain ⟨_, k, off, _, e⟩ := h; subst e; simp [leafV]
    | ifc ty y => simp only [CA] at h; obtain ⟨k, e, _⟩ := h; subst e; simp [leafV]
    | mp b => simp only [CA] at h; obtain ⟨_, k, off, _, e⟩ := h; subst e; simp [leafV]
    | asl b sz i o ez len => simp only [CA] at h; obtain ⟨_, k, off, e, _⟩ := h; subst e; simp [leafV]

theorem foldl_splice (off : Nat) : ∀ (v : List Value) (s : Nat) (cells : Array Value), off + s + v.length ≤ cells.size →
    ((v.zipIdx s).foldl (fun cs (c, j) => cs.setIfInBounds (off + j) c) cells).toList = cells.toList.take (off + s) ++ v ++ cells.toList.drop (off + s + v.length)
  | [], s, cells, _ => by simp
  | u :: v, s, cells, h => by
    simp only [List.zipIdx_cons, List.foldl_cons]
    simp only [List.length_cons] at h
    rw [foldl_splice off v (s + 1) _ (by simp; omega)]
    have hl : cells.toList.length = cells.size := by simp
    simp only [Array.toList_setIfInBounds]
    rw [List.take_set, List.drop_set]
    rw [if_pos (by omega)]
    have e1 : (cells.toList.take (off + (s + 1))).set (off + s) u = cells.toList.take (off + s) ++ [u] := by
      rw [show off + (s + 1) = (off + s) + 1 from by omega, List.take_succ_eq_append_getElem (by omega), List.set_append, if_neg (by simp; omega)]
      simp [show min (off + s) cells.size = off + s from by omega]
    rw [e1]
    simp only [List.append_assoc, List.singleton_append, List.length_cons]
    rw [show off + (s + 1) + v.length = off + s + (v.length + 1) from by omega]

/-- The parts of a literal, laid into cells. -/
theorem fill_ok {x : Cx} {place : Nat → Option (Nat × Nat)} : ∀ (vs : List (Nat × Value)) (ps : List (Nat × List AV)) (cells : Array Value) (l l' : List AV),
    CAs x l cells.toList → (∀ z ∈ cells.toList, leafV z) → vs.length = ps.length →
    (∀ (i : Nat) (p : Nat × Value) (q : Nat × List AV), vs[i]? = some p → ps[i]? = some q → place p.1 = some (q.1, q.2.length) ∧ CAs x q.2 p.2.cells.toList ∧ ∀ z ∈ p.2.cells.toList, leafV z) →
    fillA l ps = some l' → ∃ cells', Instr.fill place cells vs = some cells' ∧ CAs x l' cells'.toList ∧ ∀ z ∈ cells'.toList, leafV z
  | [], [], cells, l, l', h1, h2, _, _, hf => by
    simp only [fillA, Option.some.injEq] at hf
    subst hf
    exact ⟨cells, rfl, h1, h2⟩
  | [], _ :: _, _, _, _, _, _, hl, _, _ => by simp at hl
  | _ :: _, [], _, _, _, _, _, hl, _, _ => by simp at hl
  | (i, v) :: vs, (off, c) :: ps, cells, l, l', h1, h2, hl, hp, hf => by
    obtain ⟨e1, e2, e3⟩ := hp 0 _ _ rfl rfl
    simp only [fillA] at hf
    split at hf
    case isFalse => cases hf
    rename_i hle
    have hcl := CAs_length h1
    have hvl := CAs_length e2
    simp only [Array.length_toList] at hcl hvl
    have hsz : ¬ (v.cells.size ≠ c.length ∨ off + v.cells.size > cells.size) := by omega
    simp only [Instr.fill, e1]
    have hcond : (decide (v.cells.size ≠ c.length) || decide (off + v.cells.size > cells.size)) = false := by
      simp; omega
    have key := foldl_splice off v.cells.toList 0 cells (by simp; omega)
    have hfold : (v.cells.zipIdx.foldl (fun cs (c, j) => cs.setIfInBounds (off + j) c) cells) = ((v.cells.toList.zipIdx 0).foldl (fun cs (c, j) => cs.setIfInBounds (off + j) c) cells) := by
      rw [← Array.foldl_toList]; simp
    simp only [Nat.add_zero] at key
    have hc' : CAs x (l.take off ++ c ++ l.drop (off + c.length)) (v.cells.zipIdx.foldl (fun cs (c, j) => cs.setIfInBounds (off + j) c) cells).toList := by
      rw [hfold, key, show v.cells.toList.length = c.length from by simpa using hvl]
      exact CAs_append (CAs_append (CAs_take h1 off) e2) (CAs_drop h1 _)
    have hl' : ∀ z ∈ (v.cells.zipIdx.foldl (fun cs (c, j) => cs.setIfInBounds (off + j) c) cells).toList, leafV z := by
      rw [hfold, key]
      intro z hz
      simp only [List.mem_append] at hz
      rcases hz with (hz | hz) | hz
      · exact h2 z (List.mem_of_mem_take hz)
      · exact e3 z hz
      · exact h2 z (List.mem_of_mem_drop hz)
    obtain ⟨cells', g1, g2, g3⟩ := fill_ok vs ps _ _ _ hc' hl' (by simpa using hl) (fun j p q hj hq => hp (j + 1) p q (by simpa using hj) (by simpa using hq)) hf
    refine ⟨cells', ?_, g2, g3⟩
    rw [if_neg (by simpa using hcond)]
    exact g1
end Go.Eng

