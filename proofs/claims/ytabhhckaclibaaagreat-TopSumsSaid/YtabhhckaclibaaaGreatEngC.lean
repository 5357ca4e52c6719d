/- The engine, part 5: all operations that look at temporaries alone. -/
import Derived.Test.YtabhhckaclibaaaGreatEngB
import Derived.Laws.Tables
set_option linter.all false
namespace Go.Eng

theorem mapO_length {α β : Type} {f : α → Option β} : ∀ {l : List α} {r : List β}, mapO f l = some r → r.length = l.length
  | [], r, h => by simp only [mapO, Option.some.injEq] at h; subst h; rfl
  | x :: xs, r, h => by
    simp only [mapO, Option.bind_eq_some_iff, Option.map_eq_some_iff] at h
    obtain ⟨y, _, ys, hys, e⟩ := h
    subst e
    simp [mapO_length hys]

theorem mapO_get {α β : Type} {f : α → Option β} : ∀ {l : List α} {r : List β}, mapO f l = some r → ∀ (i : Nat) {a : α} {b : β}, l[i]? = some a → r[i]? = some b → f a = some b
  | [], r, h, i, a, b, ha, hb => by simp at ha
  | x :: xs, r, h, i, a, b, ha, hb => by
    simp only [mapO, Option.bind_eq_some_iff, Option.map_eq_some_iff] at h
    obtain ⟨y, hy, ys, hys, e⟩ := h
    subst e
    cases i with
    | zero => simp at ha hb; subst ha hb; exact hy
    | succ i => simp at ha hb; exact mapO_get hys i ha hb

section
variable {P : Program} {cfg : Cfg} {g : Nat} {x : Cx} {t : List AV} {a : Act} (ht : CAs x t a.tmps.toList)
include ht

theorem partsOf_ok : ∀ (parts : List (Nat × Nat × X)) (ps : List (Nat × List AV)), partsOf t parts = some ps → ps.length = parts.length ∧
    ∀ (i : Nat) (p : Nat × Nat × X) (q : Nat × List AV), parts[i]? = some p → ps[i]? = some q → q.1 = p.1 ∧ q.2.length = p.2.1 ∧ cellsO (p.2.2.ev t) = some q.2
  | [], ps, h => by simp only [partsOf, Option.some.injEq] at h; subst h; simp
  | (off, n, y) :: rest, ps, h => by
    simp only [partsOf, Option.bind_eq_some_iff] at h
    obtain ⟨c, hc, h⟩ := h
    split at h
    case isFalse => cases h
    rename_i hl
    simp only [Option.map_eq_some_iff] at h
    obtain ⟨l, hl2, e⟩ := h
    subst e
    obtain ⟨h1, h2⟩ := partsOf_ok rest l hl2
    refine ⟨by simp [h1], fun i p q hp hq => ?_⟩
    cases i with
    | zero => simp at hp hq; subst hp hq; exact ⟨rfl, hl, hc⟩
    | succ i => simp at hp hq; exact h2 i p q hp hq

/-- The parts of a literal: how they are laid. -/
theorem parts_ok {parts : List (Nat × Operand)} {ps : List (Nat × Nat × X)} {qs : List (Nat × List AV)} {place : Nat → Option (Nat × Nat)}
    (h1 : ps.length = parts.length) (h2 : ∀ (i : Nat) (p : Nat × Operand) (q : Nat × Nat × X), parts[i]? = some p → ps[i]? = some q → place p.1 = some (q.1, q.2.1) ∧ cX p.2 = some q.2.2)
    (h3 : partsOf t ps = some qs) :
    (parts.map fun (i, y) => (i, a.eval y)).length = qs.length ∧
    ∀ (i : Nat) (p : Nat × Value) (q : Nat × List AV), (parts.map fun (i, y) => (i, a.eval y))[i]? = some p → qs[i]? = some q → place p.1 = some (q.1, q.2.length) ∧ CAs x q.2 p.2.cells.toList ∧ ∀ z ∈ p.2.cells.toList, leafV z := by
  obtain ⟨g1, g2⟩ := partsOf_ok ht ps qs h3
  refine ⟨by simp; omega, fun i p q hp hq => ?_⟩
  simp only [List.getElem?_map, Option.map_eq_some_iff] at hp
  obtain ⟨p0, hp0, e⟩ := hp
  subst e
  have hi : i < ps.length := by
    have := (List.getElem?_eq_some_iff.1 hp0).1
    omega
  obtain ⟨k1, k2⟩ := h2 i _ _ hp0 (List.getElem?_eq_getElem hi)
  obtain ⟨k3, k4, k5⟩ := g2 i _ _ (List.getElem?_eq_getElem hi) hq
  obtain ⟨k6, k7⟩ := cellsO_ok (cX_ok ht k2) k5
  exact ⟨by simp only; rw [k1, k3, k4], k6, k7⟩

theorem mapM_places {fs : List Field} {ns : List Nat} (h : mapO (fun f => sizeT P f.type) fs = some ns) : ∃ pl, fs.mapM (fun f => (P.info? f.type).map fun i => (f.offset, i.size)) = some pl ∧
    ∀ (i : Nat) (f : Field) (n : Nat), fs[i]? = some f → sizeT P f.type = some n → pl[i]? = some (f.offset, n) := by
  clear ht
  induction fs generalizing ns with
  | nil => exact ⟨[], by simp, by simp⟩
  | cons f fs ih =>
    simp only [mapO, Option.bind_eq_some_iff, Option.map_eq_some_iff] at h
    obtain ⟨n, hn, ns', hns, _⟩ := h
    obtain ⟨pl, h1, h2⟩ := ih hns
    simp only [sizeT, Option.map_eq_some_iff] at hn
    obtain ⟨i0, hi0, e0⟩ := hn
    refine ⟨(f.offset, i0.size) :: pl, by simp [List.mapM_cons, hi0, h1], fun i f' n' hf hn' => ?_⟩
    cases i with
    | zero =>
      simp at hf
      subst hf
      simp only [sizeT, hi0, Option.map_some, Option.some.injEq] at hn'
      simp [hn']
    | succ i =>
      simp at hf
      simpa using h2 i f' n' hf hn'

theorem bld_ok {parts : Array (Nat × Operand)} {ps : List (Nat × Nat × X)} {v : AV} {z : List AV} {T : TypeId} {o : Oper} (hz : zeroT P T = some (.agg z)) (hp : cParts P T parts = some ps)
    (he : evalP t (.bld z ps) = some v) (ho : o.op = .build T parts) : Gives P o a x v := by
  simp only [evalP, Option.bind_eq_some_iff, Option.map_eq_some_iff] at he
  obtain ⟨qs, hqs, l', hf, e⟩ := he
  subst e
  simp only [zeroT, Option.bind_eq_some_iff] at hz
  obtain ⟨zv, ⟨it, hit, hzv⟩, hz⟩ := hz
  split at hz
  case isFalse => cases hz
  rename_i hok
  simp only [Option.some.injEq] at hz
  have hza := ofVal_ok x zv (by simp only [Bool.and_eq_true] at hok; exact hok.1)
  rw [hz] at hza
  simp only [CA] at hza
  obtain ⟨cs, rfl, hz1, hz2⟩ := hza
  have fin : ∀ (place : Nat → Option (Nat × Nat)), ps.length = parts.toList.length → (∀ (i : Nat) (p : Nat × Operand) (q : Nat × Nat × X), parts.toList[i]? = some p → ps[i]? = some q → place p.1 = some (q.1, q.2.1) ∧ cX p.2 = some q.2.2) →
      (∀ cells, Instr.fill place cs (parts.toList.map fun (i, y) => (i, a.eval y)) = some cells → P.built T (parts.toList.map fun (i, y) => (i, a.eval y)) = some cells) → Gives P o a x (.agg l') := by
    intro place h1 h2 h3
    obtain ⟨k1, k2⟩ := parts_ok ht h1 h2 hqs
    obtain ⟨cells, g1, g2, g3⟩ := fill_ok _ qs cs z l' hz1 hz2 k1 k2 hf
    have hb := h3 cells g1
    have hrun := run_build x.w T (parts.map fun (i, y) => (i, a.eval y)) cells (by simpa using hb)
    refine ⟨.agg cells, ?_, ?_⟩
    · simp only [execOp, ho]
      simp [hrun]
    · simp only [CA]
      exact ⟨cells, rfl, g2, g3⟩
  unfold cParts at hp
  split at hp
  · rename_i fs hfs
    simp only [Option.bind_eq_some_iff] at hp
    obtain ⟨ns, hns, hp⟩ := hp
    obtain ⟨pl, h1, h2⟩ := mapM_places ht hns
    refine fin (fun i => pl.toArray[i]?) (mapO_length hp) (fun i p q hp1 hq1 => ?_) (fun cells hc => ?_)
    · have := mapO_get hp i hp1 hq1
      simp only [Option.bind_eq_some_iff, Option.map_eq_some_iff] at this
      obtain ⟨f, hf1, n, hn, y, hy, e⟩ := this
      subst e
      exact ⟨by simpa using h2 _ _ _ (by simpa using hf1) hn, hy⟩
    · simp only [Program.built, hit, hfs, hzv, h1]
      exact hc
  · rename_i n e hfs
    simp only [Option.bind_eq_some_iff] at hp
    obtain ⟨sz, hsz, hp⟩ := hp
    simp only [sizeT, Option.map_eq_some_iff] at hsz
    obtain ⟨ie, hie, rfl⟩ := hsz
    refine fin (fun i => some (i * ie.size, ie.size)) (mapO_length hp) (fun i p q hp1 hq1 => ?_) (fun cells hc => ?_)
    · have := mapO_get hp i hp1 hq1
      simp only [Option.map_eq_some_iff] at this
      obtain ⟨y, hy, e⟩ := this
      subst e
      exact ⟨rfl, hy⟩
    · simp only [Program.built, hit, hfs, hzv, hie]
      exact hc
  · cases hp

/-- **All operations that look at temporaries alone.** -/
theorem evalP_ok {o : Oper} {op : AOp} (hc : cOp P cfg g o = some op) (hcls : op.cls = .P) {v : AV} (he : evalP t op = some v) : Gives P o a x v := by
  unfold cOp at hc
  split at hc
  · rename_i y ho
    simp only [Option.map_eq_some_iff] at hc
    obtain ⟨z, hz, e⟩ := hc
    subst e
    exact mov_ok ht hz he (.inl ho)
  · rename_i y ho
    simp only [Option.map_eq_some_iff] at hc
    obtain ⟨z, hz, e⟩ := hc
    subst e
    exact mov_ok ht hz he (.inr ho)
  · rename_i c p q ho
    simp only [Option.bind_eq_some_iff, Option.map_eq_some_iff] at hc
    obtain ⟨c', h1, p', h2, q', h3, e⟩ := hc
    subst e
    exact pick_ok ht h1 h2 h3 he ho
  · -- alloc
    simp only [Option.map_eq_some_iff] at hc
    obtain ⟨_, _, e⟩ := hc
    subst e
    cases hcls
  · -- box
    simp only [Option.bind_eq_some_iff, Option.map_eq_some_iff] at hc
    obtain ⟨_, _, _, _, e⟩ := hc
    subst e
    cases hcls
  · -- build
    rename_i T parts ho
    split at hc
    case h_2 => cases hc
    rename_i l hl
    simp only [Option.map_eq_some_iff] at hc
    obtain ⟨ps, hps, e⟩ := hc
    subst e
    exact bld_ok ht hl hps he ho
  · -- buildSlice
    split at hc
    case h_2 => cases hc
    simp only [Option.bind_eq_some_iff, Option.map_eq_some_iff] at hc
    obtain ⟨_, _, _, _, _, _, e⟩ := hc
    subst e
    cases hcls
  · -- load
    simp only [Option.bind_eq_some_iff, Option.map_eq_some_iff] at hc
    obtain ⟨_, _, _, _, _, _, e⟩ := hc
    subst e
    cases hcls
  · -- store
    simp only [Option.bind_eq_some_iff, Option.map_eq_some_iff] at hc
    obtain ⟨_, _, _, _, _, _, e⟩ := hc
    subst e
    cases hcls
  · -- nilCheck
    rename_i y ho
    simp only [Option.map_eq_some_iff] at hc
    obtain ⟨z, hz, e⟩ := hc
    subst e
    exact nchk_ok ht hz he ho
  · -- binOp
    rename_i bop T y z yT ho
    split at hc
    · rename_i hop
      have hop' : bop = (if (bop == .neq) = true then BinOp.neq else BinOp.eql) := by
        cases bop <;> simp_all
      split at hc
      · rename_i k hk
        simp only [Option.map_eq_some_iff] at hc
        obtain ⟨y', hy, e⟩ := hc
        subst e
        exact eqn_ok ht hk hy he (by rw [ho]; congr 1)
      · split at hc
        · simp only [Option.bind_eq_some_iff, Option.map_eq_some_iff] at hc
          obtain ⟨y', hy, z', hz, e⟩ := hc
          subst e
          rename_i hT
          exact bin_ok ht hy hz (.inl ⟨_, hT⟩) he ho
        · simp only [Option.bind_eq_some_iff, Option.map_eq_some_iff] at hc
          obtain ⟨y', hy, z', hz, e⟩ := hc
          subst e
          rename_i hT
          exact bin_ok ht hy hz (.inr (.inl hT)) he ho
        · rename_i hT
          simp only [Option.bind_eq_some_iff, Option.map_eq_some_iff] at hc
          obtain ⟨y', hy, z', hz, e⟩ := hc
          subst e
          exact beq_ok ht hy hz hT he (by rw [ho]; congr 1)
        · rename_i fs hT
          simp only [Option.bind_eq_some_iff] at hc
          obtain ⟨ks, hks, hc⟩ := hc
          split at hc
          case isTrue => cases hc
          rename_i hg
          simp only [Option.bind_eq_some_iff, Option.map_eq_some_iff] at hc
          obtain ⟨y', hy, z', hz, e⟩ := hc
          subst e
          exact eqs_ok ht hy hz hks hT (by simpa using hg) he (by rw [ho]; congr 1)
        · cases hc
    · simp only [Option.bind_eq_some_iff, Option.map_eq_some_iff] at hc
      obtain ⟨y', hy, z', hz, e⟩ := hc
      subst e
      exact bin_ok' ht hy hz he ho
  · -- unOp
    rename_i uop T y ho
    split at hc
    · simp only [Option.map_eq_some_iff] at hc
      obtain ⟨z, hz, e⟩ := hc
      subst e
      exact not_ok ht hz he ho
    · simp only [Option.map_eq_some_iff] at hc
      obtain ⟨z, hz, e⟩ := hc
      subst e
      exact neg_ok ht hz he ho
    · cases hc
  · -- convert
    rename_i s d y ho
    split at hc
    · rename_i h1 h2
      simp only [Option.map_eq_some_iff] at hc
      obtain ⟨z, hz, e⟩ := hc
      subst e
      exact conv_ok ht h1 h2 hz he ho
    · rename_i h1 h2
      simp only [Option.map_eq_some_iff] at hc
      obtain ⟨z, hz, e⟩ := hc
      subst e
      exact convs_ok ht h1 h2 hz he ho
    · split at hc
      · simp only [Option.map_eq_some_iff] at hc
        obtain ⟨z, hz, e⟩ := hc
        subst e
        cases hcls
      · cases hc
    · split at hc
      · simp only [Option.map_eq_some_iff] at hc
        obtain ⟨z, hz, e⟩ := hc
        subst e
        cases hcls
      · cases hc
    · split at hc
      · split at hc
        · simp only [Option.map_eq_some_iff] at hc
          obtain ⟨z, hz, e⟩ := hc
          subst e
          cases hcls
        · cases hc
      · cases hc
    · cases hc
  · -- makeInterface
    rename_i T y ho
    split at hc
    · cases hc
    · rename_i hni
      simp only [Option.bind_eq_some_iff, Option.map_eq_some_iff] at hc
      obtain ⟨ag, hag, z, hz, e⟩ := hc
      subst e
      refine mkif_ok ht ?_ hz he ho
      simp only [aggT, Option.map_eq_some_iff] at hag
      obtain ⟨d, hd, _⟩ := hag
      exact ⟨d, hd, fun ms e => hni ms (by rw [hd, e])⟩
  · -- makeFunc
    rename_i f p q ho
    simp only [Option.bind_eq_some_iff, Option.map_eq_some_iff] at hc
    obtain ⟨p', hp, q', hq, e⟩ := hc
    subst e
    exact mkfn_ok ht hp hq he ho
  · -- makeMap
    simp only [Option.some.injEq] at hc
    subst hc
    cases hcls
  · -- makeSlice
    split at hc
    · simp only [Option.bind_eq_some_iff, Option.map_eq_some_iff] at hc
      obtain ⟨_, _, _, _, _, _, _, _, _, _, e⟩ := hc
      subst e
      cases hcls
    · cases hc
  · -- slice
    rename_i T y lo hi mx ho
    simp only [Option.bind_eq_some_iff] at hc
    obtain ⟨y', hy, lo', hlo, hi', hhi, mx', hmx, hc⟩ := hc
    split at hc
    · rename_i hT
      split at hc
      · cases hc
      · rename_i hm
        simp only [Option.some.injEq] at hc
        subst hc
        have hmn : mx = none := by
          cases mx with
          | none => rfl
          | some q =>
            simp only [optX, Option.map_eq_some_iff] at hmx
            obtain ⟨q', _, e⟩ := hmx
            subst e
            simp at hm
        subst hmn
        exact slcs_ok ht hT hy hlo hhi he ho
    · rename_i e hT
      simp only [Option.map_eq_some_iff] at hc
      obtain ⟨sz, hsz, e⟩ := hc
      subst e
      exact slc_ok ht hT hsz hy hlo hhi hmx he ho
    · rename_i n e hT
      split at hc
      · cases hc
      · rename_i hm
        simp only [Option.map_eq_some_iff] at hc
        obtain ⟨sz, hsz, e⟩ := hc
        subst e
        have hmn : mx = none := by
          cases mx with
          | none => rfl
          | some q =>
            simp only [optX, Option.map_eq_some_iff] at hmx
            obtain ⟨q', _, e⟩ := hmx
            subst e
            simp at hm
        subst hmn
        exact slca_ok ht hT hsz hy hlo hhi he ho
    · cases hc
  · -- fieldAddr
    rename_i T y f ho
    simp only [Option.bind_eq_some_iff] at hc
    obtain ⟨fd, hf, n, hn, hc⟩ := hc
    split at hc
    · cases hc
    · rename_i hn0
      simp only [Option.map_eq_some_iff] at hc
      obtain ⟨z, hz, e⟩ := hc
      subst e
      exact fad_ok ht hf hn hn0 hz he ho
  · -- field
    rename_i T y f ho
    simp only [Option.bind_eq_some_iff, Option.map_eq_some_iff] at hc
    obtain ⟨fd, hf, n, hn, ag, hag, z, hz, e⟩ := hc
    subst e
    exact fld_ok ht hf hn hag hz he ho
  · -- indexAddr
    rename_i T y i ho
    simp only [Option.bind_eq_some_iff] at hc
    obtain ⟨y', hy, i', hi, hc⟩ := hc
    split at hc
    · rename_i e hT
      simp only [Option.map_eq_some_iff] at hc
      obtain ⟨sz, hsz, e⟩ := hc
      subst e
      exact iad_ok ht hT hsz hy hi he ho
    · rename_i n e hT
      simp only [Option.map_eq_some_iff] at hc
      obtain ⟨sz, hsz, e⟩ := hc
      subst e
      exact iada_ok ht hT hsz hy hi he ho
    · cases hc
  · -- index
    rename_i T y i ho
    simp only [Option.bind_eq_some_iff] at hc
    obtain ⟨y', hy, i', hi, hc⟩ := hc
    split at hc
    · rename_i hT
      simp only [Option.some.injEq] at hc
      subst hc
      exact idxs_ok ht hT hy hi he ho
    · rename_i n e hT
      simp only [Option.bind_eq_some_iff, Option.map_eq_some_iff] at hc
      obtain ⟨sz, hsz, ag, hag, e⟩ := hc
      subst e
      exact idx_ok ht hT hsz hag hy hi he ho
    · cases hc
  · -- lookup
    split at hc
    · simp only [Option.bind_eq_some_iff, Option.map_eq_some_iff] at hc
      obtain ⟨_, _, _, _, _, _, _, _, e⟩ := hc
      subst e
      cases hcls
    · cases hc
  · -- mapUpdate
    split at hc
    · simp only [Option.bind_eq_some_iff, Option.map_eq_some_iff] at hc
      obtain ⟨_, _, _, _, _, _, _, _, e⟩ := hc
      subst e
      cases hcls
    · cases hc
  · -- insert
    split at hc
    · simp only [Option.bind_eq_some_iff, Option.map_eq_some_iff] at hc
      obtain ⟨_, _, _, _, _, _, _, _, e⟩ := hc
      subst e
      cases hcls
    · cases hc
  · -- typeAssert
    rename_i y xT T ok ho
    split at hc
    · cases hc
    · rename_i d hni hd
      simp only [Option.bind_eq_some_iff, Option.map_eq_some_iff] at hc
      obtain ⟨z, hz, y', hy, e⟩ := hc
      subst e
      exact tas_ok ht ⟨d, hd, fun ms e => hni ms (by rw [e])⟩ hz hy he ho
    · cases hc
  · -- extract
    rename_i y i ho
    simp only [Option.map_eq_some_iff] at hc
    obtain ⟨z, hz, e⟩ := hc
    subst e
    exact ext_ok ht hz he ho
  · -- call
    rename_i c ho
    simp only [Option.bind_eq_some_iff] at hc
    obtain ⟨args, hargs, hc⟩ := hc
    obtain ⟨callee, cargs, tys⟩ := c
    simp only at hargs hc
    cases callee with
    | value f =>
      simp only [Option.map_eq_some_iff] at hc
      obtain ⟨f', hf, e⟩ := hc
      subst e
      simp only [AOp.cls] at hcls
      split at hcls <;> simp_all
    | invoke r name =>
      simp only [Option.map_eq_some_iff] at hc
      obtain ⟨f', hf, e⟩ := hc
      subst e
      cases hcls
    | builtin b =>
      simp only at hc
      unfold cBuiltin at hc
      have one : ∀ y, args = [y] → ∃ z, cargs = #[z] ∧ cX z = some y := by
        intro y e
        subst e
        have hl := mapO_length hargs
        cases cargs with
        | mk l =>
          cases l with
          | nil => simp at hl
          | cons z zs =>
            cases zs with
            | cons _ _ => simp at hl
            | nil =>
              simp only [mapO, Option.bind_eq_some_iff, Option.map_eq_some_iff, Option.some.injEq] at hargs
              obtain ⟨y', hy, ys, hys, e⟩ := hargs
              subst hys
              simp only [List.cons.injEq, and_true] at e
              subst e
              exact ⟨z, rfl, hy⟩
      have hty : ∀ {d : TypeDesc}, (tys[0]?).bind P.underlying = some d → ∃ T, tys[0]? = some T ∧ P.underlying T = some d := by
        intro d h
        simpa [Option.bind_eq_some_iff] using h
      split at hc
      · -- len
        rename_i y
        obtain ⟨z, rfl, hz⟩ := one y rfl
        split at hc
        · rename_i hT
          obtain ⟨T, h1, h2⟩ := hty hT
          simp only [Option.some.injEq] at hc
          subst hc
          exact lens_ok ht h2 hz he h1 ho
        · rename_i e hT
          obtain ⟨T, h1, h2⟩ := hty hT
          simp only [Option.some.injEq] at hc
          subst hc
          exact len_ok ht h2 hz he h1 ho
        · rename_i n e hT
          obtain ⟨T, h1, h2⟩ := hty hT
          simp only [Option.some.injEq] at hc
          subst hc
          exact lena_ok ht (.inl h2) he h1 ho
        · rename_i q hT
          obtain ⟨T, h1, h2⟩ := hty hT
          split at hc
          · rename_i n e hq
            simp only [Option.some.injEq] at hc
            subst hc
            exact lena_ok ht (.inr ⟨q, h2, hq⟩) he h1 ho
          · cases hc
        · cases hc
      · -- cap
        rename_i y
        obtain ⟨z, rfl, hz⟩ := one y rfl
        split at hc
        · rename_i e hT
          obtain ⟨T, h1, h2⟩ := hty hT
          simp only [Option.some.injEq] at hc
          subst hc
          exact cap_ok ht h2 hz he h1 ho
        · cases hc
      · -- append
        split at hc
        · simp only [Option.bind_eq_some_iff] at hc
          obtain ⟨_, _, _, _, _, _, hc⟩ := hc
          split at hc
          · cases hc
          split at hc
          · simp only [Option.some.injEq] at hc
            subst hc
            cases hcls
          · simp only [Option.some.injEq] at hc
            subst hc
            cases hcls
          · simp only [Option.some.injEq] at hc
            subst hc
            cases hcls
          · cases hc
        · cases hc
      · -- copy
        split at hc
        · simp only [Option.map_eq_some_iff] at hc
          obtain ⟨_, _, e⟩ := hc
          subst e
          cases hcls
        · cases hc
      · -- clear
        split at hc
        · simp only [Option.bind_eq_some_iff, Option.map_eq_some_iff] at hc
          obtain ⟨_, _, _, _, e⟩ := hc
          subst e
          cases hcls
        · cases hc
      · simp only [Option.some.injEq] at hc
        subst hc
        exact mnmx_ok (mx := true) ht hargs he ho
      · simp only [Option.some.injEq] at hc
        subst hc
        exact mnmx_ok (mx := false) ht hargs he ho
      · cases hc
  · -- defer
    simp only [Option.bind_eq_some_iff] at hc
    obtain ⟨args, hargs, hc⟩ := hc
    split at hc
    · simp only [Option.map_eq_some_iff] at hc
      obtain ⟨_, _, e⟩ := hc
      subst e
      cases hcls
    · cases hc
  · cases hc
end
end Go.Eng

/- The engine, part 6: operations that read memory. -/
namespace Go.Eng

theorem ARow_drop {x : Cx} {k : Nat} : ∀ {row : List AV} {off : Nat} (_ : ARow x k off row) (n : Nat), n ≤ row.length → ARow x k (off + n) (row.drop n)
  | row, off, h, 0, _ => by simpa using h
  | [], off, h, n + 1, hn => by simp at hn
  | y :: ys, off, h, n + 1, hn => by
    simp only [ARow] at h
    have := ARow_drop h.2 n (by simpa using hn)
    rw [show off + (n + 1) = off + 1 + n from by omega]
    simpa using this
theorem ARow_take {x : Cx} {k : Nat} : ∀ {row : List AV} {off : Nat} (_ : ARow x k off row) (n : Nat), ARow x k off (row.take n)
  | row, off, h, 0 => by simp [ARow]
  | [], off, h, n + 1 => by simp [ARow]
  | y :: ys, off, h, n + 1 => by
    simp only [ARow] at h
    simp only [List.take_succ_cons, ARow]
    exact ⟨h.1, ARow_take h.2 n⟩
theorem ARow_append {x : Cx} {k : Nat} : ∀ {r r' : List AV} {off : Nat}, ARow x k off (r ++ r') ↔ ARow x k off r ∧ ARow x k (off + r.length) r'
  | [], r', off => by simp [ARow]
  | y :: ys, r', off => by
    simp only [List.cons_append, ARow, List.length_cons]
    rw [ARow_append (r := ys), show off + (ys.length + 1) = off + 1 + ys.length from by omega]
    exact and_assoc.symm
theorem ARows_append {x : Cx} {k : Nat} : ∀ {r r' : List (List AV)} {off : Nat}, ARows x k off (r ++ r') ↔ ARows x k off r ∧ ARows x k (off + (r.map List.length).sum) r'
  | [], r', off => by simp [ARows]
  | y :: ys, r', off => by
    simp only [List.cons_append, ARows, List.map_cons, List.sum_cons]
    rw [ARows_append (r := ys), show off + (y.length + (ys.map List.length).sum) = off + y.length + (ys.map List.length).sum from by omega]
    exact and_assoc.symm
theorem sum_len {α : Type} {sz : Nat} : ∀ {rows : List (List α)}, (∀ r ∈ rows, r.length = sz) → (rows.map List.length).sum = rows.length * sz
  | [], _ => by simp
  | r :: rs, h => by
    simp only [List.map_cons, List.sum_cons, List.length_cons]
    rw [h r (by simp), sum_len fun q hq => h q (by simp [hq]), Nat.add_mul]
    omega
theorem ARows_get {x : Cx} {k sz : Nat} : ∀ {rows : List (List AV)} {off : Nat} (_ : ARows x k off rows) (_ : ∀ r ∈ rows, r.length = sz) (i : Nat) {row : List AV} (_ : rows[i]? = some row), ARow x k (off + i * sz) row
  | [], _, _, _, i, row, h => by simp at h
  | r :: rs, off, h, hl, 0, row, e => by
    simp only [ARows] at h
    simp at e; subst e
    simpa using h.1
  | r :: rs, off, h, hl, i + 1, row, e => by
    simp only [ARows] at h
    have hr := hl r (by simp)
    have := ARows_get h.2 (fun q hq => hl q (by simp [hq])) i (by simpa using e)
    rw [hr] at this
    rwa [show off + (i + 1) * sz = off + sz + i * sz from by rw [Nat.add_mul]; omega]
theorem ARows_drop {x : Cx} {k sz : Nat} : ∀ {rows : List (List AV)} {off : Nat} (_ : ARows x k off rows) (_ : ∀ r ∈ rows, r.length = sz) (n : Nat), n ≤ rows.length → ARows x k (off + n * sz) (rows.drop n)
  | rows, off, h, hl, 0, _ => by simpa using h
  | [], off, h, hl, n + 1, hn => by simp at hn
  | r :: rs, off, h, hl, n + 1, hn => by
    simp only [ARows] at h
    have hr := hl r (by simp)
    have := ARows_drop h.2 (fun q hq => hl q (by simp [hq])) n (by simpa using hn)
    rw [hr] at this
    rw [show off + (n + 1) * sz = off + sz + n * sz from by rw [Nat.add_mul]; omega]
    simpa using this
theorem ARows_take {x : Cx} {k : Nat} : ∀ {rows : List (List AV)} {off : Nat} (_ : ARows x k off rows) (n : Nat), ARows x k off (rows.take n)
  | rows, off, h, 0 => by simp [ARows]
  | [], off, h, n + 1 => by simp [ARows]
  | r :: rs, off, h, n + 1 => by
    simp only [ARows] at h
    simp only [List.take_succ_cons, ARows]
    exact ⟨h.1, ARows_take h.2 n⟩

/-- What the model reads of a row. -/
theorem loadCells_ok {P : Program} {w : World} {k : Nat} : ∀ (vs : List Value) (off i : Nat) (acc : Array Value), (∀ (j : Nat) (v : Value), vs[j]? = some v → w.cell? ⟨k, off + i + j, none⟩ = some v) →
    (loadCellsFrom ⟨k, off, none⟩ i vs.length acc).run P w = .ok (acc ++ vs.toArray) w
  | [], off, i, acc, _ => by simp [loadCellsFrom]
  | v :: vs, off, i, acc, h => by
    have h0 : w.cell? ⟨k, off + i, none⟩ = some v := by simpa using h 0 v (by simp)
    have hl : (load ((⟨k, off, none⟩ : Addr).add i)).run P w = .ok v w := by
      rw [add_mk]
      simp [load, Sem.run, h0]
    have ih := loadCells_ok (P := P) vs off (i + 1) (acc.push v) (fun j u hu => by
      have := h (j + 1) u (by simpa using hu)
      rwa [show off + (i + 1) + j = off + i + (j + 1) from by omega])
    simp only [List.length_cons, loadCellsFrom, Sem.run_bind, hl, Result.andThen_ok, ih]
    simp

/-- The values of a row. -/
theorem ARow_values {x : Cx} {k : Nat} : ∀ {row : List AV} {off : Nat}, ARow x k off row → ∃ vs : List Value, CAs x row vs ∧ (∀ u ∈ vs, leafV u) ∧ ∀ (j : Nat) (v : Value), vs[j]? = some v → x.w.cell? ⟨k, off + j, none⟩ = some v
  | [], off, _ => ⟨[], by simp [CAs], by simp, by simp⟩
  | y :: ys, off, h => by
    simp only [ARow] at h
    obtain ⟨⟨v, h1, h2, h3⟩, h4⟩ := h
    obtain ⟨vs, g1, g2, g3⟩ := ARow_values h4
    refine ⟨v :: vs, by simp only [CAs]; exact ⟨h3, g1⟩, by simpa using ⟨h2, g2⟩, fun j u hu => ?_⟩
    cases j with
    | zero => simp at hu; subst hu; simpa using h1
    | succ j =>
      have := g3 j u (by simpa using hu)
      rwa [show off + (j + 1) = off + 1 + j from by omega]
/-- A read-only row, as a row. -/
theorem ARow_of_CRow {x : Cx} {k : Nat} : ∀ {row : List IV} {off : Nat}, CRow x.w x.ok k off row → ARow x k off (row.map .iv)
  | [], off, _ => by simp [ARow]
  | y :: ys, off, h => by
    simp only [CRow] at h
    obtain ⟨⟨v, h1, h2, h3⟩, h4⟩ := h
    simp only [List.map_cons, ARow, CA]
    exact ⟨⟨v, h1, h2, h3⟩, ARow_of_CRow h4⟩
theorem ARows_of_CRows {x : Cx} {k : Nat} : ∀ {rows : List (List IV)} {off : Nat}, CRows x.w x.ok k off rows → ARows x k off (rows.map fun r => r.map .iv)
  | [], off, _ => by simp [ARows]
  | r :: rs, off, h => by
    simp only [CRows] at h
    simp only [List.map_cons, ARows, List.length_map]
    exact ⟨ARow_of_CRow h.1, ARows_of_CRows h.2⟩

/-- A part of a row, read. -/
theorem loadVar_ok {P : Program} {x : Cx} {T : TypeId} {n : Nat} {ag : Bool} (hn : sizeT P T = some n) (hag : aggT P T = some ag) {k off o : Nat} {row : List AV} (h : ARow x k off row) {v : AV} (he : partV row o n ag = some v) :
    ∃ u, (loadVar T ⟨k, off + o, none⟩).run P x.w = .ok u x.w ∧ CA x v u := by
  obtain ⟨vs, h1, h2, h3⟩ := ARow_values h
  have hl := CAs_length h1
  unfold partV at he
  split at he
  case isFalse => cases he
  rename_i hle
  cases ag with
  | true =>
    simp only [if_true, Option.some.injEq] at he
    subst he
    have hcells : ∀ (j : Nat) (v : Value), ((vs.drop o).take n)[j]? = some v → x.w.cell? ⟨k, off + o + 0 + j, none⟩ = some v := by
      intro j v hv
      rw [List.getElem?_take] at hv
      split at hv
      · rw [List.getElem?_drop] at hv
        have := h3 _ _ hv
        rwa [show off + o + 0 + j = off + (o + j) from by omega]
      · cases hv
    have hlen : ((vs.drop o).take n).length = n := by simp; omega
    have hrun := loadCells_ok (P := P) (w := x.w) (k := k) ((vs.drop o).take n) (off + o) 0 #[] hcells
    rw [hlen] at hrun
    refine ⟨.agg ((vs.drop o).take n).toArray, by simp [loadVar, run_aggT hag, run_sizeT hn, loadCells, hrun], ?_⟩
    simp only [CA]
    refine ⟨_, rfl, by simpa using CAs_take (CAs_drop h1 o) n, fun u hu => h2 u ?_⟩
    simp only [List.toList_toArray] at hu
    exact List.mem_of_mem_drop (List.mem_of_mem_take hu)
  | false =>
    simp only [Bool.false_eq_true, if_false] at he
    obtain ⟨u, g1, g2⟩ := CAs_get h1 o he
    exact ⟨u, by simp [loadVar, run_aggT hag, load, Sem.run, h3 o u g1], g2⟩

theorem rowsOf_some {h : AH} {b sz : Nat} {rows : List (List AV)} (e : rowsOf h b sz = some rows) : h.get b = some (.cells sz rows) := by
  unfold rowsOf at e
  split at e
  · rename_i s r hb
    split at e
    · rename_i hs
      simp only [Option.some.injEq] at e
      rw [hb, hs, e]
    · cases e
  · cases e

section
variable {P : Program} {cfg : Cfg} {g : Nat} {x : Cx} {t : List AV} {a : Act} (ht : CAs x t a.tmps.toList) (hs : Sim P cfg x)
include ht hs

theorem ld_ok {y : Operand} {y' : X} {v : AV} {T : TypeId} {n : Nat} {ag : Bool} {o : Oper} (hn : sizeT P T = some n) (hag : aggT P T = some ag) (h1 : cX y = some y') (he : evalR t x.h (.ld n ag y') = some v) (ho : o.op = .load T y) : Gives P o a x v := by
  have e1 := cX_ok ht h1
  have key : ∀ k off j row, a.eval y = .pointer (some ⟨k, off + j, none⟩) → ARow x k off row → partV row j n ag = some v → Gives P o a x v := by
    intro k off j row e hr hp
    obtain ⟨u, g1, g2⟩ := loadVar_ok (P := P) hn hag hr hp
    exact ⟨u, by simp [execOp, ho, Instr.loadAt, e, Instr.sureAddr, g1], g2⟩
  simp only [evalR] at he
  unfold loadAt at he
  split at he
  · rename_i row j hb
    rw [hb] at e1
    simp only [CA, CI] at e1
    obtain ⟨k, off, e, _, hrow⟩ := e1
    exact key k off j _ e (ARow_of_CRow hrow) he
  · rename_i b sz i j hb
    rw [hb] at e1
    simp only [CA] at e1
    obtain ⟨hR, k, off, hβ, e⟩ := e1
    simp only [Option.bind_eq_some_iff] at he
    obtain ⟨rows, hrows, row, hrow, hp⟩ := he
    have hg := rowsOf_some hrows
    have hblk := hs.ok b _ hg hR
    simp only [BlkOk] at hblk
    have hne : rows ≠ [] := by rintro rfl; simp at hrow
    obtain ⟨k', off', hβ', _, hall, har⟩ := hblk.2 hne
    rw [hβ] at hβ'
    simp only [Option.some.injEq, Prod.mk.injEq] at hβ'
    obtain ⟨rfl, rfl⟩ := hβ'
    exact key k (off + i * sz) j row e (ARows_get har hall i hrow) hp
  · cases he

end

theorem byteOf_ok {y : IV} {u : UInt8} (h : byteOf y = some u) : y = .i .u8 (u.toNat : Int) := by
  unfold byteOf at h
  split at h
  · rename_i n
    split at h
    · rename_i hc
      simp only [Option.some.injEq] at h
      subst h
      congr 1
      have : n.toNat < 256 := by omega
      simp [UInt8.toNat_ofNat', Nat.mod_eq_of_lt this]
      omega
    · cases h
  · cases h

theorem bytesRowsA {x : Cx} {k : Nat} : ∀ {rows : List (List AV)} {l : List UInt8} {off : Nat}, bytesOfRowsA rows = some l → ARows x k off rows →
    l.length = rows.length ∧ ∀ (j : Nat) (hj : j < l.length), x.w.cell? ⟨k, off + j, none⟩ = some (.int .u8 (l[j].toNat : Int))
  | [], l, off, h, _ => by
    simp only [bytesOfRowsA, mapO, Option.some.injEq] at h
    subst h
    simp
  | r :: rs, l, off, h, ha => by
    simp only [bytesOfRowsA, mapO, Option.bind_eq_some_iff, Option.map_eq_some_iff] at h
    obtain ⟨u, hu, us, hus, e⟩ := h
    subst e
    split at hu
    case h_2 => cases hu
    rename_i y
    have hy := byteOf_ok hu
    subst hy
    simp only [ARows, ARow, List.length_cons, List.length_nil] at ha
    obtain ⟨⟨⟨v, h1, _, h2⟩, _⟩, h3⟩ := ha
    have hv := CA_i h2
    subst hv
    obtain ⟨g1, g2⟩ := bytesRowsA (rows := rs) (l := us) (off := off + 1) hus h3
    refine ⟨by simp [g1], fun j hj => ?_⟩
    cases j with
    | zero => simpa using h1
    | succ j =>
      have := g2 j (by simpa using hj)
      rw [show off + (j + 1) = off + 1 + j from by omega]
      simpa using this

theorem bytesOfRows_map : ∀ (rows : List (List IV)), bytesOfRowsA (rows.map fun r => r.map .iv) = bytesOfRows rows
  | [] => rfl
  | r :: rs => by
    have ih := bytesOfRows_map rs
    simp only [bytesOfRowsA, bytesOfRows] at ih ⊢
    simp only [List.map_cons, mapO, ih]
    cases r with
    | nil => simp
    | cons y ys => cases ys <;> simp

theorem checkKey_scal {P : Program} {T : TypeId} {s : SK} (hs : scalT P T = some s) (u : Value) (em : Bool) (n : Nat) (w : World) : (Instr.checkKey em (n + 1) T u).run P w = .ok () w := by
  unfold scalT at hs
  split at hs <;> first
    | (rename_i hT; simp only [Instr.checkKey, Sem.run_bind, run_underlying hT, Result.andThen_ok]; cases u <;> simp; done)
    | (exfalso; simp at hs; done)

theorem scal_part {P : Program} {T : TypeId} {s : SK} (hs : scalT P T = some s) {cs : Array Value} {off : Nat} {u : Value} (hu : cs[off]? = some u) (w : World) : (part T cs off).run P w = .ok u w := by
  unfold scalT at hs
  split at hs <;> first
    | (rename_i hT; simp [part, isAgg, run_underlying hT, hu]; done)
    | (exfalso; simp at hs; done)

theorem checkFs {P : Program} {xs : Array Value} (em : Bool) (n : Nat) (w : World) : ∀ (fs : List Field) (i : Nat) (ks : List SK), plainFs P i fs = some ks → xs.size = i + ks.length →
    (forIn fs PUnit.unit fun (f : Field) (_ : PUnit) => (do
      if f.name ≠ "_" then Instr.checkKey em (n + 1) f.type (← part f.type xs f.offset)
      pure (ForInStep.yield PUnit.unit) : Sem (ForInStep PUnit))).run P w = .ok PUnit.unit w
  | [], i, ks, h, hl => by simp
  | f :: fs, i, ks, h, hl => by
    simp only [plainFs] at h
    split at h
    case isFalse => cases h
    rename_i hc
    simp only [Bool.and_eq_true, bne_iff_ne, ne_eq, beq_iff_eq] at hc
    simp only [Option.bind_eq_some_iff, Option.map_eq_some_iff] at h
    obtain ⟨k, hk, ks', hks, e⟩ := h
    subst e
    simp only [List.length_cons] at hl
    obtain ⟨u, hu⟩ : ∃ u, xs[f.offset]? = some u := by
      rw [hc.2]
      exact ⟨_, Array.getElem?_eq_getElem (show i < xs.size by omega)⟩
    have ih := checkFs (xs := xs) em n w fs (i + 1) ks' hks (by omega)
    simp only [List.forIn_cons, Sem.run_bind]
    simp only [if_pos (show f.name ≠ "_" from hc.1), Sem.run_bind, scal_part hk hu, Result.andThen_ok, checkKey_scal hk, Sem.run_pure]
    exact ih

theorem eqCells_length : ∀ {ks : List SK} {a b : List AV} {p : Bool}, eqCells ks a b = some p → a.length = ks.length
  | [], [], [], _, _ => rfl
  | [], [], _ :: _, _, h => by simp [eqCells] at h
  | [], _ :: _, _, _, h => by simp [eqCells] at h
  | _ :: _, [], _, _, h => by simp [eqCells] at h
  | s :: ss, y :: a, b, p, h => by
    unfold eqCells at h
    split at h
    · rename_i q; cases q
    · rename_i q1 q2
      simp only [List.cons.injEq] at q1 q2
      obtain ⟨rfl, rfl⟩ := q1
      obtain ⟨rfl, rfl⟩ := q2
      split at h
      · rename_i hq
        simp [eqCells_length hq]
      · cases h
    · cases h

/-- A key's kind may stand in a map. -/
theorem checkKey_ok {P : Program} {x : Cx} {T : TypeId} {ks : Bool × List SK} (hT : plainT P T = some ks) {y z : AV} {u : Value} (hy : CA x y u) {p : Bool} (he : eqPlain ks y z = some p) (em : Bool) (w : World) :
    (Instr.checkKey em 10000 T u).run P w = .ok () w := by
  unfold plainT at hT
  split at hT
  · rename_i fs hfs
    split at hT
    case isTrue => cases hT
    simp only [Option.map_eq_some_iff] at hT
    obtain ⟨l, hl, e⟩ := hT
    subst e
    unfold eqPlain at he
    split at he
    · simp only [CA] at hy
      obtain ⟨us, rfl, h1, _⟩ := hy
      have h4 := eqCells_length he
      have h3 := CAs_length h1
      have key := checkFs (P := P) (xs := us) em 9998 w fs.toList 0 l hl (by simp at h3 h4; omega)
      have h0 : ∀ n, (forIn fs.toList PUnit.unit fun (f : Field) (_ : PUnit) => (do
          if f.name ≠ "_" then Instr.checkKey em n f.type (← part f.type us f.offset)
          pure (ForInStep.yield PUnit.unit) : Sem (ForInStep PUnit))).run P w = .ok PUnit.unit w → (Instr.checkKey em (n + 1) T (.agg us)).run P w = .ok () w := by
        intro n hk
        simp only [Instr.checkKey, Sem.run_bind, run_underlying hfs, Result.andThen_ok]
        rw [← Array.forIn_toList]
        simp only [Sem.run_bind] at hk ⊢
        simp only [Result.andThen]
        rw [hk]
        rfl
      exact h0 _ key
    · exfalso; simp_all
    · cases he
  · simp only [Option.map_eq_some_iff] at hT
    obtain ⟨k, hk, e⟩ := hT
    exact checkKey_scal hk u em 9999 w

section
variable {P : Program} {cfg : Cfg} {g : Nat} {x : Cx} {t : List AV} {a : Act} (ht : CAs x t a.tmps.toList) (hs : Sim P cfg x)
include ht hs

theorem b2s_ok {y : Operand} {y' : X} {v : AV} {T U e : TypeId} {o : Oper} (hT : P.underlying T = some (.slice e)) (he8 : P.underlying e = some (.int .u8)) (hU : P.underlying U = some .string) (h1 : cX y = some y')
    (he : evalR t x.h (.b2s y') = some v) (ho : o.op = .convert T U y) : Gives P o a x v := by
  have e1 := cX_ok ht h1
  have key : ∀ ad len cap (l : List UInt8), a.eval y = .slice ad len cap → l.length = len → (l ≠ [] → ∃ k off, ad = some ⟨k, off, none⟩ ∧ ∀ (j : Nat) (hj : j < l.length), x.w.cell? ⟨k, off + j, none⟩ = some (.int .u8 (l[j].toNat : Int))) → Gives P o a x (.iv (.s l)) := by
    intro ad len cap l hyy hl hc
    refine ⟨.string ⟨l.toArray⟩, ?_, CA_s' _ _⟩
    cases ad with
    | none =>
      have : l = [] := by
        rcases l with _ | ⟨b, bs⟩
        · rfl
        · obtain ⟨k, off, e', _⟩ := hc (by simp)
          cases e'
      subst this
      simp [execOp, ho, hyy, convert, run_underlying hT, run_underlying hU, run_underlying he8, Conv.bytesToString]
      rfl
    | some ad =>
      subst hl
      have hr := run_convert_bytes_back (P := P) x.w T U e ad cap l hT he8 hU (fun j hj => by
        obtain ⟨k, off, e', h2⟩ := hc (by rintro rfl; simp at hj)
        simp only [Option.some.injEq] at e'
        subst e'
        rw [add_mk]
        exact h2 j hj)
      simp [execOp, ho, hyy, hr]
  simp only [evalR] at he
  split at he
  · rename_i tg rows hb
    rw [hb] at e1
    simp only [CA, CI] at e1
    obtain ⟨ad, cap, e, _, _, hr⟩ := e1
    simp only [Option.map_eq_some_iff] at he
    obtain ⟨l, hl, e'⟩ := he
    subst e'
    have hlen : l.length = rows.length := mapO_length hl
    refine key ad _ cap l e hlen (fun hne => ?_)
    have hrne : rows ≠ [] := by rintro rfl; simp at hlen; exact hne hlen
    obtain ⟨k, off, sz, rfl, hA, hsz, hall, hrows⟩ := hr hrne
    have := bytesRowsA (x := x) (l := l) ((bytesOfRows_map rows).trans hl) (ARows_of_CRows (CRows_sub hA hrows))
    exact ⟨k, off, rfl, this.2⟩
  · rename_i b sz st len cp hb
    rw [hb] at e1
    simp only [CA] at e1
    obtain ⟨hR, ad, cap, e, _, _, hm⟩ := e1
    split at he
    · rename_i hl0
      subst hl0
      simp only [Option.some.injEq] at he
      subst he
      exact key ad _ cap [] e rfl (fun h => absurd rfl h)
    · rename_i hl0
      simp only [Option.bind_eq_some_iff] at he
      obtain ⟨rows, hrows, he⟩ := he
      split at he
      case isFalse => cases he
      rename_i hc
      obtain ⟨hc1, rfl⟩ := hc
      simp only [Option.map_eq_some_iff] at he
      obtain ⟨l, hl, e'⟩ := he
      subst e'
      have hg := rowsOf_some hrows
      have hblk := hs.ok b _ hg hR
      simp only [BlkOk] at hblk
      have hne : rows ≠ [] := by rintro rfl; simp at hc1; omega
      obtain ⟨k, off, hβ, _, hall, har⟩ := hblk.2 hne
      have hlen : l.length = len := by
        have := mapO_length hl
        rw [this]; simp; omega
      refine key ad _ cap l e hlen (fun hlne => ?_)
      cases ad with
      | none => simp only at hm; omega
      | some ad =>
        rcases hm with hm | ⟨k', off', hβ', rfl, _⟩
        · omega
        · rw [hβ] at hβ'
          simp only [Option.some.injEq, Prod.mk.injEq] at hβ'
          obtain ⟨rfl, rfl⟩ := hβ'
          have := bytesRowsA (x := x) (l := l) hl (ARows_take (ARows_drop har hall st (by omega)) len)
          exact ⟨k, _, rfl, this.2⟩
  · cases he
end

/-- Where an entry is that a key finds. -/
def UpdAt (ks : Bool × List SK) (k : AV) (es : List (AV × AV)) (j : Nat) : Prop := (∀ c, updEntry ks k c es = some (es.set j (k, c))) ∧ ∃ k' v, es[j]? = some (k', v) ∧ eqPlain ks k k' = some true
theorem UpdAt.zero {ks : Bool × List SK} {k k' v : AV} {es : List (AV × AV)} (h : eqPlain ks k k' = some true) : UpdAt ks k ((k', v) :: es) 0 := ⟨fun c => by simp [updEntry, h], k', v, rfl, h⟩
theorem UpdAt.succ {ks : Bool × List SK} {k k' v : AV} {es : List (AV × AV)} {j : Nat} (h : eqPlain ks k k' = some false) (u : UpdAt ks k es j) : UpdAt ks k ((k', v) :: es) (j + 1) :=
  ⟨fun c => by simp [updEntry, h, u.1 c], by obtain ⟨a, b, h1, h2⟩ := u.2; exact ⟨a, b, by simpa using h1, h2⟩⟩

/-- What a key finds. -/
theorem find_ok {P : Program} {x : Cx} {T : TypeId} {ks : Bool × List SK} (hT : plainT P T = some ks) {k : AV} {u : Value} (hk : CA x k u) (w : World) : ∀ (es : List (AV × AV)) (ms : List MapEntry) (i : Nat) (r : Option AV), Ents x es ms →
    findEntry ks k es = some r →
    (r = none → (Instr.findAsking T u ms i).run P w = .ok none w) ∧ (∀ v, r = some v → ∃ j m, (Instr.findAsking T u ms i).run P w = .ok (some (i + j, m.val)) w ∧ ms[j]? = some m ∧ CA x v m.val ∧ UpdAt ks k es j)
  | [], [], i, r, _, h => by
    simp only [findEntry, Option.some.injEq] at h
    subst h
    exact ⟨fun _ => by simp [Instr.findAsking], fun v e => by cases e⟩
  | [], _ :: _, i, r, he, h => by simp [Ents] at he
  | _ :: _, [], i, r, he, h => by simp [Ents] at he
  | (k', v) :: es, m :: ms, i, r, he, h => by
    simp only [Ents] at he
    obtain ⟨h1, h2, h3⟩ := he
    simp only [findEntry] at h
    have heq : ∀ p, eqPlain ks k k' = some p → (Op.equal T u m.key).run P w = .ok p w := fun p hp => plain_ok hT hk h1 hp 9998 w
    split at h
    · rename_i hp
      simp only [Option.some.injEq] at h
      subst h
      refine ⟨(fun e => by cases e), fun v' e => ?_⟩
      simp only [Option.some.injEq] at e
      subst e
      exact ⟨0, m, by simp [Instr.findAsking, heq _ hp], by simp, h2, .zero hp⟩
    · rename_i hp
      obtain ⟨g1, g2⟩ := find_ok hT hk w es ms (i + 1) r h3 h
      have hrun : (Instr.findAsking T u (m :: ms) i).run P w = (Instr.findAsking T u ms (i + 1)).run P w := by simp [Instr.findAsking, heq _ hp]
      refine ⟨fun e => hrun.trans (g1 e), fun v' e => ?_⟩
      obtain ⟨j, m', q1, q2, q3, q4⟩ := g2 v' e
      exact ⟨j + 1, m', by rw [hrun, q1, show i + 1 + j = i + (j + 1) from by omega], by simpa using q2, q3, q4.succ hp⟩
    · cases h

theorem sameNow_ok {P : Program} {T : TypeId} {d : TypeDesc} (hd : P.underlying T = some d) {u v : Value} {p : Bool} (hp : Instr.sameNow d u v = some p) (n : Nat) (w : World) : (Op.equalIn (n + 1) T u v).run P w = .ok p w := by
  unfold Instr.sameNow at hp
  split at hp
  · split at hp
    · rename_i hkk
      subst hkk
      simp only [Option.some.injEq] at hp
      subst hp
      exact run_equalIn_int _ _ _ _ _ _ _ hd
    · cases hp
  · simp only [Option.some.injEq] at hp
    subst hp
    simp [Op.equalIn, run_underlying hd]
  · simp only [Option.some.injEq] at hp
    subst hp
    simp [Op.equalIn, run_underlying hd]
  · cases hp

/-- What is found at once is what is found by asking. -/
theorem findNow_ok {P : Program} {x : Cx} {T : TypeId} {d : TypeDesc} (hd : P.underlying T = some d) {ks : Bool × List SK} (hT : plainT P T = some ks) {k : AV} {u : Value} (hk : CA x k u) (w : World) : ∀ (es : List (AV × AV)) (ms : List MapEntry) (i : Nat) (r : Option AV), Ents x es ms →
    findEntry ks k es = some r → ∀ q, Instr.findNow d u ms i = some q → (Instr.findAsking T u ms i).run P w = .ok q w
  | [], [], i, r, _, h, q, hq => by simp only [Instr.findNow, Option.some.injEq] at hq; subst hq; simp [Instr.findAsking]
  | [], _ :: _, i, r, he, h, q, hq => by simp [Ents] at he
  | _ :: _, [], i, r, he, h, q, hq => by simp [Ents] at he
  | (k', v) :: es, m :: ms, i, r, he, h, q, hq => by
    simp only [Ents] at he
    obtain ⟨h1, h2, h3⟩ := he
    simp only [findEntry] at h
    have heq : ∀ p, eqPlain ks k k' = some p → (Op.equal T u m.key).run P w = .ok p w := fun p hp => plain_ok hT hk h1 hp 9998 w
    have hnow : ∀ p, Instr.sameNow d u m.key = some p → ∀ p', (Op.equal T u m.key).run P w = .ok p' w → p = p' := by
      intro p hp p' hp'
      have e1 := sameNow_ok hd hp 9999 w
      have e2 : (Op.equalIn (9999 + 1) T u m.key).run P w = .ok p' w := hp'
      rw [e1] at e2
      injection e2
    simp only [Instr.findNow] at hq
    split at h
    · rename_i hp
      have e1 := heq _ hp
      split at hq
      · simp only [Option.some.injEq] at hq
        subst hq
        simp [Instr.findAsking, e1]
      · rename_i hn
        have := hnow _ hn _ e1
        cases this
      · cases hq
    · rename_i hp
      have e1 := heq _ hp
      split at hq
      · rename_i hn
        have := hnow _ hn _ e1
        cases this
      · have := findNow_ok hd hT hk w es ms (i + 1) r h3 h q hq
        simp [Instr.findAsking, e1, this]
      · cases hq
    · cases h

theorem findKey_ok {P : Program} {x : Cx} {T : TypeId} {ks : Bool × List SK} (hT : plainT P T = some ks) {k : AV} {u : Value} (hk : CA x k u) (w : World) {es : List (AV × AV)} {ms : List MapEntry} {r : Option AV} (he : Ents x es ms)
    (h : findEntry ks k es = some r) : (r = none → (Instr.findKey T u ms).run P w = .ok none w) ∧ (∀ v, r = some v → ∃ j m, (Instr.findKey T u ms).run P w = .ok (some (j, m.val)) w ∧ ms[j]? = some m ∧ CA x v m.val ∧ UpdAt ks k es j) := by
  obtain ⟨d, hd⟩ : ∃ d, P.underlying T = some d := by
    unfold plainT at hT
    split at hT
    · rename_i fs hfs; exact ⟨_, hfs⟩
    · simp only [Option.map_eq_some_iff] at hT
      obtain ⟨s, hs, _⟩ := hT
      unfold scalT at hs
      split at hs <;> first
        | (rename_i q; exact ⟨_, q⟩)
        | (simp at hs; done)
  have hrun : (Instr.findKey T u ms).run P w = (Instr.findAsking T u ms 0).run P w := by
    simp only [Instr.findKey, Sem.run_bind, run_underlying hd, Result.andThen_ok]
    split
    · rename_i q hq
      rw [findNow_ok hd hT hk w es ms 0 r he h q hq]
      simp
    · rfl
  obtain ⟨g1, g2⟩ := find_ok hT hk w es ms 0 r he h
  rw [hrun]
  refine ⟨g1, fun v e => ?_⟩
  obtain ⟨j, m, q1, q2, q3, q4⟩ := g2 v e
  exact ⟨j, m, by simpa using q1, q2, q3, q4⟩

/-- Where an operation comes from. -/
def Inv (P : Program) (cfg : Cfg) (g : Nat) (o : Oper) : AOp → Prop
  | .ld n ag y' => ∃ T y, o.op = .load T y ∧ sizeT P T = some n ∧ aggT P T = some ag ∧ cX y = some y'
  | .b2s y' => ∃ T U e y, o.op = .convert T U y ∧ P.underlying T = some (.slice e) ∧ P.underlying e = some (.int .u8) ∧ P.underlying U = some .string ∧ cX y = some y'
  | .lkp ks ok z y' k' => ∃ T kt et y k, o.op = .lookup T y k ok ∧ P.underlying T = some (.map kt et) ∧ plainT P kt = some ks ∧ zeroT P et = some z ∧ cX y = some y' ∧ cX k = some k'
  | .alc cells => ∃ T z, o.op = .alloc T ∧ zeroT P T = some z ∧ cells = cellsA z
  | .box n y' => ∃ T y, o.op = .box T y ∧ sizeT P T = some n ∧ cX y = some y'
  | .bsl sz len zero ps => ∃ T e z parts, o.op = .buildSlice T len parts ∧ P.underlying T = some (.slice e) ∧ sizeT P e = some sz ∧ zeroT P e = some z ∧ zero = cellsA z ∧ mapO (fun (i, x) => (cX x).map fun y => (i, y)) parts.toList = some ps
  | .mks sz bs zero l' c' => ∃ T e z l c, o.op = .makeSlice T l c ∧ P.underlying T = some (.slice e) ∧ sizeT P e = some sz ∧ bytesT P e = some bs ∧ zeroT P e = some z ∧ zero = cellsA z ∧ cX l = some l' ∧ cX c = some c'
  | .mkm => ∃ T, o.op = .makeMap T none
  | .s2b y' => ∃ T U e y, o.op = .convert T U y ∧ P.underlying T = some .string ∧ P.underlying U = some (.slice e) ∧ P.underlying e = some (.int .u8) ∧ cX y = some y'
  | .st n y' v' => ∃ T y v, o.op = .store T y v ∧ sizeT P T = some n ∧ cX y = some y' ∧ cX v = some v'
  | .frz y' => ∃ T e y, o.op = .convert T T y ∧ P.underlying T = some (.slice e) ∧ P.underlying e = some (.int .u8) ∧ cX y = some y'
  | .app sz bs y' z' => ∃ tys T e U args, o.op = .call { callee := .builtin .append, args, argTypes := tys } ∧ mapO cX args.toList = some [y', z'] ∧ tys[0]? = some T ∧ P.underlying T = some (.slice e) ∧ sizeT P e = some sz ∧ bytesT P e = some bs ∧ tys[1]? = some U ∧
      (P.underlying U = some .string ∨ ∃ e', P.underlying U = some (.slice e')) ∧ ∃ z, zeroT P e = some z ∧ (cellsA z).length = sz
  | .appz sz bs zero y' z' => ∃ tys T e U z k args, o.op = .call { callee := .builtin .append, args, argTypes := tys } ∧ mapO cX args.toList = some [y', z'] ∧ tys[0]? = some T ∧ P.underlying T = some (.slice e) ∧ sizeT P e = some sz ∧ bytesT P e = some bs ∧ tys[1]? = some U ∧
      P.underlying U = some (.int k) ∧ zeroT P e = some z ∧ zero = cellsA z ∧ (cellsA z).length = sz
  | .cpy sz y' z' => ∃ tys T e args, o.op = .call { callee := .builtin .copy, args, argTypes := tys } ∧ mapO cX args.toList = some [y', z'] ∧ tys[0]? = some T ∧ P.underlying T = some (.slice e) ∧ sizeT P e = some sz
  | .clr sz zero y' => ∃ tys T e z args, o.op = .call { callee := .builtin .clear, args, argTypes := tys } ∧ mapO cX args.toList = some [y'] ∧ tys[0]? = some T ∧ P.underlying T = some (.slice e) ∧ sizeT P e = some sz ∧ zeroT P e = some z ∧ zero = cellsA z
  | .mup ks y' k' v' => ∃ T kt et y k v, (o.op = .mapUpdate T y k v ∨ o.op = .insert T y k v) ∧ P.underlying T = some (.map kt et) ∧ plainT P kt = some ks ∧ cX y = some y' ∧ cX k = some k' ∧ cX v = some v'
  | .call _ f' args' => ∃ f args tys, o.op = .call { callee := .value f, args, argTypes := tys } ∧ cX f = some f' ∧ mapO cX args.toList = some args'
  | .inv _ name tab r' args' => ∃ r args tys, o.op = .call { callee := .invoke r name, args, argTypes := tys } ∧ cX r = some r' ∧ tab = methodsOf P name ∧ mapO cX args.toList = some args'
  | .dfr f' args' => ∃ f args tys, o.op = .defer { callee := .value f, args, argTypes := tys } ∧ cX f = some f' ∧ mapO cX args.toList = some args'
  | _ => True

theorem cOp_inv {P : Program} {cfg : Cfg} {g : Nat} {o : Oper} {op : AOp} (hc : cOp P cfg g o = some op) : Inv P cfg g o op := by
  unfold cOp at hc
  split at hc
  · simp only [Option.map_eq_some_iff] at hc; obtain ⟨_, _, e⟩ := hc; subst e; trivial
  · simp only [Option.map_eq_some_iff] at hc; obtain ⟨_, _, e⟩ := hc; subst e; trivial
  · simp only [Option.bind_eq_some_iff, Option.map_eq_some_iff] at hc; obtain ⟨_, _, _, _, _, _, e⟩ := hc; subst e; trivial
  · simp only [Option.map_eq_some_iff] at hc; obtain ⟨z, hz, e⟩ := hc; subst e; exact ⟨_, z, by assumption, hz, rfl⟩
  · simp only [Option.bind_eq_some_iff, Option.map_eq_some_iff] at hc; obtain ⟨n, hn, y, hy, e⟩ := hc; subst e; exact ⟨_, _, by assumption, hn, hy⟩
  · split at hc
    · simp only [Option.map_eq_some_iff] at hc; obtain ⟨_, _, e⟩ := hc; subst e; trivial
    · cases hc
  · split at hc
    · simp only [Option.bind_eq_some_iff, Option.map_eq_some_iff] at hc; obtain ⟨n, hn, z, hz, ps, hps, e⟩ := hc; subst e; exact ⟨_, _, z, _, by assumption, by assumption, hn, hz, rfl, hps⟩
    · cases hc
  · simp only [Option.bind_eq_some_iff, Option.map_eq_some_iff] at hc; obtain ⟨n, hn, ag, hag, y, hy, e⟩ := hc; subst e; exact ⟨_, _, by assumption, hn, hag, hy⟩
  · simp only [Option.bind_eq_some_iff, Option.map_eq_some_iff] at hc; obtain ⟨n, hn, y, hy, v, hv, e⟩ := hc; subst e; exact ⟨_, _, _, by assumption, hn, hy, hv⟩
  · simp only [Option.map_eq_some_iff] at hc; obtain ⟨_, _, e⟩ := hc; subst e; trivial
  · split at hc
    · split at hc
      · simp only [Option.map_eq_some_iff] at hc; obtain ⟨_, _, e⟩ := hc; subst e; trivial
      · split at hc
        · simp only [Option.bind_eq_some_iff, Option.map_eq_some_iff] at hc; obtain ⟨_, _, _, _, e⟩ := hc; subst e; trivial
        · simp only [Option.bind_eq_some_iff, Option.map_eq_some_iff] at hc; obtain ⟨_, _, _, _, e⟩ := hc; subst e; trivial
        · simp only [Option.bind_eq_some_iff, Option.map_eq_some_iff] at hc; obtain ⟨_, _, _, _, e⟩ := hc; subst e; trivial
        · simp only [Option.bind_eq_some_iff] at hc
          obtain ⟨_, _, hc⟩ := hc
          split at hc
          · cases hc
          · simp only [Option.bind_eq_some_iff, Option.map_eq_some_iff] at hc; obtain ⟨_, _, _, _, e⟩ := hc; subst e; trivial
        · cases hc
    · simp only [Option.bind_eq_some_iff, Option.map_eq_some_iff] at hc; obtain ⟨_, _, _, _, e⟩ := hc; subst e; trivial
  · split at hc
    · simp only [Option.map_eq_some_iff] at hc; obtain ⟨_, _, e⟩ := hc; subst e; trivial
    · simp only [Option.map_eq_some_iff] at hc; obtain ⟨_, _, e⟩ := hc; subst e; trivial
    · cases hc
  · -- convert
    split at hc
    · simp only [Option.map_eq_some_iff] at hc; obtain ⟨_, _, e⟩ := hc; subst e; trivial
    · simp only [Option.map_eq_some_iff] at hc; obtain ⟨_, _, e⟩ := hc; subst e; trivial
    · rename_i hd
      split at hc
      · rename_i he
        simp only [Option.map_eq_some_iff] at hc; obtain ⟨y, hy, e⟩ := hc; subst e; exact ⟨_, _, _, _, by assumption, by assumption, hd, he, hy⟩
      · cases hc
    · rename_i hs hd
      split at hc
      · rename_i he
        simp only [Option.map_eq_some_iff] at hc; obtain ⟨y, hy, e⟩ := hc; subst e; exact ⟨_, _, _, _, by assumption, hs, he, hd, hy⟩
      · cases hc
    · rename_i hs hd
      split at hc
      · rename_i hc'
        obtain ⟨rfl, rfl⟩ := hc'
        split at hc
        · rename_i he
          simp only [Option.map_eq_some_iff] at hc; obtain ⟨y, hy, e⟩ := hc; subst e; exact ⟨_, _, _, by assumption, hs, he, hy⟩
        · cases hc
      · cases hc
    · cases hc
  · split at hc
    · cases hc
    · simp only [Option.bind_eq_some_iff, Option.map_eq_some_iff] at hc; obtain ⟨_, _, _, _, e⟩ := hc; subst e; trivial
  · simp only [Option.bind_eq_some_iff, Option.map_eq_some_iff] at hc; obtain ⟨_, _, _, _, e⟩ := hc; subst e; trivial
  · simp only [Option.some.injEq] at hc; subst hc; exact ⟨_, by assumption⟩
  · split at hc
    · simp only [Option.bind_eq_some_iff, Option.map_eq_some_iff] at hc; obtain ⟨n, hn, b, hb, z, hz, l, hl, c, hcc, e⟩ := hc; subst e; exact ⟨_, _, z, _, _, by assumption, by assumption, hn, hb, hz, rfl, hl, hcc⟩
    · cases hc
  · simp only [Option.bind_eq_some_iff] at hc
    obtain ⟨_, _, _, _, _, _, _, _, hc⟩ := hc
    split at hc
    · split at hc
      · cases hc
      · simp only [Option.some.injEq] at hc; subst hc; trivial
    · simp only [Option.map_eq_some_iff] at hc; obtain ⟨_, _, e⟩ := hc; subst e; trivial
    · split at hc
      · cases hc
      · simp only [Option.map_eq_some_iff] at hc; obtain ⟨_, _, e⟩ := hc; subst e; trivial
    · cases hc
  · simp only [Option.bind_eq_some_iff] at hc
    obtain ⟨_, _, _, _, hc⟩ := hc
    split at hc
    · cases hc
    · simp only [Option.map_eq_some_iff] at hc; obtain ⟨_, _, e⟩ := hc; subst e; trivial
  · simp only [Option.bind_eq_some_iff, Option.map_eq_some_iff] at hc; obtain ⟨_, _, _, _, _, _, _, _, e⟩ := hc; subst e; trivial
  · simp only [Option.bind_eq_some_iff] at hc
    obtain ⟨_, _, _, _, hc⟩ := hc
    split at hc
    · simp only [Option.map_eq_some_iff] at hc; obtain ⟨_, _, e⟩ := hc; subst e; trivial
    · simp only [Option.map_eq_some_iff] at hc; obtain ⟨_, _, e⟩ := hc; subst e; trivial
    · cases hc
  · simp only [Option.bind_eq_some_iff] at hc
    obtain ⟨_, _, _, _, hc⟩ := hc
    split at hc
    · simp only [Option.some.injEq] at hc; subst hc; trivial
    · simp only [Option.bind_eq_some_iff, Option.map_eq_some_iff] at hc; obtain ⟨_, _, _, _, e⟩ := hc; subst e; trivial
    · cases hc
  · split at hc
    · simp only [Option.bind_eq_some_iff, Option.map_eq_some_iff] at hc; obtain ⟨ks, hks, z, hz, y, hy, k, hk, e⟩ := hc; subst e; exact ⟨_, _, _, _, _, by assumption, by assumption, hks, hz, hy, hk⟩
    · cases hc
  · split at hc
    · simp only [Option.bind_eq_some_iff, Option.map_eq_some_iff] at hc; obtain ⟨ks, hks, y, hy, k, hk, v, hv, e⟩ := hc; subst e; exact ⟨_, _, _, _, _, _, .inl (by assumption), by assumption, hks, hy, hk, hv⟩
    · cases hc
  · split at hc
    · simp only [Option.bind_eq_some_iff, Option.map_eq_some_iff] at hc; obtain ⟨ks, hks, y, hy, k, hk, v, hv, e⟩ := hc; subst e; exact ⟨_, _, _, _, _, _, .inr (by assumption), by assumption, hks, hy, hk, hv⟩
    · cases hc
  · split at hc
    · cases hc
    · simp only [Option.bind_eq_some_iff, Option.map_eq_some_iff] at hc; obtain ⟨_, _, _, _, e⟩ := hc; subst e; trivial
    · cases hc
  · simp only [Option.map_eq_some_iff] at hc; obtain ⟨_, _, e⟩ := hc; subst e; trivial
  · -- call
    rename_i c ho
    simp only [Option.bind_eq_some_iff] at hc
    obtain ⟨args, hargs, hc⟩ := hc
    obtain ⟨callee, cargs, tys⟩ := c
    simp only at hargs hc
    cases callee with
    | value f =>
      simp only [Option.map_eq_some_iff] at hc
      obtain ⟨f', hf, e⟩ := hc
      subst e
      exact ⟨_, _, _, ho, hf, hargs⟩
    | invoke r name =>
      simp only [Option.map_eq_some_iff] at hc
      obtain ⟨f', hf, e⟩ := hc
      subst e
      exact ⟨_, _, _, ho, hf, rfl, hargs⟩
    | builtin b =>
      simp only at hc
      unfold cBuiltin at hc
      have hty : ∀ {i : Nat} {d : TypeDesc}, (tys[i]?).bind P.underlying = some d → ∃ T, tys[i]? = some T ∧ P.underlying T = some d := by
        intro i d h
        simpa [Option.bind_eq_some_iff] using h
      split at hc
      · split at hc
        · simp only [Option.some.injEq] at hc; subst hc; trivial
        · simp only [Option.some.injEq] at hc; subst hc; trivial
        · simp only [Option.some.injEq] at hc; subst hc; trivial
        · split at hc
          · simp only [Option.some.injEq] at hc; subst hc; trivial
          · cases hc
        · cases hc
      · split at hc
        · simp only [Option.some.injEq] at hc; subst hc; trivial
        · cases hc
      · split at hc
        · rename_i hT
          obtain ⟨T, h1, h2⟩ := hty hT
          simp only [Option.bind_eq_some_iff] at hc
          obtain ⟨sz, hsz, bs, hbs, z, hz, hc⟩ := hc
          split at hc
          · cases hc
          rename_i hzl
          have hzl := Classical.not_not.1 hzl
          split at hc
          · rename_i hU
            obtain ⟨U, h3, h4⟩ := hty hU
            simp only [Option.some.injEq] at hc; subst hc; exact ⟨_, T, _, U, z, _, _, ho, hargs, h1, h2, hsz, hbs, h3, h4, hz, rfl, hzl⟩
          · rename_i hU
            obtain ⟨U, h3, h4⟩ := hty hU
            simp only [Option.some.injEq] at hc; subst hc; exact ⟨_, T, _, U, _, ho, hargs, h1, h2, hsz, hbs, h3, .inr ⟨_, h4⟩, z, hz, hzl⟩
          · rename_i hU
            obtain ⟨U, h3, h4⟩ := hty hU
            simp only [Option.some.injEq] at hc; subst hc; exact ⟨_, T, _, U, _, ho, hargs, h1, h2, hsz, hbs, h3, .inl h4, z, hz, hzl⟩
          · cases hc
        · cases hc
      · split at hc
        · rename_i hT
          obtain ⟨T, h1, h2⟩ := hty hT
          simp only [Option.map_eq_some_iff] at hc; obtain ⟨sz, hsz, e⟩ := hc; subst e; exact ⟨_, T, _, _, ho, hargs, h1, h2, hsz⟩
        · cases hc
      · split at hc
        · rename_i hT
          obtain ⟨T, h1, h2⟩ := hty hT
          simp only [Option.bind_eq_some_iff, Option.map_eq_some_iff] at hc; obtain ⟨sz, hsz, z, hz, e⟩ := hc; subst e; exact ⟨_, T, _, z, _, ho, hargs, h1, h2, hsz, hz, rfl⟩
        · cases hc
      · simp only [Option.some.injEq] at hc; subst hc; trivial
      · simp only [Option.some.injEq] at hc; subst hc; trivial
      · cases hc
  · rename_i c ho
    simp only [Option.bind_eq_some_iff] at hc
    obtain ⟨args, hargs, hc⟩ := hc
    obtain ⟨callee, cargs, tys⟩ := c
    simp only at hargs hc
    split at hc
    · simp only [Option.map_eq_some_iff] at hc; obtain ⟨f', hf, e⟩ := hc; subst e; exact ⟨_, _, _, ho, hf, hargs⟩
    · cases hc
  · cases hc

section
variable {P : Program} {cfg : Cfg} {g : Nat} {x : Cx} {t : List AV} {a : Act} (ht : CAs x t a.tmps.toList) (hs : Sim P cfg x)
include ht hs

theorem lkp_ok {y z : Operand} {y' z' : X} {v zero : AV} {T kt et : TypeId} {ks : Bool × List SK} {ok : Bool} {o : Oper} (hT : P.underlying T = some (.map kt et)) (hks : plainT P kt = some ks) (hz : zeroT P et = some zero)
    (h1 : cX y = some y') (h2 : cX z = some z') (he : evalR t x.h (.lkp ks ok zero y' z') = some v) (ho : o.op = .lookup T y z ok) : Gives P o a x v := by
  have e1 := cX_ok ht h1
  have e2 := cX_ok ht h2
  obtain ⟨zv, hzv, hzo, rfl⟩ := run_zeroT (w := x.w) hz
  have hzc := ofVal_ok x zv hzo
  simp only [evalR] at he
  split at he
  case h_2 => cases he
  rename_i b hb
  rw [hb] at e1
  simp only [CA] at e1
  obtain ⟨hR, k, off, hβ, e⟩ := e1
  split at he
  case h_2 => cases he
  rename_i es hes
  split at he
  case isFalse => cases he
  rename_i hsf
  obtain ⟨sp, hself⟩ := Option.isSome_iff_exists.1 hsf
  have hblk := hs.ok b _ hes hR
  simp only [BlkOk] at hblk
  obtain ⟨k', off', ents, clock, hβ', hheap, hents⟩ := hblk
  rw [hβ] at hβ'
  simp only [Option.some.injEq, Prod.mk.injEq] at hβ'
  obtain ⟨rfl, rfl⟩ := hβ'
  simp only [Option.map_eq_some_iff] at he
  obtain ⟨r, hr, e'⟩ := he
  have hget : (getObj k).run P x.w = .ok (.map ents clock) x.w := by simp [getObj, Sem.run, hheap]
  have hck : ∀ em, (Instr.checkKey em 10000 kt (a.eval z)).run P x.w = .ok () x.w := fun em => checkKey_ok hks e2 hself em x.w
  obtain ⟨g1, g2⟩ := findKey_ok hks e2 x.w hents hr
  cases r with
  | none =>
    have := g1 rfl
    subst e'
    cases ok
    · exact ⟨zv, by simp [execOp, ho, Instr.lookup, run_underlying hT, e, hget, hck, this, hzv], hzc⟩
    · refine ⟨.tuple #[zv, .bool false], by simp [execOp, ho, Instr.lookup, run_underlying hT, e, hget, hck, this, hzv], ?_⟩
      simp only [if_true, CA]
      exact ⟨_, rfl, by simp [CAs, hzc, CA, CI]⟩
  | some v0 =>
    obtain ⟨j, m, q1, q2, q3, _⟩ := g2 v0 rfl
    subst e'
    cases ok
    · exact ⟨m.val, by simp [execOp, ho, Instr.lookup, run_underlying hT, e, hget, hck, q1], q3⟩
    · refine ⟨.tuple #[m.val, .bool true], by simp [execOp, ho, Instr.lookup, run_underlying hT, e, hget, hck, q1], ?_⟩
      simp only [if_true, CA]
      exact ⟨_, rfl, by simp [CAs, q3, CA, CI]⟩

/-- **All operations that read memory.** -/
theorem evalR_ok {o : Oper} {op : AOp} (hc : cOp P cfg g o = some op) (hcls : op.cls = .R) {v : AV} (he : evalR t x.h op = some v) : Gives P o a x v := by
  have hi := cOp_inv hc
  cases op <;> simp only [AOp.cls, reduceCtorEq] at hcls
  case call m f args => split at hcls <;> simp_all
  case ld n ag y' =>
    obtain ⟨T, y, ho, hn, hag, hy⟩ := hi
    exact ld_ok ht hs hn hag hy he ho
  case b2s y' =>
    obtain ⟨T, U, e, y, ho, hT, he8, hU, hy⟩ := hi
    exact b2s_ok ht hs hT he8 hU hy he ho
  case lkp ks ok z y' z' =>
    obtain ⟨T, kt, et, y, k, ho, hT, hks, hz, hy, hk⟩ := hi
    exact lkp_ok ht hs hT hks hz hy hk he ho
end
end Go.Eng
