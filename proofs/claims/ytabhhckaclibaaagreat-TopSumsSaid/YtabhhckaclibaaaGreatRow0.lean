/- From what was read to what the evaluator is called on, and back: for every row. -/
import Derived.Test.YtabhhckaclibaaaGreatRows
import Derived.Test.YtabhhckaclibaaaGreatSp0
import Derived.WalkKit
import Derived.ProofKit
import Derived.OpenShut
import Derived.ChangeOld
import Derived.Below
set_option linter.all false
set_option maxRecDepth 100000
namespace Go.Proofs.YtabhhckaclibaaaGreat
open Go.Eng Go.ChangeShapes Go.WideShapes Go.ChangeAt Go.RowKit

theorem own : ownKnob Tryz.prog.godebug = none := by kernel_rfl
theorem laidOut : laidOutB Tryz.prog = true := by kernel_rfl

theorem outer_walk {k n : Nat} {args : List AV} {vs : List Value} {W : World} (ha : CAs (outer W) args vs) (hc : (call T n (.fn k) args .empty).map Prod.fst = some (.iv (.b true))) :
    Calls Tryz.prog k vs.toArray W fun e W' => e = .returned (.bool true) ∧ Below W.heap.size W W' := by
  obtain ⟨h', e⟩ := map_fst hc
  have := (call_ok tabOk mixed n).fn k args .empty _ h' e (outer W) vs rfl (outer_sim W) ha
  refine (callsIn_wide.1 this.2).mono ?_
  rintro e W' ⟨y, u, rfl, _, rfl, st, _, _, hu⟩
  simp only [CA, CI] at hu
  subst hu
  exact ⟨rfl, st.below⟩

/-- An argument of one cell. -/
theorem open_cell {H : Type} {enc : TypeId × Value → H} {S : List TypeId} (hS : closedT Tryz.prog S = true) {t : TypeId} (ht : t ∈ S) {W : World} {sp : Nat → Bool} {held : Bool} {v : Value} {d : DataW H} {p : List MemPlace}
    (hv : v.cells.toList = [v]) (h : DataW.Trod enc Tryz.prog W 0 sp held t v d p) : ∃ fuel y, TyRow Tryz.prog fuel t [y] ∧ CA (outer W) (.iv y) v := by
  obtain ⟨fuel, h⟩ := h
  rw [hv] at h
  obtain ⟨r, h1, h2, _⟩ := read_row hS fuel t _ _ ht h
  have hl := CIs_len h1
  match r, hl with
  | [y], _ =>
    have h3 := outer_CIs h1
    simp only [CIs, and_true] at h3
    exact ⟨fuel, y, h2, by simp only [CA]; exact h3⟩

/-- A struct. -/
theorem open_agg {H : Type} {enc : TypeId × Value → H} {S : List TypeId} (hS : closedT Tryz.prog S = true) {t : TypeId} (ht : t ∈ S) {W : World} {sp : Nat → Bool} {held : Bool} {cs : Array Value} {d : DataW H} {p : List MemPlace}
    (h : DataW.Trod enc Tryz.prog W 0 sp held t (.agg cs) d p) : ∃ fuel r, TyRow Tryz.prog fuel t r ∧ CA (outer W) (.agg (r.map .iv)) (.agg cs) := by
  obtain ⟨fuel, h⟩ := h
  obtain ⟨r, h1, h2, h3⟩ := read_row hS fuel t _ _ ht h
  refine ⟨fuel, r, h2, ?_⟩
  simp only [CA]
  refine ⟨cs, rfl, ?_, h3⟩
  have h4 := outer_CIs h1
  have go : ∀ (l : List IV) (vs : List Value), CIs (outer W).w (outer W).ok l vs → CAs (outer W) (l.map .iv) vs := by
    intro l
    induction l with
    | nil => intro vs h; cases vs with
      | nil => simp [CAs]
      | cons => simp [CIs] at h
    | cons x l ih => intro vs h; cases vs with
      | nil => simp [CIs] at h
      | cons v vs => simp only [CIs] at h; simp only [List.map_cons, CAs, CA]; exact ⟨h.1, ih vs h.2⟩
  exact go r _ h4

/-- Bytes. -/
theorem bytes_of {fuel : Nat} {y : IV} (h : TyRow Tryz.prog fuel 22 [y]) : ∃ l, y = .rsl .p (bR l) ∧ l.length ≤ maxLen := by
  cases fuel with
  | zero => exact h.elim
  | succ n =>
    have hu : Tryz.prog.underlying 22 = some (.slice 5) := by kernel_rfl
    simp only [TyRow, hu, List.cons.injEq, and_true] at h
    obtain ⟨rows, rfl, hl, hr⟩ := h
    have hb : ∀ q ∈ rows, ∃ u : UInt8, q = [.i .u8 (u.toNat : Int)] := by
      intro q hq
      obtain ⟨h1, _⟩ := hr q hq
      cases n with
      | zero => exact h1.elim
      | succ m =>
        have hu5 : Tryz.prog.underlying 5 = some (.int .u8) := by kernel_rfl
        simp only [TyRow, hu5] at h1
        obtain ⟨a, rfl, hw⟩ := h1
        simp [Lit.wf, IntKind.min, IntKind.max, IntKind.signed, IntKind.bits] at hw
        refine ⟨UInt8.ofNat a.toNat, ?_⟩
        have : (UInt8.ofNat a.toNat).toNat = a.toNat := by simp; omega
        rw [this]
        simp; omega
    clear hr
    suffices hs : ∃ l, rows = bR l by obtain ⟨l, rfl⟩ := hs; exact ⟨l, rfl, by rw [bR_len] at hl; exact hl⟩
    clear hl
    induction rows with
    | nil => exact ⟨[], rfl⟩
    | cons q rows ih =>
      obtain ⟨u, rfl⟩ := hb q List.mem_cons_self
      obtain ⟨l, rfl⟩ := ih fun q hq => hb q (List.mem_cons_of_mem _ hq)
      exact ⟨u :: l, rfl⟩

end Go.Proofs.YtabhhckaclibaaaGreat
