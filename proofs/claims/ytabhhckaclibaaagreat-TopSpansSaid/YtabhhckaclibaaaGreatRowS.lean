/- The row of TopSpans. -/
import Derived.Test.YtabhhckaclibaaaGreatRow0
import Derived.Test.YtabhhckaclibaaaGreatSpA
import Derived.Test.YtabhhckaclibaaaGreatJs
set_option linter.all false
set_option maxRecDepth 100000
namespace Go.Proofs.YtabhhckaclibaaaGreat
open Go.Eng Go.ChangeShapes Go.WideShapes Go.ChangeAt Go.RowKit

theorem closedS : closedT Tryz.prog [24, 22, 5, 3, 4] = true := by kernel_rfl

theorem int_of {fuel : Nat} {r : List IV} (h : TyRow Tryz.prog fuel 3 r) : ∃ t, r = [.i .i64 t] := by
  cases fuel with
  | zero => exact h.elim
  | succ n =>
    simp only [TyRow, Tryz.underlying3] at h
    obtain ⟨m, h, _⟩ := h
    exact ⟨m, h⟩
theorem bool_of {fuel : Nat} {r : List IV} (h : TyRow Tryz.prog fuel 4 r) : ∃ t, r = [.b t] := by
  cases fuel with
  | zero => exact h.elim
  | succ n =>
    simp only [TyRow, Tryz.underlying4] at h
    exact h

/-- A span. -/
theorem span_of {fuel : Nat} {r : List IV} (h : TyRow Tryz.prog fuel 24 r) : ∃ (t : Int) (lo hi : List UInt8) (o : Bool), r = [.i .i64 t, .rsl .p (bR lo), .rsl .p (bR hi), .b o] := by
  cases fuel with
  | zero => exact h.elim
  | succ n =>
    have c24 : Tryz.prog.cellsOf 24 = 4 := by kernel_rfl
    have c3 : Tryz.prog.cellsOf 3 = 1 := by kernel_rfl
    have c4 : Tryz.prog.cellsOf 4 = 1 := by kernel_rfl
    have c22 : Tryz.prog.cellsOf 22 = 1 := by kernel_rfl
    simp only [TyRow, Tryz.underlying24, c24] at h
    obtain ⟨hl, hf⟩ := h
    match r, hl with
    | [a, b, c, d], _ =>
      simp only [List.mem_cons, List.not_mem_nil, or_false, forall_eq_or_imp, forall_eq, c3, c4, c22, List.drop, List.take] at hf
      obtain ⟨h1, h2, h3, h4⟩ := hf
      obtain ⟨t, h1⟩ := int_of h1
      obtain ⟨lo, h2, _⟩ := bytes_of h2
      obtain ⟨hi, h3, _⟩ := bytes_of h3
      obtain ⟨o, h4⟩ := bool_of h4
      simp only [List.cons.injEq, and_true] at h1 h4
      subst h1; subst h2; subst h3; subst h4
      exact ⟨t, lo, hi, o, rfl⟩

/-- A span that was read. -/
theorem open_span {H : Type} {enc : TypeId × Value → H} {W : World} {sp : Nat → Bool} {held : Bool} {r : Reach} {base : Nat} {v : Value} {d : DataW H} {p : List MemPlace}
    (hv : Value.okWide Tryz.prog W r base 24 v) (h : DataW.Trod enc Tryz.prog W 0 sp held 24 v d p) :
    ∃ (t : Int) (lo hi : List UInt8) (o : Bool), CA (outer W) (.agg [.iv (.i .i64 t), .iv (.rsl .p (bR lo)), .iv (.rsl .p (bR hi)), .iv (.b o)]) v := by
  obtain ⟨cs, rfl, _⟩ := okWide_struct Tryz.underlying24 hv
  obtain ⟨fuel, r, h1, h2⟩ := open_agg closedS (by simp) h
  obtain ⟨t, lo, hi, o, rfl⟩ := span_of h1
  exact ⟨t, lo, hi, o, h2⟩
theorem open_bytes {H : Type} {enc : TypeId × Value → H} {W : World} {sp : Nat → Bool} {held : Bool} {r : Reach} {base : Nat} {v : Value} {d : DataW H} {p : List MemPlace}
    (hv : Value.okWide Tryz.prog W r base 22 v) (h : DataW.Trod enc Tryz.prog W 0 sp held 22 v d p) : ∃ l : List UInt8, l.length ≤ maxLen ∧ CA (outer W) (.iv (.rsl .p (bR l))) v := by
  obtain ⟨a, len, cap, rfl⟩ := okWide_slice Tryz.underlying22 hv
  obtain ⟨fuel, y, h1, h2⟩ := open_cell closedS (t := 22) (by simp) rfl h
  obtain ⟨l, rfl, hl⟩ := bytes_of h1
  exact ⟨l, hl, h2⟩

theorem topSpans_lifted (os : Os) (started : os.Started) (H : Type) (enc : TypeId × Value → H) :
    ReturnsInHanded {} Tryz.checked os 3 .any (Rows.topSpansSpec.pre6 enc Tryz.prog Tryz.f3 Rows.topSpansRow.domain false) (Rows.topSpansSpec.post enc Tryz.prog Tryz.f3 false true false false) := by
  refine returnsInHanded_of_change (C := Tryz.checked) own started (by kernel_rfl) Tryz.func3
    (ChangeSpec.witness6 (enc := enc) (C := Tryz.checked) false ⟨#[], #[.agg #[.int .i64 0, .slice none 0 0, .slice none 0 0, .bool false], .agg #[.int .i64 0, .slice none 0 0, .slice none 0 0, .bool false], .agg #[.int .i64 0, .slice none 0 0, .slice none 0 0, .bool false], .slice none 0 0], []⟩ 8 (by kernel_rfl) (by kernel_rfl) (by kernel_rfl) (by kernel_rfl)) ?_
  intro W base args ds gs before hval0 hW hcnd _
  have hval : ∀ (j : Nat) t v, Tryz.f3.params[j]? = some t → args[j]? = some v → Value.okWide Tryz.prog W .any base t v := hval0
  have hW' := hW
  obtain ⟨p, q, hA0, hV, rfl, hfz, hnd⟩ := hW
  have hA : DataW.TrodAll enc Tryz.prog W 0 (fun _ => true) true Tryz.f3.params.toList args.toList ds p := hA0
  rw [Tryz.params3] at hA hval
  obtain ⟨v0, vs0, d0, ds0, p0, q0, hargs, rfl, rfl, h0, r0⟩ := trodAll_cons hA
  obtain ⟨v1, vs1, d1, ds1, p1, q1, rfl, rfl, rfl, h1, r1⟩ := trodAll_cons r0
  obtain ⟨v2, vs2, d2, ds2, p2, q2, rfl, rfl, rfl, h2, r2⟩ := trodAll_cons r1
  obtain ⟨v3, vs3, d3, ds3, p3, q3, rfl, rfl, rfl, h3, r3⟩ := trodAll_cons r2
  obtain ⟨rfl, rfl, rfl⟩ := trodAll_nil r3
  obtain rfl : args = #[v0, v1, v2, v3] := by cases args; simp_all
  obtain ⟨rfl, rfl⟩ := trodVars_none hV
  have lt0 : ∀ x ∈ p0, x.block < W.heap.size := by obtain ⟨m, hm⟩ := h0; exact DataW.trod_lt m _ _ _ hm
  have lt1 : ∀ x ∈ p1, x.block < W.heap.size := by obtain ⟨m, hm⟩ := h1; exact DataW.trod_lt m _ _ _ hm
  have lt2 : ∀ x ∈ p2, x.block < W.heap.size := by obtain ⟨m, hm⟩ := h2; exact DataW.trod_lt m _ _ _ hm
  have lt3 : ∀ x ∈ p3, x.block < W.heap.size := by obtain ⟨m, hm⟩ := h3; exact DataW.trod_lt m _ _ _ hm
  obtain ⟨t, l, h, o, c0⟩ := open_span (hval 0 24 v0 rfl rfl) h0
  obtain ⟨t', l', h', o', c1⟩ := open_span (hval 1 24 v1 rfl rfl) h1
  obtain ⟨u, k, m, z, c2⟩ := open_span (hval 2 24 v2 rfl rfl) h2
  obtain ⟨s, _, c3⟩ := open_bytes (hval 3 22 v3 rfl rfl) h3
  clear hA0 hval0
  refine (outer_walk (vs := [v0, v1, v2, v3]) (by simp only [CAs, and_true]; exact ⟨c0, c1, c2, c3⟩) (spansC 0 .p .p .p .p .p .p .p t l h o t' l' h' o' u k m z s)).mono fun e W' ⟨he, bel⟩ => ?_
  subst he
  exact ⟨_, rfl, _, _, _, [], _, [], hW', trodAll_mk1 (shut_bool Tryz.underlying4 _), (trodAll_cons_mk (Below.trod laidOut (by kernel_rfl) (of_decide_eq_true (by kernel_rfl)) h0 bel lt0) (trodAll_cons_mk (Below.trod laidOut (by kernel_rfl) (of_decide_eq_true (by kernel_rfl)) h1 bel lt1) (trodAll_cons_mk (Below.trod laidOut (by kernel_rfl) (of_decide_eq_true (by kernel_rfl)) h2 bel lt2) (trodAll_cons_mk (Below.trod laidOut (by kernel_rfl) (of_decide_eq_true (by kernel_rfl)) h3 bel lt3) trodAll_mk0)))), rfl, bel.frame _, fun h => by cases h⟩

/-- TopSpans tells yes, whatever it is called on; and what it was called on reads as it did. -/
theorem topSpans_said : Rows.TopSpansSaid :=
  OpenClaim.holds_of_wide 3 Tryz.f3 rfl rfl rfl rfl rfl rfl rfl ⟨rfl, rfl, rfl, rfl, rfl⟩ rfl rfl rfl rfl rfl (by kernel_rfl) Tryz.func3 topSpans_joined
    (of_decide_eq_true (by kernel_rfl)) (by unfold Func.isWrapper; first | (rw [if_pos (by decide +kernel)]; kernel_rfl) | (rw [if_neg (by decide +kernel)]; exact ⟨rfl, rfl⟩))
    (fun os started H enc _ => topSpans_lifted os started H enc)

end Go.Proofs.YtabhhckaclibaaaGreat
