/- The row of TopSums: whatever it is called on, TopSums returns true, and what it was called on reads as it did; no conditions. -/
import Derived.Test.YtabhhckaclibaaaGreatRow0
import Derived.Test.YtabhhckaclibaaaGreatSu6
import Derived.Test.YtabhhckaclibaaaGreatJt
set_option linter.all false
set_option maxRecDepth 100000
namespace Go.Proofs.YtabhhckaclibaaaGreat
open Go.Eng Go.ChangeShapes Go.WideShapes Go.ChangeAt Go.RowKit

theorem closedU : closedT Tryz.prog [22, 5, 35] = true := by kernel_rfl

theorem bytes_read {H : Type} {enc : TypeId × Value → H} {W : World} {sp : Nat → Bool} {held : Bool} {r : Reach} {base : Nat} {v : Value} {d : DataW H} {p : List MemPlace}
    (hv : Value.okWide Tryz.prog W r base 22 v) (h : DataW.Trod enc Tryz.prog W 0 sp held 22 v d p) : ∃ l : List UInt8, CA (outer W) (.iv (.rsl .p (bR l))) v := by
  obtain ⟨a, len, cap, rfl⟩ := okWide_slice Tryz.underlying22 hv
  obtain ⟨fuel, y, h1, h2⟩ := open_cell closedU (t := 22) (by simp) rfl h
  obtain ⟨l, rfl, hl⟩ := bytes_of h1
  exact ⟨l, h2⟩

theorem u16_read {H : Type} {enc : TypeId × Value → H} {W : World} {sp : Nat → Bool} {held : Bool} {r : Reach} {base : Nat} {v : Value} {d : DataW H} {p : List MemPlace}
    (hv : Value.okWide Tryz.prog W r base 35 v) (h : DataW.Trod enc Tryz.prog W 0 sp held 35 v d p) : ∃ x : Nat, x < 65536 ∧ CA (outer W) (.iv (.i .u16 (x : Int))) v := by
  obtain ⟨a, rfl⟩ := okWide_int Tryz.underlying35 hv
  obtain ⟨fuel, y, h1, h2⟩ := open_cell closedU (t := 35) (by simp) rfl h
  cases fuel with
  | zero => exact h1.elim
  | succ n =>
    simp only [TyRow, Tryz.underlying35] at h1
    obtain ⟨m, h3, hw⟩ := h1
    simp only [List.cons.injEq, and_true] at h3
    subst h3
    simp [Lit.wf, IntKind.min, IntKind.max, IntKind.signed, IntKind.bits] at hw
    refine ⟨m.toNat, by omega, ?_⟩
    rw [show ((m.toNat : Nat) : Int) = m by omega]
    exact h2

theorem u8_read {H : Type} {enc : TypeId × Value → H} {W : World} {sp : Nat → Bool} {held : Bool} {r : Reach} {base : Nat} {v : Value} {d : DataW H} {p : List MemPlace}
    (hv : Value.okWide Tryz.prog W r base 5 v) (h : DataW.Trod enc Tryz.prog W 0 sp held 5 v d p) : ∃ u : UInt8, CA (outer W) (.iv (.i .u8 (u.toNat : Int))) v := by
  obtain ⟨a, rfl⟩ := okWide_int Tryz.underlying5 hv
  obtain ⟨fuel, y, h1, h2⟩ := open_cell closedU (t := 5) (by simp) rfl h
  cases fuel with
  | zero => exact h1.elim
  | succ n =>
    simp only [TyRow, Tryz.underlying5] at h1
    obtain ⟨m, h3, hw⟩ := h1
    simp only [List.cons.injEq, and_true] at h3
    subst h3
    simp [Lit.wf, IntKind.min, IntKind.max, IntKind.signed, IntKind.bits] at hw
    refine ⟨UInt8.ofNat m.toNat, ?_⟩
    have e : (UInt8.ofNat m.toNat).toNat = m.toNat := by simp; omega
    rw [e, show ((m.toNat : Nat) : Int) = m by omega]
    exact h2

theorem topSums_lifted (os : Os) (started : os.Started) (H : Type) (enc : TypeId × Value → H) :
    ReturnsInHanded {} Tryz.checked os 5 .any (Rows.topSumsSpec.pre6 enc Tryz.prog Tryz.f5 Rows.topSumsRow.domain false) (Rows.topSumsSpec.post enc Tryz.prog Tryz.f5 false true false false) := by
  refine returnsInHanded_of_change (C := Tryz.checked) own started (by kernel_rfl) Tryz.func5
    (ChangeSpec.witness6 (enc := enc) (C := Tryz.checked) false ⟨#[], #[.slice none 0 0, .slice none 0 0, .slice none 0 0, .int .u16 0, .int .u8 0], []⟩ 8 (by kernel_rfl) (by kernel_rfl) (by kernel_rfl) (by kernel_rfl)) ?_
  intro W base args ds gs before hval0 hW hcnd _
  have hval : ∀ (j : Nat) t v, Tryz.f5.params[j]? = some t → args[j]? = some v → Value.okWide Tryz.prog W .any base t v := hval0
  have hW' := hW
  obtain ⟨p, q, hA0, hV, rfl, hfz, hnd⟩ := hW
  have hA : DataW.TrodAll enc Tryz.prog W 0 (fun _ => true) true Tryz.f5.params.toList args.toList ds p := hA0
  rw [Tryz.params5] at hA hval
  obtain ⟨v0, vs0, d0, ds0, p0, q0, hargs, rfl, rfl, h0, r0⟩ := trodAll_cons hA
  obtain ⟨v1, vs1, d1, ds1, p1, q1, rfl, rfl, rfl, h1, r1⟩ := trodAll_cons r0
  obtain ⟨v2, vs2, d2, ds2, p2, q2, rfl, rfl, rfl, h2, r2⟩ := trodAll_cons r1
  obtain ⟨v3, vs3, d3, ds3, p3, q3, rfl, rfl, rfl, h3, r3⟩ := trodAll_cons r2
  obtain ⟨v4, vs4, d4, ds4, p4, q4, rfl, rfl, rfl, h4, r4⟩ := trodAll_cons r3
  obtain ⟨rfl, rfl, rfl⟩ := trodAll_nil r4
  obtain rfl : args = #[v0, v1, v2, v3, v4] := by cases args; simp_all
  obtain ⟨rfl, rfl⟩ := trodVars_none hV
  have lt0 : ∀ x ∈ p0, x.block < W.heap.size := by obtain ⟨m, hm⟩ := h0; exact DataW.trod_lt m _ _ _ hm
  have lt1 : ∀ x ∈ p1, x.block < W.heap.size := by obtain ⟨m, hm⟩ := h1; exact DataW.trod_lt m _ _ _ hm
  have lt2 : ∀ x ∈ p2, x.block < W.heap.size := by obtain ⟨m, hm⟩ := h2; exact DataW.trod_lt m _ _ _ hm
  have lt3 : ∀ x ∈ p3, x.block < W.heap.size := by obtain ⟨m, hm⟩ := h3; exact DataW.trod_lt m _ _ _ hm
  have lt4 : ∀ x ∈ p4, x.block < W.heap.size := by obtain ⟨m, hm⟩ := h4; exact DataW.trod_lt m _ _ _ hm
  obtain ⟨a, c0⟩ := bytes_read (hval 0 22 v0 rfl rfl) h0
  obtain ⟨b, c1⟩ := bytes_read (hval 1 22 v1 rfl rfl) h1
  obtain ⟨c, c2⟩ := bytes_read (hval 2 22 v2 rfl rfl) h2
  obtain ⟨x, hx, c3⟩ := u16_read (hval 3 35 v3 rfl rfl) h3
  obtain ⟨u, c4⟩ := u8_read (hval 4 5 v4 rfl rfl) h4
  clear hA0 hval0
  refine (outer_walk (vs := [v0, v1, v2, v3, v4]) (by simp only [CAs, and_true]; exact ⟨c0, c1, c2, c3, c4⟩) (sumsC 0 .p .p .p a b c x u hx)).mono fun e W' ⟨he, bel⟩ => ?_
  subst he
  exact ⟨_, rfl, _, _, _, [], _, [], hW', trodAll_mk1 (shut_bool Tryz.underlying4 _), (trodAll_cons_mk (Below.trod laidOut (by kernel_rfl) (of_decide_eq_true (by kernel_rfl)) h0 bel lt0) (trodAll_cons_mk (Below.trod laidOut (by kernel_rfl) (of_decide_eq_true (by kernel_rfl)) h1 bel lt1) (trodAll_cons_mk (Below.trod laidOut (by kernel_rfl) (of_decide_eq_true (by kernel_rfl)) h2 bel lt2) (trodAll_cons_mk (Below.trod laidOut (by kernel_rfl) (of_decide_eq_true (by kernel_rfl)) h3 bel lt3) (trodAll_cons_mk (Below.trod laidOut (by kernel_rfl) (of_decide_eq_true (by kernel_rfl)) h4 bel lt4) trodAll_mk0))))), rfl, bel.frame _, fun h => by cases h⟩

/-- TopSums tells yes, whatever it is called on; and what it was called on reads as it did. -/
theorem topSums_said : Rows.TopSumsSaid :=
  OpenClaim.holds_of_wide 5 Tryz.f5 rfl rfl rfl rfl rfl rfl rfl ⟨rfl, rfl, rfl, rfl, rfl⟩ rfl rfl rfl rfl rfl (by kernel_rfl) Tryz.func5 topSums_joined
    (of_decide_eq_true (by kernel_rfl)) (by unfold Func.isWrapper; first | (rw [if_pos (by decide +kernel)]; kernel_rfl) | (rw [if_neg (by decide +kernel)]; exact ⟨rfl, rfl⟩))
    (fun os started H enc _ => topSums_lifted os started H enc)

end Go.Proofs.YtabhhckaclibaaaGreat
