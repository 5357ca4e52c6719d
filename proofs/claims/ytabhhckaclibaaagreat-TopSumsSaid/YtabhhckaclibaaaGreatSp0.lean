/- Words for what functions are called on, and how calls by themselves come out. -/
import Derived.Test.YtabhhckaclibaaaGreatTab
set_option linter.all false
namespace Go.Proofs.YtabhhckaclibaaaGreat
open Go.Eng

/-- Bytes, read-only. -/
def bR (l : List UInt8) : List (List IV) := l.map fun u => [.i .u8 (u.toNat : Int)]

theorem bR_len (l : List UInt8) : (bR l).length = l.length := by simp [bR]
theorem bR_bytes : ∀ l : List UInt8, bytesOfRows (bR l) = some l
  | [] => rfl
  | u :: l => by
    have ih := bR_bytes l
    simp only [bR, bytesOfRows] at ih ⊢
    have h1 : Eng.byteOf (.i .u8 (u.toNat : Int)) = some u := by
      have := u.toNat_lt
      simp [Eng.byteOf]
      omega
    simp [mapO, h1, ih]
theorem bR_uni (l : List UInt8) : uni 1 (bR l) = true := by simp [uni, bR]
theorem bR_map (l : List UInt8) : (bR l).map (fun r => r.map AV.iv) = byteRows l := by simp [bR, byteRows]
theorem byteRows_len (l : List UInt8) : (byteRows l).length = l.length := by simp [byteRows]
theorem byteRows_app (l m : List UInt8) : byteRows l ++ byteRows m = byteRows (l ++ m) := by simp [byteRows]
theorem rowsRead_bR (h : AH) (t : Tag) (l : List UInt8) : rowsRead h 1 (.iv (.rsl t (bR l))) = some (byteRows l) := by
  simp only [rowsRead, bR_uni, if_true, bR_map]
theorem roomy_small {n : Nat} (h : n ≤ 100000) : roomy n 1 = true := by
  simp only [roomy, Bool.and_eq_true, decide_eq_true_eq]; omega

/-- A read-only slice, lent. -/
def lt : Tag → Tag
  | .n => .p
  | t => t
theorem toI_rsl (h : AH) (t : Tag) (r : List (List IV)) (n : Nat) : toI h true (n + 1) (.iv (.rsl t r)) = some (.rsl (lt t) r) := by cases t <;> simp [toI, lt]
theorem toI_i (h : AH) (k : IntKind) (a : Int) (n : Nat) : toI h true (n + 1) (.iv (.i k a)) = some (.i k a) := by simp [toI]
theorem toI_b (h : AH) (p : Bool) (n : Nat) : toI h true (n + 1) (.iv (.b p)) = some (.b p) := by simp [toI]
theorem toI_byteRows (h : AH) (n : Nat) : ∀ l : List UInt8, mapO (fun row => mapO (toI h false (n + 1)) row) (byteRows l) = some (bR l)
  | [] => rfl
  | u :: l => by
    have ih := toI_byteRows h n l
    have h1 : toI h false (n + 1) (.iv (.i .u8 (u.toNat : Int))) = some (.i .u8 (u.toNat : Int)) := by simp [toI, permB]
    simp only [byteRows, bR, List.map_cons] at ih ⊢
    simp only [mapO, h1, ih, Option.bind_some, Option.map_some]
theorem toI_byteRowsL (h : AH) (n : Nat) : ∀ l : List UInt8, mapO (fun row => mapO (toI h true (n + 1)) row) (byteRows l) = some (bR l)
  | [] => rfl
  | u :: l => by
    have ih := toI_byteRowsL h n l
    have h1 : toI h true (n + 1) (.iv (.i .u8 (u.toNat : Int))) = some (.i .u8 (u.toNat : Int)) := by simp [toI]
    simp only [byteRows, bR, List.map_cons] at ih ⊢
    simp only [mapO, h1, ih, Option.bind_some, Option.map_some]

theorem map_fst {x : Option (AV × AH)} {v : AV} (h : x.map Prod.fst = some v) : ∃ h', x = some (v, h') := by
  cases x with
  | none => cases h
  | some p => obtain ⟨a, b⟩ := p; simp only [Option.map_some, Option.some.injEq] at h; subst h; exact ⟨b, rfl⟩

theorem harvest_iv {h : AH} {x : IV} {y : IV} (hp : toI h false deep (.iv x) = some y) (hx : ∀ l, x ≠ .agg l) : harvest h [] (.iv x) = some (.iv y, []) := by
  have e : harvest h [] (.iv x) = (toI h false deep (.iv x)).bind fun z => some (AV.iv z, []) := by
    simp only [harvest, flatR, keptIds, List.not_mem_nil, if_false, Option.bind_some, nodupN, if_true, AH.dels, harvestCells, unflatR]
    cases toI h false deep (.iv x) <;> rfl
  rw [e, hp]
  rfl

/-- A call by itself that answers yes or no. -/
theorem iso_b {rec : Rec} {h : AH} {c : Eng.Callee} {args args' : List AV} {b : Bool} (hl : mapO (toIA h true) args = some args') (hc : (rec c args' .empty).map Prod.fst = some (.iv (.b b))) : isoCall rec [] h c args = some (.iv (.b b), []) := by
  obtain ⟨h', e⟩ := map_fst hc
  simp [isoCall, hl, e, harvest_iv (x := .b b) (y := .b b) (by simp [deep, toI, permB]) (by simp)]

/-- A call by itself that answers a number. -/
theorem iso_i {rec : Rec} {h : AH} {c : Eng.Callee} {args args' : List AV} {k : IntKind} {a : Int} (hl : mapO (toIA h true) args = some args') (hc : (rec c args' .empty).map Prod.fst = some (.iv (.i k a))) : isoCall rec [] h c args = some (.iv (.i k a), []) := by
  obtain ⟨h', e⟩ := map_fst hc
  simp [isoCall, hl, e, harvest_iv (x := .i k a) (y := .i k a) (by simp [deep, toI, permB]) (by simp)]

/-- A span. -/
def sp (t1 t2 : Tag) (tb : Int) (lo hi : List UInt8) (o : Bool) : List AV := [.iv (.i .i64 tb), .iv (.rsl t1 (bR lo)), .iv (.rsl t2 (bR hi)), .iv (.b o)]

theorem lend_sp (h : AH) (t1 t2 : Tag) (tb : Int) (lo hi : List UInt8) (o : Bool) : toIA h true (.agg [.iv (.i .i64 tb), .iv (.rsl t1 (bR lo)), .iv (.rsl t2 (bR hi)), .iv (.b o)]) = some (.agg [.iv (.i .i64 tb), .iv (.rsl (lt t1) (bR lo)), .iv (.rsl (lt t2) (bR hi)), .iv (.b o)]) := by
  simp [toIA, deep, mapO, toI_rsl, toI_i, toI_b]
theorem lend_i (h : AH) (k : IntKind) (a : Int) : toIA h true (.iv (.i k a)) = some (.iv (.i k a)) := by simp [toIA, deep, toI_i]
theorem lend_rsl (h : AH) (t : Tag) (r : List (List IV)) : toIA h true (.iv (.rsl t r)) = some (.iv (.rsl (lt t) r)) := by simp [toIA, deep, toI_rsl]

/-! ### comparing -/
theorem cmp_lt : ∀ a b : List UInt8, bytesLess a b = decide (cmpBytes a b < 0)
  | [], [] => rfl
  | [], _ :: _ => rfl
  | _ :: _, [] => rfl
  | a :: x, b :: y => by
    simp only [bytesLess, cmpBytes, cmp_lt x y]
    by_cases h1 : a < b
    · simp [h1]
    · by_cases h2 : b < a
      · have : ¬ a = b := fun e => by subst e; exact h1 h2
        simp [h1, h2, this]
      · have : a = b := by
          apply UInt8.toNat_inj.1
          have q1 : ¬ a.toNat < b.toNat := h1
          have q2 : ¬ b.toNat < a.toNat := h2
          omega
        simp [this]
theorem cmp_eq0 : ∀ a b : List UInt8, cmpBytes a b = 0 ↔ a = b
  | [], [] => by simp [cmpBytes]
  | [], _ :: _ => by simp [cmpBytes]
  | _ :: _, [] => by simp [cmpBytes]
  | a :: x, b :: y => by
    simp only [cmpBytes, List.cons.injEq]
    by_cases h1 : a < b
    · have : ¬ a = b := fun e => by subst e; exact absurd h1 (by simp)
      simp [h1, this]
    · by_cases h2 : b < a
      · have : ¬ a = b := fun e => by subst e; exact h1 h2
        simp [h1, h2, this]
      · have : a = b := by
          apply UInt8.toNat_inj.1
          have q1 : ¬ a.toNat < b.toNat := h1
          have q2 : ¬ b.toNat < a.toNat := h2
          omega
        simp [this, cmp_eq0 x y]
theorem cmp_anti : ∀ a b : List UInt8, cmpBytes b a = - cmpBytes a b
  | [], [] => by simp [cmpBytes]
  | [], _ :: _ => by simp [cmpBytes]
  | _ :: _, [] => by simp [cmpBytes]
  | a :: x, b :: y => by
    simp only [cmpBytes]
    by_cases h1 : a < b
    · have h2 : ¬ b < a := fun h => by
        have q1 : a.toNat < b.toNat := h1
        have q2 : b.toNat < a.toNat := h
        omega
      simp [h1, h2]
    · by_cases h2 : b < a
      · simp [h1, h2]
      · simp [h1, h2, cmp_anti x y]
theorem cmp_range (a b : List UInt8) : cmpBytes a b = -1 ∨ cmpBytes a b = 0 ∨ cmpBytes a b = 1 := by
  induction a generalizing b with
  | nil => cases b <;> simp [cmpBytes]
  | cons u a ih =>
    cases b with
    | nil => simp [cmpBytes]
    | cons v b =>
      simp only [cmpBytes]
      split
      · simp
      · split
        · simp
        · exact ih b
theorem cmp_le (a b : List UInt8) : (bytesLess a b || a == b) = decide (cmpBytes a b ≤ 0) := by
  rw [cmp_lt]
  have := cmp_eq0 a b
  by_cases h : a = b
  · simp [h, (cmp_eq0 b b).2 rfl]
  · have h0 : cmpBytes a b ≠ 0 := fun e => h (this.1 e)
    have hb : (a == b) = false := by simpa using h
    rw [hb, Bool.or_false]
    by_cases h1 : cmpBytes a b < 0
    · simp [h1]; omega
    · simp [h1]; omega
theorem cmp_trans {a b c : List UInt8} : cmpBytes a b ≤ 0 → cmpBytes b c ≤ 0 → cmpBytes a c ≤ 0 := by
  induction a generalizing b c with
  | nil => intro _ _; cases c <;> simp [cmpBytes]
  | cons u a ih =>
    intro h1 h2
    cases b with
    | nil => simp [cmpBytes] at h1
    | cons v b =>
      cases c with
      | nil => simp [cmpBytes] at h2
      | cons w c =>
        simp only [cmpBytes] at h1 h2 ⊢
        have lt_iff : ∀ p q : UInt8, p < q ↔ p.toNat < q.toNat := fun _ _ => Iff.rfl
        simp only [lt_iff] at h1 h2 ⊢
        split at h1
        · split at h2
          · rw [if_pos (by omega)]; decide
          · split at h2
            · simp at h2
            · rw [if_pos (by omega)]; decide
        · split at h1
          · simp at h1
          · split at h2
            · rw [if_pos (by omega)]; decide
            · split at h2
              · simp at h2
              · rw [if_neg (by omega), if_neg (by omega)]
                exact ih h1 h2

end Go.Proofs.YtabhhckaclibaaaGreat
