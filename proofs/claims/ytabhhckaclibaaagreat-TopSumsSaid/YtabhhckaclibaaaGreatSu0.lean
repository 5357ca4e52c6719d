/- Plain laws of sums. -/
set_option linter.all false
namespace Go.Proofs.YtabhhckaclibaaaGreat

/-- A byte, taken into a sum. -/
def stepP (p : Nat × Nat) (u : UInt8) : Nat × Nat := ((p.1 + u.toNat) % 65535, (p.2 + (p.1 + u.toNat) % 65535) % 65535)
def pairOf (l : List UInt8) : Nat × Nat := l.foldl stepP (0, 0)
def joinP (x y : Nat × Nat) (n : Nat) : Nat × Nat := ((x.1 + y.1) % 65535, (x.2 + y.2 + n * x.1) % 65535)

def totA : List UInt8 → Nat
  | [] => 0
  | u :: l => u.toNat + totA l
def totB : List UInt8 → Nat
  | [] => 0
  | u :: l => (l.length + 1) * u.toNat + totB l

theorem mul_mod_in (n q r m : Nat) : (r + n * (q % m)) % m = (r + n * q) % m := by
  rw [Nat.add_mod, Nat.mul_mod, Nat.mod_mod, ← Nat.mul_mod, ← Nat.add_mod]

theorem fold_pair : ∀ (l : List UInt8) (a b : Nat), a < 65535 → b < 65535 → l.foldl stepP (a, b) = ((a + totA l) % 65535, (b + l.length * a + totB l) % 65535)
  | [], a, b, ha, hb => by simp [totA, totB, Nat.mod_eq_of_lt ha, Nat.mod_eq_of_lt hb]
  | u :: l, a, b, ha, hb => by
    rw [List.foldl_cons]
    have e : stepP (a, b) u = ((a + u.toNat) % 65535, (b + (a + u.toNat) % 65535) % 65535) := rfl
    rw [e, fold_pair l _ _ (Nat.mod_lt _ (by decide)) (Nat.mod_lt _ (by decide))]
    simp only [totA, totB, List.length_cons]
    refine Prod.ext ?_ ?_
    · show ((a + u.toNat) % 65535 + totA l) % 65535 = (a + (u.toNat + totA l)) % 65535
      omega
    · show ((b + (a + u.toNat) % 65535) % 65535 + l.length * ((a + u.toNat) % 65535) + totB l) % 65535 = (b + (l.length + 1) * a + ((l.length + 1) * u.toNat + totB l)) % 65535
      have h1 : ((b + (a + u.toNat) % 65535) % 65535 + l.length * ((a + u.toNat) % 65535) + totB l) % 65535 = ((b + (a + u.toNat) % 65535) + totB l + l.length * ((a + u.toNat) % 65535)) % 65535 := by omega
      rw [h1, mul_mod_in]
      have h2 : l.length * (a + u.toNat) = l.length * a + l.length * u.toNat := Nat.mul_add _ _ _
      have h3 : (l.length + 1) * a = l.length * a + a := by rw [Nat.add_mul, Nat.one_mul]
      have h4 : (l.length + 1) * u.toNat = l.length * u.toNat + u.toNat := by rw [Nat.add_mul, Nat.one_mul]
      rw [h2, h3, h4]
      omega

theorem pair_tot (l : List UInt8) : pairOf l = (totA l % 65535, totB l % 65535) := by
  rw [pairOf, fold_pair l 0 0 (by decide) (by decide)]
  simp
theorem totA_app : ∀ l m : List UInt8, totA (l ++ m) = totA l + totA m
  | [], m => by simp [totA]
  | u :: l, m => by simp only [List.cons_append, totA, totA_app l m]; omega
theorem totB_app : ∀ l m : List UInt8, totB (l ++ m) = totB l + totB m + m.length * totA l
  | [], m => by simp [totB, totA]
  | u :: l, m => by
    simp only [List.cons_append, totB, totA, totB_app l m, List.length_append]
    have h1 : (l.length + m.length + 1) * u.toNat = (l.length + 1) * u.toNat + m.length * u.toNat := by rw [← Nat.add_mul]; congr 1; omega
    rw [h1, Nat.mul_add]
    omega

theorem join_ok (l m : List UInt8) : joinP (pairOf l) (pairOf m) m.length = pairOf (l ++ m) := by
  rw [pair_tot, pair_tot, pair_tot, totA_app, totB_app, joinP]
  refine Prod.ext ?_ ?_
  · show (totA l % 65535 + totA m % 65535) % 65535 = (totA l + totA m) % 65535
    omega
  · show (totB l % 65535 + totB m % 65535 + m.length * (totA l % 65535)) % 65535 = (totB l + totB m + m.length * totA l) % 65535
    rw [mul_mod_in]
    omega

theorem pair_lt (l : List UInt8) : (pairOf l).1 < 65535 ∧ (pairOf l).2 < 65535 := by
  rw [pair_tot]
  exact ⟨Nat.mod_lt _ (by decide), Nat.mod_lt _ (by decide)⟩

/-- Of two that part in one byte, the first half of the sum parts. -/
theorem pair_set (l : List UInt8) (i : Nat) (u v : UInt8) (h : l[i]? = some v) : pairOf (l.set i u) = pairOf l ↔ v = u := by
  have tot : ∀ (l : List UInt8) (i : Nat), l[i]? = some v → totA (l.set i u) + v.toNat = totA l + u.toNat := by
    intro l
    induction l with
    | nil => intro i h; simp at h
    | cons x l ih =>
      intro i h
      cases i with
      | zero =>
        simp only [List.getElem?_cons_zero, Option.some.injEq] at h
        subst h
        simp only [List.set_cons_zero, totA]
        omega
      | succ i =>
        simp only [List.getElem?_cons_succ] at h
        simp only [List.set_cons_succ, totA]
        have := ih i h
        omega
  constructor
  · intro e
    have h1 := congrArg Prod.fst e
    rw [pair_tot, pair_tot] at h1
    have h1 : totA (l.set i u) % 65535 = totA l % 65535 := h1
    have h2 := tot l i h
    have h3 := u.toNat_lt
    have h4 := v.toNat_lt
    apply UInt8.toNat_inj.1
    omega
  · rintro rfl
    have : l.set i v = l := by
      apply List.ext_getElem?
      intro j
      by_cases e : i = j
      · subst e
        rw [List.getElem?_set]
        simp only [if_true]
        split
        · exact h.symm
        · rename_i hn
          rw [List.getElem?_eq_none (by omega)] at h
          cases h
      · rw [List.getElem?_set_ne e]
    rw [this]

end Go.Proofs.YtabhhckaclibaaaGreat
