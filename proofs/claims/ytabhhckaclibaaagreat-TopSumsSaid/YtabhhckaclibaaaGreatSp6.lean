/- Plain laws of spans. -/
import Derived.Test.YtabhhckaclibaaaGreatSp5
import Derived.Test.YtabhhckaclibaaaGreatSp2
set_option linter.all false
namespace Go.Proofs.YtabhhckaclibaaaGreat
open Go.Eng

theorem cmp_refl (a : List UInt8) : cmpBytes a a = 0 := (cmp_eq0 a a).2 rfl
theorem cmp_lt_trans {a b c : List UInt8} (h1 : cmpBytes a b ≤ 0) (h2 : cmpBytes b c < 0) : cmpBytes a c < 0 := by
  by_cases h : cmpBytes a c < 0
  · exact h
  · have h3 : cmpBytes c a ≤ 0 := by rw [cmp_anti a c]; omega
    have h4 := cmp_trans h3 h1
    rw [cmp_anti b c] at h4
    omega
theorem cmp_lt_trans' {a b c : List UInt8} (h1 : cmpBytes a b < 0) (h2 : cmpBytes b c ≤ 0) : cmpBytes a c < 0 := by
  by_cases h : cmpBytes a c < 0
  · exact h
  · have h3 : cmpBytes c a ≤ 0 := by rw [cmp_anti a c]; omega
    have h4 := cmp_trans h2 h3
    rw [cmp_anti a b] at h4
    omega

theorem meets_eq (t : Int) (l h : List UInt8) (o : Bool) (t' : Int) (l' h' : List UInt8) (o' : Bool) : meetsS t l h o t' l' h' o' = rMeetsS t l h o t' l' h' o' := by
  by_cases ht : t = t'
  · subst ht
    have a1 := cmp_anti l l'
    by_cases h1 : cmpBytes l l' < 0
    · have q : ¬ cmpBytes l' l ≤ 0 := by omega
      simp [meetsS, rMeetsS, maxS, h1, inS, q, cmp_refl]
    · by_cases h2 : cmpBytes l l' = 0
      · have := (cmp_eq0 l l').1 h2
        subst this
        simp [meetsS, rMeetsS, maxS, inS, cmp_refl, Bool.and_comm]
      · have q : ¬ cmpBytes l l' ≤ 0 := by omega
        simp [meetsS, rMeetsS, maxS, h1, inS, q, cmp_refl, Bool.and_comm, Bool.and_left_comm, Bool.and_assoc]
  · have h1 : (t == t') = false := by simpa using ht
    have h2 : (t' == t) = false := by simpa using fun e => ht e.symm
    simp [meetsS, rMeetsS, inS, h1, h2]

theorem meets_sym (t : Int) (l h : List UInt8) (o : Bool) (t' : Int) (l' h' : List UInt8) (o' : Bool) : meetsS t' l' h' o' t l h o = meetsS t l h o t' l' h' o' := by
  rw [meets_eq, meets_eq, rMeetsS, rMeetsS, Bool.or_comm]
  by_cases ht : t = t'
  · subst ht; rfl
  · have h1 : (t == t') = false := by simpa using ht
    have h2 : (t' == t) = false := by simpa using fun e => ht e.symm
    simp [h1, h2]

theorem covers_refl (t : Int) (l h : List UInt8) (o : Bool) : coversS t l h o t l h o = true := by
  cases o <;> simp [coversS, cmp_refl]

theorem bytesLess_self (k : List UInt8) : cmpBytes k (k ++ [0]) < 0 := by
  induction k with
  | nil => simp [cmpBytes]
  | cons u k ih => simp [cmpBytes, ih]

theorem point_upto : ∀ k m : List UInt8, cmpBytes k m ≤ 0 → cmpBytes m (k ++ [0]) < 0 → k = m
  | [], [], _, _ => rfl
  | [], u :: m, _, h => by
    simp only [List.nil_append, cmpBytes] at h
    split at h
    · rename_i h1
      have : u.toNat < (0 : UInt8).toNat := h1
      simp at this
    · split at h
      · simp at h
      · cases m <;> simp [cmpBytes] at h
  | _ :: _, [], h, _ => by simp [cmpBytes] at h
  | u :: k, v :: m, h1, h2 => by
    simp only [List.cons_append, cmpBytes] at h1 h2
    have li : ∀ p q : UInt8, p < q ↔ p.toNat < q.toNat := fun _ _ => Iff.rfl
    simp only [li] at h1 h2
    by_cases c1 : u.toNat < v.toNat
    · rw [if_neg (by omega), if_pos c1] at h2; simp at h2
    · rw [if_neg c1] at h1
      by_cases c2 : v.toNat < u.toNat
      · rw [if_pos c2] at h1; simp at h1
      · rw [if_neg c2] at h1
        rw [if_neg c2, if_neg c1] at h2
        have : u = v := UInt8.toNat_inj.1 (by omega)
        rw [this, point_upto k m h1 h2]

theorem point_in (t : Int) (k m : List UInt8) : inS t k (k ++ [0]) false t m = (k == m) := by
  by_cases e : k = m
  · subst e
    simp [inS, cmp_refl, bytesLess_self]
  · have : (k == m) = false := by simpa using e
    rw [this]
    simp only [inS, beq_self_eq_true, Bool.true_and, Bool.false_or]
    by_cases h1 : cmpBytes k m ≤ 0
    · by_cases h2 : cmpBytes m (k ++ [0]) < 0
      · exact absurd (point_upto k m h1 h2) e
      · simp [h2]
    · simp [h1]

theorem in_meets {t : Int} {l h : List UInt8} {o : Bool} {t' : Int} {l' h' : List UInt8} {o' : Bool} {u : Int} {k : List UInt8} (h1 : inS t l h o u k = true) (h2 : inS t' l' h' o' u k = true) : meetsS t l h o t' l' h' o' = true := by
  simp only [inS, Bool.and_eq_true, beq_iff_eq, decide_eq_true_eq, Bool.or_eq_true] at h1 h2
  obtain ⟨rfl, a1, b1⟩ := h1
  obtain ⟨rfl, a2, b2⟩ := h2
  by_cases c : cmpBytes l l' < 0
  · have hm : maxS l l' = l' := if_pos c
    simp only [meetsS, hm, inS, Bool.and_eq_true, beq_iff_eq, decide_eq_true_eq, Bool.or_eq_true, true_and]
    exact ⟨⟨by omega, b1.imp id fun b => cmp_lt_trans a2 b⟩, by rw [cmp_refl]; decide, b2.imp id fun b => cmp_lt_trans a2 b⟩
  · have hm : maxS l l' = l := if_neg c
    simp only [meetsS, hm, inS, Bool.and_eq_true, beq_iff_eq, decide_eq_true_eq, Bool.or_eq_true, true_and]
    exact ⟨⟨by rw [cmp_refl]; decide, b1.imp id fun b => cmp_lt_trans a1 b⟩, by rw [cmp_anti l l']; omega, b2.imp id fun b => cmp_lt_trans a1 b⟩

theorem in_empty {t : Int} {l h : List UInt8} {o : Bool} {u : Int} {k : List UInt8} (h1 : inS t l h o u k = true) : emptyS l h o = false := by
  simp only [inS, Bool.and_eq_true, beq_iff_eq, decide_eq_true_eq, Bool.or_eq_true] at h1
  obtain ⟨rfl, a1, b1⟩ := h1
  rcases b1 with rfl | b
  · rfl
  · have := cmp_lt_trans a1 b
    have q : ¬ cmpBytes h l ≤ 0 := by rw [cmp_anti l h]; omega
    simp [emptyS, q]

theorem covers_in {t : Int} {l h : List UInt8} {o : Bool} {t' : Int} {l' h' : List UInt8} {o' : Bool} {u : Int} {k : List UInt8} (c : coversS t l h o t' l' h' o' = true) (h2 : inS t' l' h' o' u k = true) : inS t l h o u k = true := by
  have e := in_empty h2
  simp only [coversS, e, Bool.false_or, inS, Bool.and_eq_true, beq_iff_eq, decide_eq_true_eq, Bool.or_eq_true, Bool.not_eq_true'] at c h2 ⊢
  obtain ⟨rfl, a, b⟩ := c
  obtain ⟨rfl, a2, b2⟩ := h2
  refine ⟨rfl, cmp_trans a a2, b.imp id fun ⟨e1, e2⟩ => ?_⟩
  rcases b2 with rfl | b2
  · cases e1
  · exact cmp_lt_trans' b2 e2

theorem some_in {t : Int} {l h : List UInt8} {o : Bool} (e : emptyS l h o = false) : inS t l h o t l = true := by
  simp only [emptyS, inS, beq_self_eq_true, Bool.true_and, cmp_refl] at e ⊢
  cases o
  · have := cmp_anti h l
    simp at e ⊢
    omega
  · rfl

theorem covers_trans {t : Int} {l h : List UInt8} {o : Bool} {t' : Int} {l' h' : List UInt8} {o' : Bool} {t2 : Int} {l2 h2 : List UInt8} {o2 : Bool} (a : coversS t l h o t' l' h' o' = true) (b : coversS t' l' h' o' t2 l2 h2 o2 = true) : coversS t l h o t2 l2 h2 o2 = true := by
  by_cases e2 : emptyS l2 h2 o2 = true
  · simp [coversS, e2]
  · have e2' : emptyS l2 h2 o2 = false := by simpa using e2
    have e1 : emptyS l' h' o' = false := in_empty (covers_in b (some_in (t := t2) e2'))
    simp only [coversS, e1, e2', Bool.false_or, Bool.and_eq_true, beq_iff_eq, decide_eq_true_eq, Bool.or_eq_true, Bool.not_eq_true'] at a b ⊢
    obtain ⟨rfl, a1, a2⟩ := a
    obtain ⟨rfl, b1, b2⟩ := b
    refine ⟨rfl, cmp_trans a1 b1, ?_⟩
    rcases a2 with rfl | ⟨rfl, a2⟩
    · exact .inl rfl
    · rcases b2 with h | ⟨rfl, b2⟩
      · cases h
      · exact .inr ⟨rfl, cmp_trans b2 a2⟩

theorem meets_in {t : Int} {l h : List UInt8} {o : Bool} {t' : Int} {l' h' : List UInt8} {o' : Bool} (m : meetsS t l h o t' l' h' o' = true) : ∃ u k, inS t l h o u k = true ∧ inS t' l' h' o' u k = true := by
  simp only [meetsS, Bool.and_eq_true] at m
  exact ⟨_, _, m.1, m.2⟩

theorem covers_meets {t : Int} {l h : List UInt8} {o : Bool} {t' : Int} {l' h' : List UInt8} {o' : Bool} {t2 : Int} {l2 h2 : List UInt8} {o2 : Bool} (a : coversS t l h o t' l' h' o' = true) (b : meetsS t' l' h' o' t2 l2 h2 o2 = true) : meetsS t l h o t2 l2 h2 o2 = true := by
  obtain ⟨u, k, h1, h2⟩ := meets_in b
  exact in_meets (covers_in a h1) h2

theorem meets_self (t : Int) (l h : List UInt8) (o : Bool) : meetsS t l h o t l h o = !emptyS l h o := by
  cases e : emptyS l h o
  · exact in_meets (some_in (t := t) e) (some_in (t := t) e)
  · cases m : meetsS t l h o t l h o
    · rfl
    · obtain ⟨u, k, h1, _⟩ := meets_in m
      rw [in_empty h1] at e
      cases e

theorem covers_some {t : Int} {l h : List UInt8} {o : Bool} {t' : Int} {l' h' : List UInt8} {o' : Bool} (a : coversS t l h o t' l' h' o' = true) (e : emptyS l' h' o' = false) : meetsS t l h o t' l' h' o' = true :=
  covers_meets a (by rw [meets_self, e]; rfl)

end Go.Proofs.YtabhhckaclibaaaGreat
