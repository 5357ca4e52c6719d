/- awake of the whole is true. -/
import Derived.Test.YtabhhckaclibaaaGreatAw0
import Derived.Test.YtabhhckaclibaaaGreatAwR
set_option linter.all false
set_option maxRecDepth 1000000
set_option maxHeartbeats 400000000
namespace Go.Proofs.YtabhhckaclibaaaGreat
open Go.Eng

/-- script.Run's answer is known. -/
def known : Rec := fun c a h => match c with
  | .fn 35 => if eqAVl a [argB] && h.next == 0 && h.bl.isEmpty then some r35 else none
  | _ => none

theorem known_le : Le known (call T 60) := by
  intro c a h r e
  unfold known at e
  split at e
  · split at e
    · rename_i hc
      simp only [Bool.and_eq_true, beq_iff_eq, List.isEmpty_iff] at hc
      obtain ⟨⟨h1, h2⟩, h3⟩ := hc
      have ha := eqAVl_ok _ _ h1
      have hh : h = .empty := by cases h; simp only at h2 h3; subst h2; subst h3; rfl
      subst ha; subst hh
      rw [run35, e]
    · cases e
  · cases e

theorem awT0 : okB (callO T known 20 (.fn 9) [] .empty) = true := by kernel_rfl

theorem awT : okB (call T 80 (.fn 9) [] .empty) = true := by
  obtain ⟨h', e⟩ := okB_some awT0
  rw [callO_le known_le 20 _ _ _ _ e]
  rfl

end Go.Proofs.YtabhhckaclibaaaGreat
