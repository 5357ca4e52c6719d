/- What awake answers. -/
import Derived.Test.YtabhhckaclibaaaGreatTab
set_option linter.all false
set_option maxRecDepth 1000000
set_option maxHeartbeats 400000000
namespace Go.Proofs.YtabhhckaclibaaaGreat
open Go.Eng

def okB : Option (AV × AH) → Bool
  | some (.iv (.b true), _) => true
  | _ => false

theorem okB_some {x : Option (AV × AH)} (h : okB x = true) : ∃ h', x = some (.iv (.b true), h') := by
  unfold okB at h
  split at h
  · exact ⟨_, rfl⟩
  · cases h

end Go.Proofs.YtabhhckaclibaaaGreat
