/- awake of layer 2 is true. -/
import Derived.Test.YtabhhckaclibaaaGreatAw0
set_option linter.all false
set_option maxRecDepth 1000000
set_option maxHeartbeats 400000000
namespace Go.Proofs.YtabhhckaclibaaaGreat
open Go.Eng

theorem aw02 : okB (call T 80 (.fn 63) [] .empty) = true := by kernel_rfl

end Go.Proofs.YtabhhckaclibaaaGreat
