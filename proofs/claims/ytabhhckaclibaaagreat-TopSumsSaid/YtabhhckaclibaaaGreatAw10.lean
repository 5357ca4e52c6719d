/- awake of layer 10 is true. -/
import Derived.Test.YtabhhckaclibaaaGreatAw0
set_option linter.all false
set_option maxRecDepth 1000000
set_option maxHeartbeats 400000000
namespace Go.Proofs.YtabhhckaclibaaaGreat
open Go.Eng

theorem aw10 : okB (call T 80 (.fn 39) [] .empty) = true := by kernel_rfl

end Go.Proofs.YtabhhckaclibaaaGreat
