/- What the rows' form asks of the program. -/
import Derived.Test.YtabhhckaclibaaaGreatRows
import Derived.JoinedOf
import Derived.KernelRfl
set_option linter.all false
set_option maxRecDepth 100000
namespace Go.Proofs.YtabhhckaclibaaaGreat

theorem and_t {a b : Bool} (ha : a = true) (hb : b = true) : (a && b) = true := by rw [ha, hb]; rfl
theorem jp1 : (laidOutB Tryz.checked.prog : Bool) = true := by kernel_rfl
theorem jp2 : (mapsRowed Tryz.checked.prog : Bool) = true := by kernel_rfl
theorem jp6 : ((Tryz.checked.prog.stops == []) : Bool) = true := by kernel_rfl
theorem jp8 : ((Tryz.checked.prog.stopKnobs == []) : Bool) = true := by kernel_rfl
theorem jp24 : (Tryz.checked.prog.stopsHeard : Bool) = true := by kernel_rfl
theorem jp25 : (Tryz.checked.prog.mayEnter : Bool) = true := by kernel_rfl

end Go.Proofs.YtabhhckaclibaaaGreat
