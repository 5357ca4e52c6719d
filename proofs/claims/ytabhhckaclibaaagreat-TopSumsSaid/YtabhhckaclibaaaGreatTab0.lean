/- Short words for abstract code. -/
import Derived.Test.YtabhhckaclibaaaGreatCfg
set_option linter.all false
namespace Go.Eng.C
open Go.Eng
def v (d s : Nat) : AOper := ⟨some d, none, 0, .mov (.t s), []⟩
def vg (d g s : Nat) : AOper := ⟨some d, some (g, true), 0, .mov (.t s), []⟩
def vh (d g s : Nat) : AOper := ⟨some d, some (g, false), 0, .mov (.t s), []⟩
def l (d s : Nat) : AOper := ⟨some d, none, 0, .ld 1 false (.t s), []⟩
def lg (d g s : Nat) : AOper := ⟨some d, some (g, true), 0, .ld 1 false (.t s), []⟩
def lh (d g s : Nat) : AOper := ⟨some d, some (g, false), 0, .ld 1 false (.t s), []⟩
def f (d n s : Nat) : AOper := ⟨some d, none, 0, .fad n (.t s), []⟩
def fg (d g n s : Nat) : AOper := ⟨some d, some (g, true), 0, .fad n (.t s), []⟩
def fh (d g n s : Nat) : AOper := ⟨some d, some (g, false), 0, .fad n (.t s), []⟩
def o (d : Nat) (op : AOp) : AOper := ⟨some d, none, 0, op, []⟩
def og (d g : Nat) (op : AOp) : AOper := ⟨some d, some (g, true), 0, op, []⟩
def oh (d g : Nat) (op : AOp) : AOper := ⟨some d, some (g, false), 0, op, []⟩
def k (d k : Nat) (op : AOp) : AOper := ⟨some d, none, k, op, []⟩
def kg (d k g : Nat) (op : AOp) : AOper := ⟨some d, some (g, true), k, op, []⟩
def kh (d k g : Nat) (op : AOp) : AOper := ⟨some d, some (g, false), k, op, []⟩
def s (k : Nat) (op : AOp) : AOper := ⟨none, none, k, op, []⟩
def sg (k g : Nat) (op : AOp) : AOper := ⟨none, some (g, true), k, op, []⟩
def sh (k g : Nat) (op : AOp) : AOper := ⟨none, some (g, false), k, op, []⟩
end Go.Eng.C
