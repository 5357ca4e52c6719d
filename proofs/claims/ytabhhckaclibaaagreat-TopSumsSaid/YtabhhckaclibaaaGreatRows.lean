/-
  NARROWER THAN 'FOR EVERY INPUT', by the rows' own cells (each row's printed sentence says how): TxnBack: loops · TxnBlind: loops.
  DERIVED. THE GIVEN ROWS OF THIS SEAT. 6 by the template 'for every input the law returns true; each argument reads behind the call as it read before'; 0 by the template 'total and deterministic' (their statements: YtabhhckaclibaaaGreatTotals.lean).
  GIVEN WITH THE SEED: the statements are not yours to turn. If you find one false, say at which input.
  Laid BY PROGRAM, IN A SANDBOX (cutbox-rows.mjs): the forced cells as the released guide's own fill.sh prints them over the translation a7daba66036942ec… (all of the seat's roots in one cut). By AI agents, Wed Nov 11 2026. No macro, syntax, notation, axiom, sorry.
-/
import Derived.Test.YtabhhckaclibaaaGreatChecked
import GoSem.Claim
import GoSem.ClaimJoined
import GoSem.ClaimMapViews
import Derived.JoinedTies
import Derived.KernelRfl
namespace Go.Proofs.YtabhhckaclibaaaGreat
/- THE CELL 'sum', in the pinned program and in every row, IS THE sha256 OF THE DUMP (.gsa) THAT YtabhhckaclibaaaGreatProg.lean LOADS. Nothing in Lean hashes anything: it is a label: what it is worth is what the hold of that sum in a sandbox is worth. -/
noncomputable def Tryz.pinned : Pinned := { name := "ytabhhckaclibaaagreat", sum := "a7daba66036942ec70c80ba164a5aee84582e964f897ca7ce8cbea3f4d37d5dd", checked := Tryz.checked }
namespace Rows
def none {H : Type} : Left H := { results := [], args := [] }

/-- 'banksmantop.TopSpans': WHATEVER THE INPUT: true; the input reads as it did. -/
def topSpansSpec : ChangeSpec := { name := "topSpans", fn := fun _ => fun
  | [d1, d2, d3, d4] => { results := [.lit (.bool true)], args := [d1, d2, d3, d4] }
  | _ => none }
def topSpansRow : OpenClaim := { program := "ytabhhckaclibaaagreat", sum := "a7daba66036942ec70c80ba164a5aee84582e964f897ca7ce8cbea3f4d37d5dd", func := "banksman/banksmantop.TopSpans", spec := "topSpans", inPlace := ["internal/bytealg.Compare", "slices.overlaps[[]byte]", "slices.overlaps[[]banksman/api.Version]", "slices.overlaps[banksman/api.Node]", "slices.overlaps[banksman/api.Pair]"], unfollowed := true, recurses := true, plainKeys := false, apart := false }
def TopSpansSaid : Prop := topSpansRow.holds Tryz.pinned (OpenSpec.ofChange topSpansSpec)

/-- ITS FALSE NEIGHBOUR: 'it returns false'. Refute it at one input. -/
def topSpansWrong : ChangeSpec := { name := "topSpans", fn := fun _ => fun
  | [d1, d2, d3, d4] => { results := [.lit (.bool false)], args := [d1, d2, d3, d4] }
  | _ => none }
def TopSpansWrongFalsely : Prop := topSpansRow.holds Tryz.pinned (OpenSpec.ofChange topSpansWrong)

/-- 'banksmantop.TopOctets': WHATEVER THE INPUT: true; the input reads as it did. -/
def topOctetsSpec : ChangeSpec := { name := "topOctets", fn := fun _ => fun
  | [d1, d2, d3] => { results := [.lit (.bool true)], args := [d1, d2, d3] }
  | _ => none }
def topOctetsRow : OpenClaim := { program := "ytabhhckaclibaaagreat", sum := "a7daba66036942ec70c80ba164a5aee84582e964f897ca7ce8cbea3f4d37d5dd", func := "banksman/banksmantop.TopOctets", spec := "topOctets", inPlace := ["internal/bytealg.Compare", "slices.overlaps[[]byte]", "slices.overlaps[[]banksman/api.Version]", "slices.overlaps[banksman/api.Node]", "slices.overlaps[banksman/api.Pair]"], unfollowed := true, recurses := true, plainKeys := false, apart := false }
def TopOctetsSaid : Prop := topOctetsRow.holds Tryz.pinned (OpenSpec.ofChange topOctetsSpec)

/-- ITS FALSE NEIGHBOUR: 'it returns false'. Refute it at one input. -/
def topOctetsWrong : ChangeSpec := { name := "topOctets", fn := fun _ => fun
  | [d1, d2, d3] => { results := [.lit (.bool false)], args := [d1, d2, d3] }
  | _ => none }
def TopOctetsWrongFalsely : Prop := topOctetsRow.holds Tryz.pinned (OpenSpec.ofChange topOctetsWrong)

/-- 'banksmantop.TopSums': WHATEVER THE INPUT: true; the input reads as it did. -/
def topSumsSpec : ChangeSpec := { name := "topSums", fn := fun _ => fun
  | [d1, d2, d3, d4, d5] => { results := [.lit (.bool true)], args := [d1, d2, d3, d4, d5] }
  | _ => none }
def topSumsRow : OpenClaim := { program := "ytabhhckaclibaaagreat", sum := "a7daba66036942ec70c80ba164a5aee84582e964f897ca7ce8cbea3f4d37d5dd", func := "banksman/banksmantop.TopSums", spec := "topSums", inPlace := ["internal/bytealg.Compare", "slices.overlaps[[]byte]", "slices.overlaps[[]banksman/api.Version]", "slices.overlaps[banksman/api.Node]", "slices.overlaps[banksman/api.Pair]"], unfollowed := true, recurses := true, plainKeys := false, apart := false }
def TopSumsSaid : Prop := topSumsRow.holds Tryz.pinned (OpenSpec.ofChange topSumsSpec)

/-- ITS FALSE NEIGHBOUR: 'it returns false'. Refute it at one input. -/
def topSumsWrong : ChangeSpec := { name := "topSums", fn := fun _ => fun
  | [d1, d2, d3, d4, d5] => { results := [.lit (.bool false)], args := [d1, d2, d3, d4, d5] }
  | _ => none }
def TopSumsWrongFalsely : Prop := topSumsRow.holds Tryz.pinned (OpenSpec.ofChange topSumsWrong)

/-- 'banksmanlaw15.TxnBack': WHATEVER THE INPUT: true; the input reads as it did. -/
def txnBackSpec : ChangeSpec := { name := "txnBack", fn := fun _ => fun
  | [d1, d2, d3, d4, d5] => { results := [.lit (.bool true)], args := [d1, d2, d3, d4, d5] }
  | _ => none }
def txnBackRow : OpenClaim := { program := "ytabhhckaclibaaagreat", sum := "a7daba66036942ec70c80ba164a5aee84582e964f897ca7ce8cbea3f4d37d5dd", func := "banksman/banksmanlaw15.TxnBack", spec := "txnBack", inPlace := ["internal/bytealg.Compare", "slices.overlaps[[]byte]", "slices.overlaps[[]banksman/api.Version]", "slices.overlaps[banksman/api.Node]", "slices.overlaps[banksman/api.Pair]"], unfollowed := true, recurses := true, loops := true, plainKeys := false, apart := false }
def TxnBackSaid : Prop := txnBackRow.holds Tryz.pinned (OpenSpec.ofChange txnBackSpec)

/-- ITS FALSE NEIGHBOUR: 'it returns false'. Refute it at one input. -/
def txnBackWrong : ChangeSpec := { name := "txnBack", fn := fun _ => fun
  | [d1, d2, d3, d4, d5] => { results := [.lit (.bool false)], args := [d1, d2, d3, d4, d5] }
  | _ => none }
def TxnBackWrongFalsely : Prop := txnBackRow.holds Tryz.pinned (OpenSpec.ofChange txnBackWrong)

/-- 'banksmanlaw15.TxnBlind': WHATEVER THE INPUT: true; the input reads as it did. -/
def txnBlindSpec : ChangeSpec := { name := "txnBlind", fn := fun _ => fun
  | [d1, d2, d3, d4, d5] => { results := [.lit (.bool true)], args := [d1, d2, d3, d4, d5] }
  | _ => none }
def txnBlindRow : OpenClaim := { program := "ytabhhckaclibaaagreat", sum := "a7daba66036942ec70c80ba164a5aee84582e964f897ca7ce8cbea3f4d37d5dd", func := "banksman/banksmanlaw15.TxnBlind", spec := "txnBlind", inPlace := ["internal/bytealg.Compare", "slices.overlaps[[]byte]", "slices.overlaps[[]banksman/api.Version]", "slices.overlaps[banksman/api.Node]", "slices.overlaps[banksman/api.Pair]"], unfollowed := true, recurses := true, loops := true, plainKeys := false, apart := false }
def TxnBlindSaid : Prop := txnBlindRow.holds Tryz.pinned (OpenSpec.ofChange txnBlindSpec)

/-- ITS FALSE NEIGHBOUR: 'it returns false'. Refute it at one input. -/
def txnBlindWrong : ChangeSpec := { name := "txnBlind", fn := fun _ => fun
  | [d1, d2, d3, d4, d5] => { results := [.lit (.bool false)], args := [d1, d2, d3, d4, d5] }
  | _ => none }
def TxnBlindWrongFalsely : Prop := txnBlindRow.holds Tryz.pinned (OpenSpec.ofChange txnBlindWrong)

/-- 'banksmanlaw15.TxnCovers': WHATEVER THE INPUT: true; the input reads as it did. -/
def txnCoversSpec : ChangeSpec := { name := "txnCovers", fn := fun _ => fun
  | [d1, d2] => { results := [.lit (.bool true)], args := [d1, d2] }
  | _ => none }
def txnCoversRow : OpenClaim := { program := "ytabhhckaclibaaagreat", sum := "a7daba66036942ec70c80ba164a5aee84582e964f897ca7ce8cbea3f4d37d5dd", func := "banksman/banksmanlaw15.TxnCovers", spec := "txnCovers", inPlace := ["internal/bytealg.Compare", "slices.overlaps[[]byte]", "slices.overlaps[[]banksman/api.Version]", "slices.overlaps[banksman/api.Node]", "slices.overlaps[banksman/api.Pair]"], unfollowed := true, recurses := true, plainKeys := false, apart := false }
def TxnCoversSaid : Prop := txnCoversRow.holds Tryz.pinned (OpenSpec.ofChange txnCoversSpec)

/-- ITS FALSE NEIGHBOUR: 'it returns false'. Refute it at one input. -/
def txnCoversWrong : ChangeSpec := { name := "txnCovers", fn := fun _ => fun
  | [d1, d2] => { results := [.lit (.bool false)], args := [d1, d2] }
  | _ => none }
def TxnCoversWrongFalsely : Prop := txnCoversRow.holds Tryz.pinned (OpenSpec.ofChange txnCoversWrong)

/- THE SECOND FORM. 'bulk': how many values and letters a reading holds, each counted each time it is reached (what is shared counts as often as it is met; a slice's spare places count too). A statement '..UptoSaid' is the law's where the arguments, and the package variables that the reading takes, are together of bulk at most 1048576: NARROWER than '..Said'. Prove '..Said' where nothing that the law and all that it calls make is longer than what came in: it says more and counts as full. Else prove '..UptoSaid'. A law counts once. -/
mutual
def uptoBulk {H : Type} : DataW H → Nat
  | .lit (.string bytes) => bytes.length + 1
  | .lit _ => 1
  | .nil => 1
  | .ptr d => uptoBulk d + 1
  | .slice elems spare => uptoBulkAll elems + uptoBulkAll spare + 1
  | .agg parts => uptoBulkAll parts + 1
  | .iface _ d => uptoBulk d + 1
  | .map entries => uptoBulkEntries entries + 1
  | .held _ => 1
def uptoBulkAll {H : Type} : List (DataW H) → Nat
  | [] => 0
  | d :: r => uptoBulk d + uptoBulkAll r
def uptoBulkEntries {H : Type} : List (Lit × DataW H) → Nat
  | [] => 0
  | x :: r => uptoBulkEntry x + uptoBulkEntries r
def uptoBulkEntry {H : Type} : Lit × DataW H → Nat
  | (.string bytes, d) => bytes.length + uptoBulk d + 1
  | (_, d) => uptoBulk d + 1
 end
def uptoSmall : (H : Type) → List (DataW H) → Bool := fun _ ds => decide (uptoBulkAll ds ≤ 1048576)
def OpenSpec.upto (s : _root_.Go.ChangeSpec) : _root_.Go.OpenSpec := { _root_.Go.OpenSpec.ofChange s with cond := some uptoSmall }

/-- 'banksmantop.TopSpans', WHERE WHAT IT READS IS OF BULK AT MOST 1048576: true; the input reads as it did. -/
def topSpansUptoRow : OpenClaim := { program := "ytabhhckaclibaaagreat", sum := "a7daba66036942ec70c80ba164a5aee84582e964f897ca7ce8cbea3f4d37d5dd", func := "banksman/banksmantop.TopSpans", spec := "topSpans", inPlace := ["internal/bytealg.Compare", "slices.overlaps[[]byte]", "slices.overlaps[[]banksman/api.Version]", "slices.overlaps[banksman/api.Node]", "slices.overlaps[banksman/api.Pair]"], unfollowed := true, recurses := true, plainKeys := false, apart := false, narrowed := true }
def TopSpansUptoSaid : Prop := topSpansUptoRow.holds Tryz.pinned (OpenSpec.upto topSpansSpec)

/-- 'banksmantop.TopOctets', WHERE WHAT IT READS IS OF BULK AT MOST 1048576: true; the input reads as it did. -/
def topOctetsUptoRow : OpenClaim := { program := "ytabhhckaclibaaagreat", sum := "a7daba66036942ec70c80ba164a5aee84582e964f897ca7ce8cbea3f4d37d5dd", func := "banksman/banksmantop.TopOctets", spec := "topOctets", inPlace := ["internal/bytealg.Compare", "slices.overlaps[[]byte]", "slices.overlaps[[]banksman/api.Version]", "slices.overlaps[banksman/api.Node]", "slices.overlaps[banksman/api.Pair]"], unfollowed := true, recurses := true, plainKeys := false, apart := false, narrowed := true }
def TopOctetsUptoSaid : Prop := topOctetsUptoRow.holds Tryz.pinned (OpenSpec.upto topOctetsSpec)

/-- 'banksmantop.TopSums', WHERE WHAT IT READS IS OF BULK AT MOST 1048576: true; the input reads as it did. -/
def topSumsUptoRow : OpenClaim := { program := "ytabhhckaclibaaagreat", sum := "a7daba66036942ec70c80ba164a5aee84582e964f897ca7ce8cbea3f4d37d5dd", func := "banksman/banksmantop.TopSums", spec := "topSums", inPlace := ["internal/bytealg.Compare", "slices.overlaps[[]byte]", "slices.overlaps[[]banksman/api.Version]", "slices.overlaps[banksman/api.Node]", "slices.overlaps[banksman/api.Pair]"], unfollowed := true, recurses := true, plainKeys := false, apart := false, narrowed := true }
def TopSumsUptoSaid : Prop := topSumsUptoRow.holds Tryz.pinned (OpenSpec.upto topSumsSpec)

/-- 'banksmanlaw15.TxnBack', WHERE WHAT IT READS IS OF BULK AT MOST 1048576: true; the input reads as it did. -/
def txnBackUptoRow : OpenClaim := { program := "ytabhhckaclibaaagreat", sum := "a7daba66036942ec70c80ba164a5aee84582e964f897ca7ce8cbea3f4d37d5dd", func := "banksman/banksmanlaw15.TxnBack", spec := "txnBack", inPlace := ["internal/bytealg.Compare", "slices.overlaps[[]byte]", "slices.overlaps[[]banksman/api.Version]", "slices.overlaps[banksman/api.Node]", "slices.overlaps[banksman/api.Pair]"], unfollowed := true, recurses := true, loops := true, plainKeys := false, apart := false, narrowed := true }
def TxnBackUptoSaid : Prop := txnBackUptoRow.holds Tryz.pinned (OpenSpec.upto txnBackSpec)

/-- 'banksmanlaw15.TxnBlind', WHERE WHAT IT READS IS OF BULK AT MOST 1048576: true; the input reads as it did. -/
def txnBlindUptoRow : OpenClaim := { program := "ytabhhckaclibaaagreat", sum := "a7daba66036942ec70c80ba164a5aee84582e964f897ca7ce8cbea3f4d37d5dd", func := "banksman/banksmanlaw15.TxnBlind", spec := "txnBlind", inPlace := ["internal/bytealg.Compare", "slices.overlaps[[]byte]", "slices.overlaps[[]banksman/api.Version]", "slices.overlaps[banksman/api.Node]", "slices.overlaps[banksman/api.Pair]"], unfollowed := true, recurses := true, loops := true, plainKeys := false, apart := false, narrowed := true }
def TxnBlindUptoSaid : Prop := txnBlindUptoRow.holds Tryz.pinned (OpenSpec.upto txnBlindSpec)

/-- 'banksmanlaw15.TxnCovers', WHERE WHAT IT READS IS OF BULK AT MOST 1048576: true; the input reads as it did. -/
def txnCoversUptoRow : OpenClaim := { program := "ytabhhckaclibaaagreat", sum := "a7daba66036942ec70c80ba164a5aee84582e964f897ca7ce8cbea3f4d37d5dd", func := "banksman/banksmanlaw15.TxnCovers", spec := "txnCovers", inPlace := ["internal/bytealg.Compare", "slices.overlaps[[]byte]", "slices.overlaps[[]banksman/api.Version]", "slices.overlaps[banksman/api.Node]", "slices.overlaps[banksman/api.Pair]"], unfollowed := true, recurses := true, plainKeys := false, apart := false, narrowed := true }
def TxnCoversUptoSaid : Prop := txnCoversUptoRow.holds Tryz.pinned (OpenSpec.upto txnCoversSpec)

end Rows
end Go.Proofs.YtabhhckaclibaaaGreat
