/- What the row's form asks of topSpans. -/
import Derived.Test.YtabhhckaclibaaaGreatJp
set_option linter.all false
set_option maxRecDepth 100000
namespace Go.Proofs.YtabhhckaclibaaaGreat

theorem topSpans_j0 : (Rows.topSpansRow.wf (OpenSpec.ofChange Rows.topSpansSpec) : Bool) = true := by kernel_rfl
theorem topSpans_j3 : (Tryz.f3.params.all (Tryz.checked.prog.readableRec ·) : Bool) = true := by kernel_rfl
theorem topSpans_j4 : (namedTie Tryz.checked.prog Rows.topSpansRow.named Rows.topSpansSpec.vars : Bool) = true := by kernel_rfl
theorem topSpans_j5 : ((Rows.topSpansRow.stops == []) : Bool) = true := by kernel_rfl
theorem topSpans_j7 : ((Rows.topSpansRow.knobs == []) : Bool) = true := by kernel_rfl
theorem topSpans_j9 : ((Rows.topSpansRow.inPlace == Tryz.checked.prog.inPlace 3) : Bool) = true := by kernel_rfl
theorem topSpans_j10 : ((Rows.topSpansRow.unfollowed == Tryz.checked.prog.unfollowed 3) : Bool) = true := by kernel_rfl
theorem topSpans_j11 : ((Rows.topSpansRow.recurses == Tryz.checked.prog.recurses 3) : Bool) = true := by kernel_rfl
theorem topSpans_j12 : ((Rows.topSpansRow.named == Tryz.checked.prog.varsNamed 3) : Bool) = true := by kernel_rfl
theorem topSpans_j13 : ((Rows.topSpansRow.maps == (Tryz.f3.params.toList ++ Rows.topSpansSpec.plain.varTypes Tryz.checked.prog).any (Tryz.checked.prog.mapsRec ·)) : Bool) = true := by kernel_rfl
theorem topSpans_j14 : ((Rows.topSpansRow.ifaces == (Tryz.f3.params.toList ++ Rows.topSpansSpec.plain.varTypes Tryz.checked.prog).any (Tryz.checked.prog.ifacesRec ·)) : Bool) = true := by kernel_rfl
theorem topSpans_j15 : ((Rows.topSpansRow.mapsOut == Tryz.checked.prog.mapsAmong Tryz.f3.resultTypes.toList) : Bool) = true := by kernel_rfl
theorem topSpans_j16 : ((Rows.topSpansRow.loops == (Tryz.f3.params.toList ++ Rows.topSpansSpec.plain.varTypes Tryz.checked.prog).any (Tryz.checked.prog.loopsFrom ·)) : Bool) = true := by kernel_rfl
theorem topSpans_j17 : ((Rows.topSpansRow.wideKeys == (Tryz.f3.params.toList ++ Rows.topSpansSpec.plain.varTypes Tryz.checked.prog ++ Tryz.f3.resultTypes.toList).any (Tryz.checked.prog.wideKeysFrom ·)) : Bool) = true := by kernel_rfl
theorem topSpans_j18 : (Rows.topSpansSpec.vars.all (Tryz.checked.prog.varReadable ·) : Bool) = true := by kernel_rfl
theorem topSpans_j19 : (Tryz.f3.resultTypes.all (fun t => Tryz.checked.prog.readableRec t && decide (t < Tryz.checked.prog.types.size)) : Bool) = true := by kernel_rfl
theorem topSpans_j20 : ((Rows.topSpansRow.ifacesOut == Tryz.f3.resultTypes.toList.any (Tryz.checked.prog.ifacesRec ·)) : Bool) = true := by kernel_rfl
theorem topSpans_j21 : ((Rows.topSpansRow.loopsOut == Tryz.f3.resultTypes.toList.any (Tryz.checked.prog.loopsFrom ·)) : Bool) = true := by kernel_rfl
theorem topSpans_j22 : ((Rows.topSpansRow.plainKeys == Tryz.checked.prog.plainKeys) : Bool) = true := by kernel_rfl
theorem topSpans_j23 : (Rows.topSpansRow.shortTexts.isNone : Bool) = true := by kernel_rfl
theorem topSpans_j26 : ((Rows.topSpansRow.lifted == Tryz.checked.prog.liftsFinal) : Bool) = true := by kernel_rfl
theorem topSpans_j27 : ((Tryz.checked.prog.make == some Rows.topSpansRow.make) : Bool) = true := by kernel_rfl
theorem topSpans_j28 : ((Rows.topSpansRow.kinds == (if Rows.topSpansRow.domain.isEmpty then [] else Tryz.f3.params.toList.map fun t => match Tryz.checked.prog.underlying t with | some (.int k) => some k | _ => none)) : Bool) = true := by kernel_rfl
theorem topSpans_j29 : ((Rows.topSpansRow.pinned == Rows.topSpansRow.pinnedBy) : Bool) = true := by kernel_rfl
theorem topSpans_j30 : ((Rows.topSpansRow.veiled == (Tryz.f3.params.toList ++ Rows.topSpansSpec.plain.varTypes Tryz.checked.prog ++ Tryz.f3.resultTypes.toList).any (Tryz.checked.prog.veiledRec ·)) : Bool) = true := by kernel_rfl
theorem topSpans_j31 : (Rows.topSpansRow.veiledFits Tryz.checked.prog Tryz.f3.params.toList (Tryz.f3.params.toList ++ Rows.topSpansSpec.plain.varTypes Tryz.checked.prog ++ Tryz.f3.resultTypes.toList) : Bool) = true := by kernel_rfl
theorem topSpans_joined : joinedFacts Tryz.checked.prog 3 Tryz.f3 Rows.topSpansSpec Rows.topSpansRow = true := by
  unfold joinedFacts
  exact (and_t (and_t (and_t (and_t (and_t (and_t (and_t (and_t (and_t (and_t (and_t (and_t (and_t (and_t (and_t (and_t (and_t (and_t (and_t (and_t (and_t (and_t (and_t (and_t (and_t (and_t (and_t (and_t (and_t (and_t (and_t topSpans_j0 jp1) jp2) topSpans_j3) topSpans_j4) topSpans_j5) jp6) topSpans_j7) jp8) topSpans_j9) topSpans_j10) topSpans_j11) topSpans_j12) topSpans_j13) topSpans_j14) topSpans_j15) topSpans_j16) topSpans_j17) topSpans_j18) topSpans_j19) topSpans_j20) topSpans_j21) topSpans_j22) topSpans_j23) jp24) jp25) topSpans_j26) topSpans_j27) topSpans_j28) topSpans_j29) topSpans_j30) topSpans_j31)

end Go.Proofs.YtabhhckaclibaaaGreat
