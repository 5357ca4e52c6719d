/- What the row's form asks of topSums. -/
import Derived.Test.YtabhhckaclibaaaGreatJp
set_option linter.all false
set_option maxRecDepth 100000
namespace Go.Proofs.YtabhhckaclibaaaGreat

theorem topSums_j0 : (Rows.topSumsRow.wf (OpenSpec.ofChange Rows.topSumsSpec) : Bool) = true := by kernel_rfl
theorem topSums_j3 : (Tryz.f5.params.all (Tryz.checked.prog.readableRec ·) : Bool) = true := by kernel_rfl
theorem topSums_j4 : (namedTie Tryz.checked.prog Rows.topSumsRow.named Rows.topSumsSpec.vars : Bool) = true := by kernel_rfl
theorem topSums_j5 : ((Rows.topSumsRow.stops == []) : Bool) = true := by kernel_rfl
theorem topSums_j7 : ((Rows.topSumsRow.knobs == []) : Bool) = true := by kernel_rfl
theorem topSums_j9 : ((Rows.topSumsRow.inPlace == Tryz.checked.prog.inPlace 5) : Bool) = true := by kernel_rfl
theorem topSums_j10 : ((Rows.topSumsRow.unfollowed == Tryz.checked.prog.unfollowed 5) : Bool) = true := by kernel_rfl
theorem topSums_j11 : ((Rows.topSumsRow.recurses == Tryz.checked.prog.recurses 5) : Bool) = true := by kernel_rfl
theorem topSums_j12 : ((Rows.topSumsRow.named == Tryz.checked.prog.varsNamed 5) : Bool) = true := by kernel_rfl
theorem topSums_j13 : ((Rows.topSumsRow.maps == (Tryz.f5.params.toList ++ Rows.topSumsSpec.plain.varTypes Tryz.checked.prog).any (Tryz.checked.prog.mapsRec ·)) : Bool) = true := by kernel_rfl
theorem topSums_j14 : ((Rows.topSumsRow.ifaces == (Tryz.f5.params.toList ++ Rows.topSumsSpec.plain.varTypes Tryz.checked.prog).any (Tryz.checked.prog.ifacesRec ·)) : Bool) = true := by kernel_rfl
theorem topSums_j15 : ((Rows.topSumsRow.mapsOut == Tryz.checked.prog.mapsAmong Tryz.f5.resultTypes.toList) : Bool) = true := by kernel_rfl
theorem topSums_j16 : ((Rows.topSumsRow.loops == (Tryz.f5.params.toList ++ Rows.topSumsSpec.plain.varTypes Tryz.checked.prog).any (Tryz.checked.prog.loopsFrom ·)) : Bool) = true := by kernel_rfl
theorem topSums_j17 : ((Rows.topSumsRow.wideKeys == (Tryz.f5.params.toList ++ Rows.topSumsSpec.plain.varTypes Tryz.checked.prog ++ Tryz.f5.resultTypes.toList).any (Tryz.checked.prog.wideKeysFrom ·)) : Bool) = true := by kernel_rfl
theorem topSums_j18 : (Rows.topSumsSpec.vars.all (Tryz.checked.prog.varReadable ·) : Bool) = true := by kernel_rfl
theorem topSums_j19 : (Tryz.f5.resultTypes.all (fun t => Tryz.checked.prog.readableRec t && decide (t < Tryz.checked.prog.types.size)) : Bool) = true := by kernel_rfl
theorem topSums_j20 : ((Rows.topSumsRow.ifacesOut == Tryz.f5.resultTypes.toList.any (Tryz.checked.prog.ifacesRec ·)) : Bool) = true := by kernel_rfl
theorem topSums_j21 : ((Rows.topSumsRow.loopsOut == Tryz.f5.resultTypes.toList.any (Tryz.checked.prog.loopsFrom ·)) : Bool) = true := by kernel_rfl
theorem topSums_j22 : ((Rows.topSumsRow.plainKeys == Tryz.checked.prog.plainKeys) : Bool) = true := by kernel_rfl
theorem topSums_j23 : (Rows.topSumsRow.shortTexts.isNone : Bool) = true := by kernel_rfl
theorem topSums_j26 : ((Rows.topSumsRow.lifted == Tryz.checked.prog.liftsFinal) : Bool) = true := by kernel_rfl
theorem topSums_j27 : ((Tryz.checked.prog.make == some Rows.topSumsRow.make) : Bool) = true := by kernel_rfl
theorem topSums_j28 : ((Rows.topSumsRow.kinds == (if Rows.topSumsRow.domain.isEmpty then [] else Tryz.f5.params.toList.map fun t => match Tryz.checked.prog.underlying t with | some (.int k) => some k | _ => none)) : Bool) = true := by kernel_rfl
theorem topSums_j29 : ((Rows.topSumsRow.pinned == Rows.topSumsRow.pinnedBy) : Bool) = true := by kernel_rfl
theorem topSums_j30 : ((Rows.topSumsRow.veiled == (Tryz.f5.params.toList ++ Rows.topSumsSpec.plain.varTypes Tryz.checked.prog ++ Tryz.f5.resultTypes.toList).any (Tryz.checked.prog.veiledRec ·)) : Bool) = true := by kernel_rfl
theorem topSums_j31 : (Rows.topSumsRow.veiledFits Tryz.checked.prog Tryz.f5.params.toList (Tryz.f5.params.toList ++ Rows.topSumsSpec.plain.varTypes Tryz.checked.prog ++ Tryz.f5.resultTypes.toList) : Bool) = true := by kernel_rfl
theorem topSums_joined : joinedFacts Tryz.checked.prog 5 Tryz.f5 Rows.topSumsSpec Rows.topSumsRow = true := by
  unfold joinedFacts
  exact (and_t (and_t (and_t (and_t (and_t (and_t (and_t (and_t (and_t (and_t (and_t (and_t (and_t (and_t (and_t (and_t (and_t (and_t (and_t (and_t (and_t (and_t (and_t (and_t (and_t (and_t (and_t (and_t (and_t (and_t (and_t topSums_j0 jp1) jp2) topSums_j3) topSums_j4) topSums_j5) jp6) topSums_j7) jp8) topSums_j9) topSums_j10) topSums_j11) topSums_j12) topSums_j13) topSums_j14) topSums_j15) topSums_j16) topSums_j17) topSums_j18) topSums_j19) topSums_j20) topSums_j21) topSums_j22) topSums_j23) jp24) jp25) topSums_j26) topSums_j27) topSums_j28) topSums_j29) topSums_j30) topSums_j31)

end Go.Proofs.YtabhhckaclibaaaGreat
