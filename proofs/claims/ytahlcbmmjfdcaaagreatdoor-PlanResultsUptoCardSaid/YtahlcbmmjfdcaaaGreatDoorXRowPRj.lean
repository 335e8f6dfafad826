/- Part of the proof that PlanResults answers true: see the last text. -/
import Derived.Test.YtahlcbmmjfdcaaaGreatDoorXRowPR1
import Derived.Test.YtahlcbmmjfdcaaaGreatDoorPXJoin
set_option linter.all false
set_option maxRecDepth 100000
namespace Go.Proofs.YtahlcbmmjfdcaaaGreatDoor.planResults
open Go Go.Proofs.YtahlcbmmjfdcaaaGreatDoor.PX Go.ChangeShapes Go.WideShapes Go.ChangeAt Go.RowKit px
theorem h1 : Rows.planResultsUptoRow.wf (OpenSpec.ofChange (Rows.OpenSpec.upto Rows.planResultsSpec).bare) = true := by kernel_rfl
theorem h2 : laidOutB Tryz.prog = true := by kernel_rfl
theorem h3 : mapsRowed Tryz.prog = true := by kernel_rfl
theorem h4 : Tryz.f4.params.all (Tryz.prog.readableRec ·) = true := by kernel_rfl
theorem h5 : namedTie Tryz.prog Rows.planResultsUptoRow.named (Rows.OpenSpec.upto Rows.planResultsSpec).bare.vars = true := by kernel_rfl
theorem h6 : (Rows.planResultsUptoRow.stops == []) = true := by kernel_rfl
theorem h7 : (Tryz.prog.stops == []) = true := by kernel_rfl
theorem h8 : (Rows.planResultsUptoRow.knobs == []) = true := by kernel_rfl
theorem h9 : (Tryz.prog.stopKnobs == []) = true := by kernel_rfl
theorem h10 : (Rows.planResultsUptoRow.inPlace == Tryz.prog.inPlace 4) = true := by kernel_rfl
theorem h11 : (Rows.planResultsUptoRow.unfollowed == Tryz.prog.unfollowed 4) = true := by kernel_rfl
theorem h12 : (Rows.planResultsUptoRow.recurses == Tryz.prog.recurses 4) = true := by kernel_rfl
theorem h13 : (Rows.planResultsUptoRow.named == Tryz.prog.varsNamed 4) = true := by kernel_rfl
theorem h14 : (Rows.planResultsUptoRow.maps == (Tryz.f4.params.toList ++ (Rows.OpenSpec.upto Rows.planResultsSpec).bare.plain.varTypes Tryz.prog).any (Tryz.prog.mapsRec ·)) = true := by kernel_rfl
theorem h15 : (Rows.planResultsUptoRow.ifaces == (Tryz.f4.params.toList ++ (Rows.OpenSpec.upto Rows.planResultsSpec).bare.plain.varTypes Tryz.prog).any (Tryz.prog.ifacesRec ·)) = true := by kernel_rfl
theorem h16 : (Rows.planResultsUptoRow.mapsOut == Tryz.prog.mapsAmong Tryz.f4.resultTypes.toList) = true := by kernel_rfl
theorem h17 : (Rows.planResultsUptoRow.loops == (Tryz.f4.params.toList ++ (Rows.OpenSpec.upto Rows.planResultsSpec).bare.plain.varTypes Tryz.prog).any (Tryz.prog.loopsFrom ·)) = true := by kernel_rfl
theorem h18 : (Rows.planResultsUptoRow.wideKeys == (Tryz.f4.params.toList ++ (Rows.OpenSpec.upto Rows.planResultsSpec).bare.plain.varTypes Tryz.prog ++ Tryz.f4.resultTypes.toList).any (Tryz.prog.wideKeysFrom ·)) = true := by kernel_rfl
theorem h19 : (Rows.OpenSpec.upto Rows.planResultsSpec).bare.vars.all (Tryz.prog.varReadable ·) = true := by kernel_rfl
theorem h20 : Tryz.f4.resultTypes.all (fun t => Tryz.prog.readableRec t && decide (t < Tryz.prog.types.size)) = true := by kernel_rfl
theorem h21 : (Rows.planResultsUptoRow.ifacesOut == Tryz.f4.resultTypes.toList.any (Tryz.prog.ifacesRec ·)) = true := by kernel_rfl
theorem h22 : (Rows.planResultsUptoRow.loopsOut == Tryz.f4.resultTypes.toList.any (Tryz.prog.loopsFrom ·)) = true := by kernel_rfl
theorem h23 : (Rows.planResultsUptoRow.plainKeys == Tryz.prog.plainKeys) = true := by kernel_rfl
theorem h24 : Rows.planResultsUptoRow.shortTexts.isNone = true := by kernel_rfl
theorem h25 : Tryz.prog.stopsHeard = true := by kernel_rfl
theorem h26 : Tryz.prog.mayEnter = true := by kernel_rfl
theorem h27 : (Rows.planResultsUptoRow.lifted == Tryz.prog.liftsFinal) = true := by kernel_rfl
theorem h28 : (Tryz.prog.make == some Rows.planResultsUptoRow.make) = true := by kernel_rfl
theorem h29 : (Rows.planResultsUptoRow.kinds == (if Rows.planResultsUptoRow.domain.isEmpty then [] else Tryz.f4.params.toList.map fun t => match Tryz.prog.underlying t with | some (.int k) => some k | _ => none)) = true := by kernel_rfl
theorem h30 : (Rows.planResultsUptoRow.pinned == Rows.planResultsUptoRow.pinnedBy) = true := by kernel_rfl
theorem h31 : (Rows.planResultsUptoRow.veiled == (Tryz.f4.params.toList ++ (Rows.OpenSpec.upto Rows.planResultsSpec).bare.plain.varTypes Tryz.prog ++ Tryz.f4.resultTypes.toList).any (Tryz.prog.veiledRec ·)) = true := by kernel_rfl
theorem h32 : Rows.planResultsUptoRow.veiledFits Tryz.prog Tryz.f4.params.toList (Tryz.f4.params.toList ++ (Rows.OpenSpec.upto Rows.planResultsSpec).bare.plain.varTypes Tryz.prog ++ Tryz.f4.resultTypes.toList) = true := by kernel_rfl
theorem closed : joinedFacts Tryz.prog 4 Tryz.f4 (Rows.OpenSpec.upto Rows.planResultsSpec).bare Rows.planResultsUptoRow = true :=
  joined_of h1 h2 h3 h4 h5 h6 h7 h8 h9 h10 h11 h12 h13 h14 h15 h16 h17 h18 h19 h20 h21 h22 h23 h24 h25 h26 h27 h28 h29 h30 h31 h32
end Go.Proofs.YtahlcbmmjfdcaaaGreatDoor.planResults
