/- The closed facts of a row, each by itself (printed by a program). No condition. -/
import Derived.Test.YtaaacaejpchbpaaGreatRows
import Derived.JoinedOf
import Derived.KernelRfl
set_option maxRecDepth 100000
namespace Go.Proofs.YtaaacaejpchbpaaGreat
open Go
theorem cf_batchSplitsRow_0 : (Rows.batchSplitsRow.wf (OpenSpec.ofChange Rows.batchSplitsSpec)) = true := by kernel_rfl
theorem cf_batchSplitsRow_1 : (laidOutB Tryz.checked.prog) = true := by kernel_rfl
theorem cf_batchSplitsRow_2 : (mapsRowed Tryz.checked.prog) = true := by kernel_rfl
theorem cf_batchSplitsRow_3 : (Tryz.f7.params.all (Tryz.checked.prog.readableRec ·)) = true := by kernel_rfl
theorem cf_batchSplitsRow_4 : (namedTie Tryz.checked.prog Rows.batchSplitsRow.named Rows.batchSplitsSpec.vars) = true := by kernel_rfl
theorem cf_batchSplitsRow_5 : ((Rows.batchSplitsRow.stops == [])) = true := by kernel_rfl
theorem cf_batchSplitsRow_6 : ((Tryz.checked.prog.stops == [])) = true := by kernel_rfl
theorem cf_batchSplitsRow_7 : ((Rows.batchSplitsRow.knobs == [])) = true := by kernel_rfl
theorem cf_batchSplitsRow_8 : ((Tryz.checked.prog.stopKnobs == [])) = true := by kernel_rfl
theorem cf_batchSplitsRow_9 : ((Rows.batchSplitsRow.inPlace == Tryz.checked.prog.inPlace 7)) = true := by kernel_rfl
theorem cf_batchSplitsRow_10 : ((Rows.batchSplitsRow.unfollowed == Tryz.checked.prog.unfollowed 7)) = true := by kernel_rfl
theorem cf_batchSplitsRow_11 : ((Rows.batchSplitsRow.recurses == Tryz.checked.prog.recurses 7)) = true := by kernel_rfl
theorem cf_batchSplitsRow_12 : ((Rows.batchSplitsRow.named == Tryz.checked.prog.varsNamed 7)) = true := by kernel_rfl
theorem cf_batchSplitsRow_13 : ((Rows.batchSplitsRow.maps == (Tryz.f7.params.toList ++ Rows.batchSplitsSpec.plain.varTypes Tryz.checked.prog).any (Tryz.checked.prog.mapsRec ·))) = true := by kernel_rfl
theorem cf_batchSplitsRow_14 : ((Rows.batchSplitsRow.ifaces == (Tryz.f7.params.toList ++ Rows.batchSplitsSpec.plain.varTypes Tryz.checked.prog).any (Tryz.checked.prog.ifacesRec ·))) = true := by kernel_rfl
theorem cf_batchSplitsRow_15 : ((Rows.batchSplitsRow.mapsOut == Tryz.checked.prog.mapsAmong Tryz.f7.resultTypes.toList)) = true := by kernel_rfl
theorem cf_batchSplitsRow_16 : ((Rows.batchSplitsRow.loops == (Tryz.f7.params.toList ++ Rows.batchSplitsSpec.plain.varTypes Tryz.checked.prog).any (Tryz.checked.prog.loopsFrom ·))) = true := by kernel_rfl
theorem cf_batchSplitsRow_17 : ((Rows.batchSplitsRow.wideKeys == (Tryz.f7.params.toList ++ Rows.batchSplitsSpec.plain.varTypes Tryz.checked.prog ++ Tryz.f7.resultTypes.toList).any (Tryz.checked.prog.wideKeysFrom ·))) = true := by kernel_rfl
theorem cf_batchSplitsRow_18 : (Rows.batchSplitsSpec.vars.all (Tryz.checked.prog.varReadable ·)) = true := by kernel_rfl
theorem cf_batchSplitsRow_19 : (Tryz.f7.resultTypes.all (fun t => Tryz.checked.prog.readableRec t && decide (t < Tryz.checked.prog.types.size))) = true := by kernel_rfl
theorem cf_batchSplitsRow_20 : ((Rows.batchSplitsRow.ifacesOut == Tryz.f7.resultTypes.toList.any (Tryz.checked.prog.ifacesRec ·))) = true := by kernel_rfl
theorem cf_batchSplitsRow_21 : ((Rows.batchSplitsRow.loopsOut == Tryz.f7.resultTypes.toList.any (Tryz.checked.prog.loopsFrom ·))) = true := by kernel_rfl
theorem cf_batchSplitsRow_22 : ((Rows.batchSplitsRow.plainKeys == Tryz.checked.prog.plainKeys)) = true := by kernel_rfl
theorem cf_batchSplitsRow_23 : (Rows.batchSplitsRow.shortTexts.isNone) = true := by kernel_rfl
theorem cf_batchSplitsRow_24 : (Tryz.checked.prog.stopsHeard) = true := by kernel_rfl
theorem cf_batchSplitsRow_25 : (Tryz.checked.prog.mayEnter) = true := by kernel_rfl
theorem cf_batchSplitsRow_26 : ((Rows.batchSplitsRow.lifted == Tryz.checked.prog.liftsFinal)) = true := by kernel_rfl
theorem cf_batchSplitsRow_27 : ((Tryz.checked.prog.make == some Rows.batchSplitsRow.make)) = true := by kernel_rfl
theorem cf_batchSplitsRow_28 : ((Rows.batchSplitsRow.kinds == (if Rows.batchSplitsRow.domain.isEmpty then [] else Tryz.f7.params.toList.map fun t => match Tryz.checked.prog.underlying t with | some (.int k) => some k | _ => none))) = true := by kernel_rfl
theorem cf_batchSplitsRow_29 : ((Rows.batchSplitsRow.pinned == Rows.batchSplitsRow.pinnedBy)) = true := by kernel_rfl
theorem cf_batchSplitsRow_30 : ((Rows.batchSplitsRow.veiled == (Tryz.f7.params.toList ++ Rows.batchSplitsSpec.plain.varTypes Tryz.checked.prog ++ Tryz.f7.resultTypes.toList).any (Tryz.checked.prog.veiledRec ·))) = true := by kernel_rfl
theorem cf_batchSplitsRow_31 : (Rows.batchSplitsRow.veiledFits Tryz.checked.prog Tryz.f7.params.toList (Tryz.f7.params.toList ++ Rows.batchSplitsSpec.plain.varTypes Tryz.checked.prog ++ Tryz.f7.resultTypes.toList)) = true := by kernel_rfl
end Go.Proofs.YtaaacaejpchbpaaGreat
