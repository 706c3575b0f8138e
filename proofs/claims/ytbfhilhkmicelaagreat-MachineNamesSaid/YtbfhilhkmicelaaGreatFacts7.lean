/-
  What the row of 'machineNames' asks of the program as a whole.
-/
import Derived.Test.YtbfhilhkmicelaaGreatRows
import Derived.WalkKit
import Derived.ProofKit
import Derived.OpenShut
namespace Go.Proofs.YtbfhilhkmicelaaGreat
open Go.ChangeShapes Go.WideShapes Go.ChangeAt Go.RowKit

theorem machineNames_c1 : (Rows.machineNamesRow.wf (OpenSpec.ofChange Rows.machineNamesSpec)) = true := by kernel_rfl
theorem machineNames_c2 : (laidOutB Tryz.prog) = true := by kernel_rfl
theorem machineNames_c3 : (mapsRowed Tryz.prog) = true := by kernel_rfl
theorem machineNames_c4 : (Tryz.f7.params.all (Tryz.prog.readableRec ·)) = true := by kernel_rfl
theorem machineNames_c5 : (namedTie Tryz.prog Rows.machineNamesRow.named Rows.machineNamesSpec.vars) = true := by kernel_rfl
theorem machineNames_c6 : ((Rows.machineNamesRow.stops == [])) = true := by kernel_rfl
theorem machineNames_c7 : ((Tryz.prog.stops == [])) = true := by kernel_rfl
theorem machineNames_c8 : ((Rows.machineNamesRow.knobs == [])) = true := by kernel_rfl
theorem machineNames_c9 : ((Tryz.prog.stopKnobs == [])) = true := by kernel_rfl
theorem machineNames_c10 : ((Rows.machineNamesRow.inPlace == Tryz.prog.inPlace 7)) = true := by kernel_rfl
theorem machineNames_c11 : ((Rows.machineNamesRow.unfollowed == Tryz.prog.unfollowed 7)) = true := by kernel_rfl
theorem machineNames_c12 : ((Rows.machineNamesRow.recurses == Tryz.prog.recurses 7)) = true := by kernel_rfl
theorem machineNames_c13 : ((Rows.machineNamesRow.named == Tryz.prog.varsNamed 7)) = true := by kernel_rfl
theorem machineNames_c14 : ((Rows.machineNamesRow.maps == (Tryz.f7.params.toList ++ Rows.machineNamesSpec.plain.varTypes Tryz.prog).any (Tryz.prog.mapsRec ·))) = true := by kernel_rfl
theorem machineNames_c15 : ((Rows.machineNamesRow.ifaces == (Tryz.f7.params.toList ++ Rows.machineNamesSpec.plain.varTypes Tryz.prog).any (Tryz.prog.ifacesRec ·))) = true := by kernel_rfl
theorem machineNames_c16 : ((Rows.machineNamesRow.mapsOut == Tryz.prog.mapsAmong Tryz.f7.resultTypes.toList)) = true := by kernel_rfl
theorem machineNames_c17 : ((Rows.machineNamesRow.loops == (Tryz.f7.params.toList ++ Rows.machineNamesSpec.plain.varTypes Tryz.prog).any (Tryz.prog.loopsFrom ·))) = true := by kernel_rfl
theorem machineNames_c18 : ((Rows.machineNamesRow.wideKeys == (Tryz.f7.params.toList ++ Rows.machineNamesSpec.plain.varTypes Tryz.prog ++ Tryz.f7.resultTypes.toList).any (Tryz.prog.wideKeysFrom ·))) = true := by kernel_rfl
theorem machineNames_c19 : (Rows.machineNamesSpec.vars.all (Tryz.prog.varReadable ·)) = true := by kernel_rfl
theorem machineNames_c20 : (Tryz.f7.resultTypes.all (fun t => Tryz.prog.readableRec t && decide (t < Tryz.prog.types.size))) = true := by kernel_rfl
theorem machineNames_c21 : ((Rows.machineNamesRow.ifacesOut == Tryz.f7.resultTypes.toList.any (Tryz.prog.ifacesRec ·))) = true := by kernel_rfl
theorem machineNames_c22 : ((Rows.machineNamesRow.loopsOut == Tryz.f7.resultTypes.toList.any (Tryz.prog.loopsFrom ·))) = true := by kernel_rfl
theorem machineNames_c23 : ((Rows.machineNamesRow.plainKeys == Tryz.prog.plainKeys)) = true := by kernel_rfl
theorem machineNames_c24 : (Rows.machineNamesRow.shortTexts.isNone) = true := by kernel_rfl
theorem machineNames_c25 : (Tryz.prog.stopsHeard) = true := by kernel_rfl
theorem machineNames_c26 : (Tryz.prog.mayEnter) = true := by kernel_rfl
theorem machineNames_c27 : ((Rows.machineNamesRow.lifted == Tryz.prog.liftsFinal)) = true := by kernel_rfl
theorem machineNames_c28 : ((Tryz.prog.make == some Rows.machineNamesRow.make)) = true := by kernel_rfl
theorem machineNames_c30 : ((Rows.machineNamesRow.pinned == Rows.machineNamesRow.pinnedBy)) = true := by kernel_rfl
theorem machineNames_c31 : ((Rows.machineNamesRow.veiled == (Tryz.f7.params.toList ++ Rows.machineNamesSpec.plain.varTypes Tryz.prog ++ Tryz.f7.resultTypes.toList).any (Tryz.prog.veiledRec ·))) = true := by kernel_rfl
theorem machineNames_c32 : (Rows.machineNamesRow.veiledFits Tryz.prog Tryz.f7.params.toList (Tryz.f7.params.toList ++ Rows.machineNamesSpec.plain.varTypes Tryz.prog ++ Tryz.f7.resultTypes.toList)) = true := by kernel_rfl

theorem machineNames_facts : joinedFacts Tryz.prog 7 Tryz.f7 Rows.machineNamesSpec Rows.machineNamesRow = true := by
  unfold joinedFacts
  simp only [Bool.and_eq_true]
  refine ⟨⟨⟨⟨⟨⟨⟨⟨⟨⟨⟨⟨⟨⟨⟨⟨⟨⟨⟨⟨⟨⟨⟨⟨⟨⟨⟨⟨⟨⟨⟨machineNames_c1, machineNames_c2⟩, machineNames_c3⟩, machineNames_c4⟩, machineNames_c5⟩, machineNames_c6⟩, machineNames_c7⟩, machineNames_c8⟩, machineNames_c9⟩, machineNames_c10⟩, machineNames_c11⟩, machineNames_c12⟩, machineNames_c13⟩, machineNames_c14⟩, machineNames_c15⟩, machineNames_c16⟩, machineNames_c17⟩, machineNames_c18⟩, machineNames_c19⟩, machineNames_c20⟩, machineNames_c21⟩, machineNames_c22⟩, machineNames_c23⟩, machineNames_c24⟩, machineNames_c25⟩, machineNames_c26⟩, machineNames_c27⟩, machineNames_c28⟩, ?_⟩, machineNames_c30⟩, machineNames_c31⟩, machineNames_c32⟩
  kernel_rfl

end Go.Proofs.YtbfhilhkmicelaaGreat
