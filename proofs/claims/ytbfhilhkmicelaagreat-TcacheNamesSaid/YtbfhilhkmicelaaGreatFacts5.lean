/-
  What the row of 'tcacheNames' asks of the program as a whole.
-/
import Derived.Test.YtbfhilhkmicelaaGreatRows
import Derived.WalkKit
import Derived.ProofKit
import Derived.OpenShut
namespace Go.Proofs.YtbfhilhkmicelaaGreat
open Go.ChangeShapes Go.WideShapes Go.ChangeAt Go.RowKit

theorem tcacheNames_c1 : (Rows.tcacheNamesRow.wf (OpenSpec.ofChange Rows.tcacheNamesSpec)) = true := by kernel_rfl
theorem tcacheNames_c2 : (laidOutB Tryz.prog) = true := by kernel_rfl
theorem tcacheNames_c3 : (mapsRowed Tryz.prog) = true := by kernel_rfl
theorem tcacheNames_c4 : (Tryz.f5.params.all (Tryz.prog.readableRec ·)) = true := by kernel_rfl
theorem tcacheNames_c5 : (namedTie Tryz.prog Rows.tcacheNamesRow.named Rows.tcacheNamesSpec.vars) = true := by kernel_rfl
theorem tcacheNames_c6 : ((Rows.tcacheNamesRow.stops == [])) = true := by kernel_rfl
theorem tcacheNames_c7 : ((Tryz.prog.stops == [])) = true := by kernel_rfl
theorem tcacheNames_c8 : ((Rows.tcacheNamesRow.knobs == [])) = true := by kernel_rfl
theorem tcacheNames_c9 : ((Tryz.prog.stopKnobs == [])) = true := by kernel_rfl
theorem tcacheNames_c10 : ((Rows.tcacheNamesRow.inPlace == Tryz.prog.inPlace 5)) = true := by kernel_rfl
theorem tcacheNames_c11 : ((Rows.tcacheNamesRow.unfollowed == Tryz.prog.unfollowed 5)) = true := by kernel_rfl
theorem tcacheNames_c12 : ((Rows.tcacheNamesRow.recurses == Tryz.prog.recurses 5)) = true := by kernel_rfl
theorem tcacheNames_c13 : ((Rows.tcacheNamesRow.named == Tryz.prog.varsNamed 5)) = true := by kernel_rfl
theorem tcacheNames_c14 : ((Rows.tcacheNamesRow.maps == (Tryz.f5.params.toList ++ Rows.tcacheNamesSpec.plain.varTypes Tryz.prog).any (Tryz.prog.mapsRec ·))) = true := by kernel_rfl
theorem tcacheNames_c15 : ((Rows.tcacheNamesRow.ifaces == (Tryz.f5.params.toList ++ Rows.tcacheNamesSpec.plain.varTypes Tryz.prog).any (Tryz.prog.ifacesRec ·))) = true := by kernel_rfl
theorem tcacheNames_c16 : ((Rows.tcacheNamesRow.mapsOut == Tryz.prog.mapsAmong Tryz.f5.resultTypes.toList)) = true := by kernel_rfl
theorem tcacheNames_c17 : ((Rows.tcacheNamesRow.loops == (Tryz.f5.params.toList ++ Rows.tcacheNamesSpec.plain.varTypes Tryz.prog).any (Tryz.prog.loopsFrom ·))) = true := by kernel_rfl
theorem tcacheNames_c18 : ((Rows.tcacheNamesRow.wideKeys == (Tryz.f5.params.toList ++ Rows.tcacheNamesSpec.plain.varTypes Tryz.prog ++ Tryz.f5.resultTypes.toList).any (Tryz.prog.wideKeysFrom ·))) = true := by kernel_rfl
theorem tcacheNames_c19 : (Rows.tcacheNamesSpec.vars.all (Tryz.prog.varReadable ·)) = true := by kernel_rfl
theorem tcacheNames_c20 : (Tryz.f5.resultTypes.all (fun t => Tryz.prog.readableRec t && decide (t < Tryz.prog.types.size))) = true := by kernel_rfl
theorem tcacheNames_c21 : ((Rows.tcacheNamesRow.ifacesOut == Tryz.f5.resultTypes.toList.any (Tryz.prog.ifacesRec ·))) = true := by kernel_rfl
theorem tcacheNames_c22 : ((Rows.tcacheNamesRow.loopsOut == Tryz.f5.resultTypes.toList.any (Tryz.prog.loopsFrom ·))) = true := by kernel_rfl
theorem tcacheNames_c23 : ((Rows.tcacheNamesRow.plainKeys == Tryz.prog.plainKeys)) = true := by kernel_rfl
theorem tcacheNames_c24 : (Rows.tcacheNamesRow.shortTexts.isNone) = true := by kernel_rfl
theorem tcacheNames_c25 : (Tryz.prog.stopsHeard) = true := by kernel_rfl
theorem tcacheNames_c26 : (Tryz.prog.mayEnter) = true := by kernel_rfl
theorem tcacheNames_c27 : ((Rows.tcacheNamesRow.lifted == Tryz.prog.liftsFinal)) = true := by kernel_rfl
theorem tcacheNames_c28 : ((Tryz.prog.make == some Rows.tcacheNamesRow.make)) = true := by kernel_rfl
theorem tcacheNames_c30 : ((Rows.tcacheNamesRow.pinned == Rows.tcacheNamesRow.pinnedBy)) = true := by kernel_rfl
theorem tcacheNames_c31 : ((Rows.tcacheNamesRow.veiled == (Tryz.f5.params.toList ++ Rows.tcacheNamesSpec.plain.varTypes Tryz.prog ++ Tryz.f5.resultTypes.toList).any (Tryz.prog.veiledRec ·))) = true := by kernel_rfl
theorem tcacheNames_c32 : (Rows.tcacheNamesRow.veiledFits Tryz.prog Tryz.f5.params.toList (Tryz.f5.params.toList ++ Rows.tcacheNamesSpec.plain.varTypes Tryz.prog ++ Tryz.f5.resultTypes.toList)) = true := by kernel_rfl

theorem tcacheNames_facts : joinedFacts Tryz.prog 5 Tryz.f5 Rows.tcacheNamesSpec Rows.tcacheNamesRow = true := by
  unfold joinedFacts
  simp only [Bool.and_eq_true]
  refine ⟨⟨⟨⟨⟨⟨⟨⟨⟨⟨⟨⟨⟨⟨⟨⟨⟨⟨⟨⟨⟨⟨⟨⟨⟨⟨⟨⟨⟨⟨⟨tcacheNames_c1, tcacheNames_c2⟩, tcacheNames_c3⟩, tcacheNames_c4⟩, tcacheNames_c5⟩, tcacheNames_c6⟩, tcacheNames_c7⟩, tcacheNames_c8⟩, tcacheNames_c9⟩, tcacheNames_c10⟩, tcacheNames_c11⟩, tcacheNames_c12⟩, tcacheNames_c13⟩, tcacheNames_c14⟩, tcacheNames_c15⟩, tcacheNames_c16⟩, tcacheNames_c17⟩, tcacheNames_c18⟩, tcacheNames_c19⟩, tcacheNames_c20⟩, tcacheNames_c21⟩, tcacheNames_c22⟩, tcacheNames_c23⟩, tcacheNames_c24⟩, tcacheNames_c25⟩, tcacheNames_c26⟩, tcacheNames_c27⟩, tcacheNames_c28⟩, ?_⟩, tcacheNames_c30⟩, tcacheNames_c31⟩, tcacheNames_c32⟩
  kernel_rfl

end Go.Proofs.YtbfhilhkmicelaaGreat
