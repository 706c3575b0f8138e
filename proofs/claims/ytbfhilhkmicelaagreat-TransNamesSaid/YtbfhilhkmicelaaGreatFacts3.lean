/-
  What the row of 'transNames' asks of the program as a whole.
-/
import Derived.Test.YtbfhilhkmicelaaGreatRows
import Derived.WalkKit
import Derived.ProofKit
import Derived.OpenShut
namespace Go.Proofs.YtbfhilhkmicelaaGreat
open Go.ChangeShapes Go.WideShapes Go.ChangeAt Go.RowKit

theorem transNames_c1 : (Rows.transNamesRow.wf (OpenSpec.ofChange Rows.transNamesSpec)) = true := by kernel_rfl
theorem transNames_c2 : (laidOutB Tryz.prog) = true := by kernel_rfl
theorem transNames_c3 : (mapsRowed Tryz.prog) = true := by kernel_rfl
theorem transNames_c4 : (Tryz.f3.params.all (Tryz.prog.readableRec ·)) = true := by kernel_rfl
theorem transNames_c5 : (namedTie Tryz.prog Rows.transNamesRow.named Rows.transNamesSpec.vars) = true := by kernel_rfl
theorem transNames_c6 : ((Rows.transNamesRow.stops == [])) = true := by kernel_rfl
theorem transNames_c7 : ((Tryz.prog.stops == [])) = true := by kernel_rfl
theorem transNames_c8 : ((Rows.transNamesRow.knobs == [])) = true := by kernel_rfl
theorem transNames_c9 : ((Tryz.prog.stopKnobs == [])) = true := by kernel_rfl
theorem transNames_c10 : ((Rows.transNamesRow.inPlace == Tryz.prog.inPlace 3)) = true := by kernel_rfl
theorem transNames_c11 : ((Rows.transNamesRow.unfollowed == Tryz.prog.unfollowed 3)) = true := by kernel_rfl
theorem transNames_c12 : ((Rows.transNamesRow.recurses == Tryz.prog.recurses 3)) = true := by kernel_rfl
theorem transNames_c13 : ((Rows.transNamesRow.named == Tryz.prog.varsNamed 3)) = true := by kernel_rfl
theorem transNames_c14 : ((Rows.transNamesRow.maps == (Tryz.f3.params.toList ++ Rows.transNamesSpec.plain.varTypes Tryz.prog).any (Tryz.prog.mapsRec ·))) = true := by kernel_rfl
theorem transNames_c15 : ((Rows.transNamesRow.ifaces == (Tryz.f3.params.toList ++ Rows.transNamesSpec.plain.varTypes Tryz.prog).any (Tryz.prog.ifacesRec ·))) = true := by kernel_rfl
theorem transNames_c16 : ((Rows.transNamesRow.mapsOut == Tryz.prog.mapsAmong Tryz.f3.resultTypes.toList)) = true := by kernel_rfl
theorem transNames_c17 : ((Rows.transNamesRow.loops == (Tryz.f3.params.toList ++ Rows.transNamesSpec.plain.varTypes Tryz.prog).any (Tryz.prog.loopsFrom ·))) = true := by kernel_rfl
theorem transNames_c18 : ((Rows.transNamesRow.wideKeys == (Tryz.f3.params.toList ++ Rows.transNamesSpec.plain.varTypes Tryz.prog ++ Tryz.f3.resultTypes.toList).any (Tryz.prog.wideKeysFrom ·))) = true := by kernel_rfl
theorem transNames_c19 : (Rows.transNamesSpec.vars.all (Tryz.prog.varReadable ·)) = true := by kernel_rfl
theorem transNames_c20 : (Tryz.f3.resultTypes.all (fun t => Tryz.prog.readableRec t && decide (t < Tryz.prog.types.size))) = true := by kernel_rfl
theorem transNames_c21 : ((Rows.transNamesRow.ifacesOut == Tryz.f3.resultTypes.toList.any (Tryz.prog.ifacesRec ·))) = true := by kernel_rfl
theorem transNames_c22 : ((Rows.transNamesRow.loopsOut == Tryz.f3.resultTypes.toList.any (Tryz.prog.loopsFrom ·))) = true := by kernel_rfl
theorem transNames_c23 : ((Rows.transNamesRow.plainKeys == Tryz.prog.plainKeys)) = true := by kernel_rfl
theorem transNames_c24 : (Rows.transNamesRow.shortTexts.isNone) = true := by kernel_rfl
theorem transNames_c25 : (Tryz.prog.stopsHeard) = true := by kernel_rfl
theorem transNames_c26 : (Tryz.prog.mayEnter) = true := by kernel_rfl
theorem transNames_c27 : ((Rows.transNamesRow.lifted == Tryz.prog.liftsFinal)) = true := by kernel_rfl
theorem transNames_c28 : ((Tryz.prog.make == some Rows.transNamesRow.make)) = true := by kernel_rfl
theorem transNames_c30 : ((Rows.transNamesRow.pinned == Rows.transNamesRow.pinnedBy)) = true := by kernel_rfl
theorem transNames_c31 : ((Rows.transNamesRow.veiled == (Tryz.f3.params.toList ++ Rows.transNamesSpec.plain.varTypes Tryz.prog ++ Tryz.f3.resultTypes.toList).any (Tryz.prog.veiledRec ·))) = true := by kernel_rfl
theorem transNames_c32 : (Rows.transNamesRow.veiledFits Tryz.prog Tryz.f3.params.toList (Tryz.f3.params.toList ++ Rows.transNamesSpec.plain.varTypes Tryz.prog ++ Tryz.f3.resultTypes.toList)) = true := by kernel_rfl

theorem transNames_facts : joinedFacts Tryz.prog 3 Tryz.f3 Rows.transNamesSpec Rows.transNamesRow = true := by
  unfold joinedFacts
  simp only [Bool.and_eq_true]
  refine ⟨⟨⟨⟨⟨⟨⟨⟨⟨⟨⟨⟨⟨⟨⟨⟨⟨⟨⟨⟨⟨⟨⟨⟨⟨⟨⟨⟨⟨⟨⟨transNames_c1, transNames_c2⟩, transNames_c3⟩, transNames_c4⟩, transNames_c5⟩, transNames_c6⟩, transNames_c7⟩, transNames_c8⟩, transNames_c9⟩, transNames_c10⟩, transNames_c11⟩, transNames_c12⟩, transNames_c13⟩, transNames_c14⟩, transNames_c15⟩, transNames_c16⟩, transNames_c17⟩, transNames_c18⟩, transNames_c19⟩, transNames_c20⟩, transNames_c21⟩, transNames_c22⟩, transNames_c23⟩, transNames_c24⟩, transNames_c25⟩, transNames_c26⟩, transNames_c27⟩, transNames_c28⟩, ?_⟩, transNames_c30⟩, transNames_c31⟩, transNames_c32⟩
  kernel_rfl

end Go.Proofs.YtbfhilhkmicelaaGreat
