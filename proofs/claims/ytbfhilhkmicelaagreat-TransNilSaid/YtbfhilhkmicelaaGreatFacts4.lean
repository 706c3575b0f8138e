/-
  What the row of 'transNil' asks of the program as a whole.
-/
import Derived.Test.YtbfhilhkmicelaaGreatRows
import Derived.WalkKit
import Derived.ProofKit
import Derived.OpenShut
namespace Go.Proofs.YtbfhilhkmicelaaGreat
open Go.ChangeShapes Go.WideShapes Go.ChangeAt Go.RowKit

theorem transNil_c1 : (Rows.transNilRow.wf (OpenSpec.ofChange Rows.transNilSpec)) = true := by kernel_rfl
theorem transNil_c2 : (laidOutB Tryz.prog) = true := by kernel_rfl
theorem transNil_c3 : (mapsRowed Tryz.prog) = true := by kernel_rfl
theorem transNil_c4 : (Tryz.f4.params.all (Tryz.prog.readableRec ·)) = true := by kernel_rfl
theorem transNil_c5 : (namedTie Tryz.prog Rows.transNilRow.named Rows.transNilSpec.vars) = true := by kernel_rfl
theorem transNil_c6 : ((Rows.transNilRow.stops == [])) = true := by kernel_rfl
theorem transNil_c7 : ((Tryz.prog.stops == [])) = true := by kernel_rfl
theorem transNil_c8 : ((Rows.transNilRow.knobs == [])) = true := by kernel_rfl
theorem transNil_c9 : ((Tryz.prog.stopKnobs == [])) = true := by kernel_rfl
theorem transNil_c10 : ((Rows.transNilRow.inPlace == Tryz.prog.inPlace 4)) = true := by kernel_rfl
theorem transNil_c11 : ((Rows.transNilRow.unfollowed == Tryz.prog.unfollowed 4)) = true := by kernel_rfl
theorem transNil_c12 : ((Rows.transNilRow.recurses == Tryz.prog.recurses 4)) = true := by kernel_rfl
theorem transNil_c13 : ((Rows.transNilRow.named == Tryz.prog.varsNamed 4)) = true := by kernel_rfl
theorem transNil_c14 : ((Rows.transNilRow.maps == (Tryz.f4.params.toList ++ Rows.transNilSpec.plain.varTypes Tryz.prog).any (Tryz.prog.mapsRec ·))) = true := by kernel_rfl
theorem transNil_c15 : ((Rows.transNilRow.ifaces == (Tryz.f4.params.toList ++ Rows.transNilSpec.plain.varTypes Tryz.prog).any (Tryz.prog.ifacesRec ·))) = true := by kernel_rfl
theorem transNil_c16 : ((Rows.transNilRow.mapsOut == Tryz.prog.mapsAmong Tryz.f4.resultTypes.toList)) = true := by kernel_rfl
theorem transNil_c17 : ((Rows.transNilRow.loops == (Tryz.f4.params.toList ++ Rows.transNilSpec.plain.varTypes Tryz.prog).any (Tryz.prog.loopsFrom ·))) = true := by kernel_rfl
theorem transNil_c18 : ((Rows.transNilRow.wideKeys == (Tryz.f4.params.toList ++ Rows.transNilSpec.plain.varTypes Tryz.prog ++ Tryz.f4.resultTypes.toList).any (Tryz.prog.wideKeysFrom ·))) = true := by kernel_rfl
theorem transNil_c19 : (Rows.transNilSpec.vars.all (Tryz.prog.varReadable ·)) = true := by kernel_rfl
theorem transNil_c20 : (Tryz.f4.resultTypes.all (fun t => Tryz.prog.readableRec t && decide (t < Tryz.prog.types.size))) = true := by kernel_rfl
theorem transNil_c21 : ((Rows.transNilRow.ifacesOut == Tryz.f4.resultTypes.toList.any (Tryz.prog.ifacesRec ·))) = true := by kernel_rfl
theorem transNil_c22 : ((Rows.transNilRow.loopsOut == Tryz.f4.resultTypes.toList.any (Tryz.prog.loopsFrom ·))) = true := by kernel_rfl
theorem transNil_c23 : ((Rows.transNilRow.plainKeys == Tryz.prog.plainKeys)) = true := by kernel_rfl
theorem transNil_c24 : (Rows.transNilRow.shortTexts.isNone) = true := by kernel_rfl
theorem transNil_c25 : (Tryz.prog.stopsHeard) = true := by kernel_rfl
theorem transNil_c26 : (Tryz.prog.mayEnter) = true := by kernel_rfl
theorem transNil_c27 : ((Rows.transNilRow.lifted == Tryz.prog.liftsFinal)) = true := by kernel_rfl
theorem transNil_c28 : ((Tryz.prog.make == some Rows.transNilRow.make)) = true := by kernel_rfl
theorem transNil_c30 : ((Rows.transNilRow.pinned == Rows.transNilRow.pinnedBy)) = true := by kernel_rfl
theorem transNil_c31 : ((Rows.transNilRow.veiled == (Tryz.f4.params.toList ++ Rows.transNilSpec.plain.varTypes Tryz.prog ++ Tryz.f4.resultTypes.toList).any (Tryz.prog.veiledRec ·))) = true := by kernel_rfl
theorem transNil_c32 : (Rows.transNilRow.veiledFits Tryz.prog Tryz.f4.params.toList (Tryz.f4.params.toList ++ Rows.transNilSpec.plain.varTypes Tryz.prog ++ Tryz.f4.resultTypes.toList)) = true := by kernel_rfl

theorem transNil_facts : joinedFacts Tryz.prog 4 Tryz.f4 Rows.transNilSpec Rows.transNilRow = true := by
  unfold joinedFacts
  simp only [Bool.and_eq_true]
  refine ⟨⟨⟨⟨⟨⟨⟨⟨⟨⟨⟨⟨⟨⟨⟨⟨⟨⟨⟨⟨⟨⟨⟨⟨⟨⟨⟨⟨⟨⟨⟨transNil_c1, transNil_c2⟩, transNil_c3⟩, transNil_c4⟩, transNil_c5⟩, transNil_c6⟩, transNil_c7⟩, transNil_c8⟩, transNil_c9⟩, transNil_c10⟩, transNil_c11⟩, transNil_c12⟩, transNil_c13⟩, transNil_c14⟩, transNil_c15⟩, transNil_c16⟩, transNil_c17⟩, transNil_c18⟩, transNil_c19⟩, transNil_c20⟩, transNil_c21⟩, transNil_c22⟩, transNil_c23⟩, transNil_c24⟩, transNil_c25⟩, transNil_c26⟩, transNil_c27⟩, transNil_c28⟩, ?_⟩, transNil_c30⟩, transNil_c31⟩, transNil_c32⟩
  kernel_rfl

end Go.Proofs.YtbfhilhkmicelaaGreat
