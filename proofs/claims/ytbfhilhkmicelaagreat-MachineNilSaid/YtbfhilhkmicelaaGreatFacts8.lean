/-
  What the row of 'machineNil' asks of the program as a whole.
-/
import Derived.Test.YtbfhilhkmicelaaGreatRows
import Derived.WalkKit
import Derived.ProofKit
import Derived.OpenShut
namespace Go.Proofs.YtbfhilhkmicelaaGreat
open Go.ChangeShapes Go.WideShapes Go.ChangeAt Go.RowKit

theorem machineNil_c1 : (Rows.machineNilRow.wf (OpenSpec.ofChange Rows.machineNilSpec)) = true := by kernel_rfl
theorem machineNil_c2 : (laidOutB Tryz.prog) = true := by kernel_rfl
theorem machineNil_c3 : (mapsRowed Tryz.prog) = true := by kernel_rfl
theorem machineNil_c4 : (Tryz.f8.params.all (Tryz.prog.readableRec ·)) = true := by kernel_rfl
theorem machineNil_c5 : (namedTie Tryz.prog Rows.machineNilRow.named Rows.machineNilSpec.vars) = true := by kernel_rfl
theorem machineNil_c6 : ((Rows.machineNilRow.stops == [])) = true := by kernel_rfl
theorem machineNil_c7 : ((Tryz.prog.stops == [])) = true := by kernel_rfl
theorem machineNil_c8 : ((Rows.machineNilRow.knobs == [])) = true := by kernel_rfl
theorem machineNil_c9 : ((Tryz.prog.stopKnobs == [])) = true := by kernel_rfl
theorem machineNil_c10 : ((Rows.machineNilRow.inPlace == Tryz.prog.inPlace 8)) = true := by kernel_rfl
theorem machineNil_c11 : ((Rows.machineNilRow.unfollowed == Tryz.prog.unfollowed 8)) = true := by kernel_rfl
theorem machineNil_c12 : ((Rows.machineNilRow.recurses == Tryz.prog.recurses 8)) = true := by kernel_rfl
theorem machineNil_c13 : ((Rows.machineNilRow.named == Tryz.prog.varsNamed 8)) = true := by kernel_rfl
theorem machineNil_c14 : ((Rows.machineNilRow.maps == (Tryz.f8.params.toList ++ Rows.machineNilSpec.plain.varTypes Tryz.prog).any (Tryz.prog.mapsRec ·))) = true := by kernel_rfl
theorem machineNil_c15 : ((Rows.machineNilRow.ifaces == (Tryz.f8.params.toList ++ Rows.machineNilSpec.plain.varTypes Tryz.prog).any (Tryz.prog.ifacesRec ·))) = true := by kernel_rfl
theorem machineNil_c16 : ((Rows.machineNilRow.mapsOut == Tryz.prog.mapsAmong Tryz.f8.resultTypes.toList)) = true := by kernel_rfl
theorem machineNil_c17 : ((Rows.machineNilRow.loops == (Tryz.f8.params.toList ++ Rows.machineNilSpec.plain.varTypes Tryz.prog).any (Tryz.prog.loopsFrom ·))) = true := by kernel_rfl
theorem machineNil_c18 : ((Rows.machineNilRow.wideKeys == (Tryz.f8.params.toList ++ Rows.machineNilSpec.plain.varTypes Tryz.prog ++ Tryz.f8.resultTypes.toList).any (Tryz.prog.wideKeysFrom ·))) = true := by kernel_rfl
theorem machineNil_c19 : (Rows.machineNilSpec.vars.all (Tryz.prog.varReadable ·)) = true := by kernel_rfl
theorem machineNil_c20 : (Tryz.f8.resultTypes.all (fun t => Tryz.prog.readableRec t && decide (t < Tryz.prog.types.size))) = true := by kernel_rfl
theorem machineNil_c21 : ((Rows.machineNilRow.ifacesOut == Tryz.f8.resultTypes.toList.any (Tryz.prog.ifacesRec ·))) = true := by kernel_rfl
theorem machineNil_c22 : ((Rows.machineNilRow.loopsOut == Tryz.f8.resultTypes.toList.any (Tryz.prog.loopsFrom ·))) = true := by kernel_rfl
theorem machineNil_c23 : ((Rows.machineNilRow.plainKeys == Tryz.prog.plainKeys)) = true := by kernel_rfl
theorem machineNil_c24 : (Rows.machineNilRow.shortTexts.isNone) = true := by kernel_rfl
theorem machineNil_c25 : (Tryz.prog.stopsHeard) = true := by kernel_rfl
theorem machineNil_c26 : (Tryz.prog.mayEnter) = true := by kernel_rfl
theorem machineNil_c27 : ((Rows.machineNilRow.lifted == Tryz.prog.liftsFinal)) = true := by kernel_rfl
theorem machineNil_c28 : ((Tryz.prog.make == some Rows.machineNilRow.make)) = true := by kernel_rfl
theorem machineNil_c30 : ((Rows.machineNilRow.pinned == Rows.machineNilRow.pinnedBy)) = true := by kernel_rfl
theorem machineNil_c31 : ((Rows.machineNilRow.veiled == (Tryz.f8.params.toList ++ Rows.machineNilSpec.plain.varTypes Tryz.prog ++ Tryz.f8.resultTypes.toList).any (Tryz.prog.veiledRec ·))) = true := by kernel_rfl
theorem machineNil_c32 : (Rows.machineNilRow.veiledFits Tryz.prog Tryz.f8.params.toList (Tryz.f8.params.toList ++ Rows.machineNilSpec.plain.varTypes Tryz.prog ++ Tryz.f8.resultTypes.toList)) = true := by kernel_rfl

theorem machineNil_facts : joinedFacts Tryz.prog 8 Tryz.f8 Rows.machineNilSpec Rows.machineNilRow = true := by
  unfold joinedFacts
  simp only [Bool.and_eq_true]
  refine ⟨⟨⟨⟨⟨⟨⟨⟨⟨⟨⟨⟨⟨⟨⟨⟨⟨⟨⟨⟨⟨⟨⟨⟨⟨⟨⟨⟨⟨⟨⟨machineNil_c1, machineNil_c2⟩, machineNil_c3⟩, machineNil_c4⟩, machineNil_c5⟩, machineNil_c6⟩, machineNil_c7⟩, machineNil_c8⟩, machineNil_c9⟩, machineNil_c10⟩, machineNil_c11⟩, machineNil_c12⟩, machineNil_c13⟩, machineNil_c14⟩, machineNil_c15⟩, machineNil_c16⟩, machineNil_c17⟩, machineNil_c18⟩, machineNil_c19⟩, machineNil_c20⟩, machineNil_c21⟩, machineNil_c22⟩, machineNil_c23⟩, machineNil_c24⟩, machineNil_c25⟩, machineNil_c26⟩, machineNil_c27⟩, machineNil_c28⟩, ?_⟩, machineNil_c30⟩, machineNil_c31⟩, machineNil_c32⟩
  kernel_rfl

end Go.Proofs.YtbfhilhkmicelaaGreat
