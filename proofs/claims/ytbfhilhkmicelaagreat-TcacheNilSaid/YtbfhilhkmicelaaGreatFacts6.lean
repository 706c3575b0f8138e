/-
  What the row of 'tcacheNil' asks of the program as a whole.
-/
import Derived.Test.YtbfhilhkmicelaaGreatRows
import Derived.WalkKit
import Derived.ProofKit
import Derived.OpenShut
namespace Go.Proofs.YtbfhilhkmicelaaGreat
open Go.ChangeShapes Go.WideShapes Go.ChangeAt Go.RowKit

theorem tcacheNil_c1 : (Rows.tcacheNilRow.wf (OpenSpec.ofChange Rows.tcacheNilSpec)) = true := by kernel_rfl
theorem tcacheNil_c2 : (laidOutB Tryz.prog) = true := by kernel_rfl
theorem tcacheNil_c3 : (mapsRowed Tryz.prog) = true := by kernel_rfl
theorem tcacheNil_c4 : (Tryz.f6.params.all (Tryz.prog.readableRec ·)) = true := by kernel_rfl
theorem tcacheNil_c5 : (namedTie Tryz.prog Rows.tcacheNilRow.named Rows.tcacheNilSpec.vars) = true := by kernel_rfl
theorem tcacheNil_c6 : ((Rows.tcacheNilRow.stops == [])) = true := by kernel_rfl
theorem tcacheNil_c7 : ((Tryz.prog.stops == [])) = true := by kernel_rfl
theorem tcacheNil_c8 : ((Rows.tcacheNilRow.knobs == [])) = true := by kernel_rfl
theorem tcacheNil_c9 : ((Tryz.prog.stopKnobs == [])) = true := by kernel_rfl
theorem tcacheNil_c10 : ((Rows.tcacheNilRow.inPlace == Tryz.prog.inPlace 6)) = true := by kernel_rfl
theorem tcacheNil_c11 : ((Rows.tcacheNilRow.unfollowed == Tryz.prog.unfollowed 6)) = true := by kernel_rfl
theorem tcacheNil_c12 : ((Rows.tcacheNilRow.recurses == Tryz.prog.recurses 6)) = true := by kernel_rfl
theorem tcacheNil_c13 : ((Rows.tcacheNilRow.named == Tryz.prog.varsNamed 6)) = true := by kernel_rfl
theorem tcacheNil_c14 : ((Rows.tcacheNilRow.maps == (Tryz.f6.params.toList ++ Rows.tcacheNilSpec.plain.varTypes Tryz.prog).any (Tryz.prog.mapsRec ·))) = true := by kernel_rfl
theorem tcacheNil_c15 : ((Rows.tcacheNilRow.ifaces == (Tryz.f6.params.toList ++ Rows.tcacheNilSpec.plain.varTypes Tryz.prog).any (Tryz.prog.ifacesRec ·))) = true := by kernel_rfl
theorem tcacheNil_c16 : ((Rows.tcacheNilRow.mapsOut == Tryz.prog.mapsAmong Tryz.f6.resultTypes.toList)) = true := by kernel_rfl
theorem tcacheNil_c17 : ((Rows.tcacheNilRow.loops == (Tryz.f6.params.toList ++ Rows.tcacheNilSpec.plain.varTypes Tryz.prog).any (Tryz.prog.loopsFrom ·))) = true := by kernel_rfl
theorem tcacheNil_c18 : ((Rows.tcacheNilRow.wideKeys == (Tryz.f6.params.toList ++ Rows.tcacheNilSpec.plain.varTypes Tryz.prog ++ Tryz.f6.resultTypes.toList).any (Tryz.prog.wideKeysFrom ·))) = true := by kernel_rfl
theorem tcacheNil_c19 : (Rows.tcacheNilSpec.vars.all (Tryz.prog.varReadable ·)) = true := by kernel_rfl
theorem tcacheNil_c20 : (Tryz.f6.resultTypes.all (fun t => Tryz.prog.readableRec t && decide (t < Tryz.prog.types.size))) = true := by kernel_rfl
theorem tcacheNil_c21 : ((Rows.tcacheNilRow.ifacesOut == Tryz.f6.resultTypes.toList.any (Tryz.prog.ifacesRec ·))) = true := by kernel_rfl
theorem tcacheNil_c22 : ((Rows.tcacheNilRow.loopsOut == Tryz.f6.resultTypes.toList.any (Tryz.prog.loopsFrom ·))) = true := by kernel_rfl
theorem tcacheNil_c23 : ((Rows.tcacheNilRow.plainKeys == Tryz.prog.plainKeys)) = true := by kernel_rfl
theorem tcacheNil_c24 : (Rows.tcacheNilRow.shortTexts.isNone) = true := by kernel_rfl
theorem tcacheNil_c25 : (Tryz.prog.stopsHeard) = true := by kernel_rfl
theorem tcacheNil_c26 : (Tryz.prog.mayEnter) = true := by kernel_rfl
theorem tcacheNil_c27 : ((Rows.tcacheNilRow.lifted == Tryz.prog.liftsFinal)) = true := by kernel_rfl
theorem tcacheNil_c28 : ((Tryz.prog.make == some Rows.tcacheNilRow.make)) = true := by kernel_rfl
theorem tcacheNil_c30 : ((Rows.tcacheNilRow.pinned == Rows.tcacheNilRow.pinnedBy)) = true := by kernel_rfl
theorem tcacheNil_c31 : ((Rows.tcacheNilRow.veiled == (Tryz.f6.params.toList ++ Rows.tcacheNilSpec.plain.varTypes Tryz.prog ++ Tryz.f6.resultTypes.toList).any (Tryz.prog.veiledRec ·))) = true := by kernel_rfl
theorem tcacheNil_c32 : (Rows.tcacheNilRow.veiledFits Tryz.prog Tryz.f6.params.toList (Tryz.f6.params.toList ++ Rows.tcacheNilSpec.plain.varTypes Tryz.prog ++ Tryz.f6.resultTypes.toList)) = true := by kernel_rfl

theorem tcacheNil_facts : joinedFacts Tryz.prog 6 Tryz.f6 Rows.tcacheNilSpec Rows.tcacheNilRow = true := by
  unfold joinedFacts
  simp only [Bool.and_eq_true]
  refine ⟨⟨⟨⟨⟨⟨⟨⟨⟨⟨⟨⟨⟨⟨⟨⟨⟨⟨⟨⟨⟨⟨⟨⟨⟨⟨⟨⟨⟨⟨⟨tcacheNil_c1, tcacheNil_c2⟩, tcacheNil_c3⟩, tcacheNil_c4⟩, tcacheNil_c5⟩, tcacheNil_c6⟩, tcacheNil_c7⟩, tcacheNil_c8⟩, tcacheNil_c9⟩, tcacheNil_c10⟩, tcacheNil_c11⟩, tcacheNil_c12⟩, tcacheNil_c13⟩, tcacheNil_c14⟩, tcacheNil_c15⟩, tcacheNil_c16⟩, tcacheNil_c17⟩, tcacheNil_c18⟩, tcacheNil_c19⟩, tcacheNil_c20⟩, tcacheNil_c21⟩, tcacheNil_c22⟩, tcacheNil_c23⟩, tcacheNil_c24⟩, tcacheNil_c25⟩, tcacheNil_c26⟩, tcacheNil_c27⟩, tcacheNil_c28⟩, ?_⟩, tcacheNil_c30⟩, tcacheNil_c31⟩, tcacheNil_c32⟩
  kernel_rfl

end Go.Proofs.YtbfhilhkmicelaaGreat
