/-
  What the row of 'transCounts' asks of the program as a whole.
-/
import Derived.Test.YtpomandkgdmadaaGreatRows
import Derived.WalkKit
import Derived.ProofKit
import Derived.OpenShut
namespace Go.Proofs.YtpomandkgdmadaaGreat
open Go.ChangeShapes Go.WideShapes Go.ChangeAt Go.RowKit

theorem transCounts_c1 : (Rows.transCountsRow.wf (OpenSpec.ofChange Rows.transCountsSpec)) = true := by kernel_rfl
theorem transCounts_c2 : (laidOutB Tryz.prog) = true := by kernel_rfl
theorem transCounts_c3 : (mapsRowed Tryz.prog) = true := by kernel_rfl
theorem transCounts_c4 : (Tryz.f3.params.all (Tryz.prog.readableRec ·)) = true := by kernel_rfl
theorem transCounts_c5 : (namedTie Tryz.prog Rows.transCountsRow.named Rows.transCountsSpec.vars) = true := by kernel_rfl
theorem transCounts_c6 : ((Rows.transCountsRow.stops == [])) = true := by kernel_rfl
theorem transCounts_c7 : ((Tryz.prog.stops == [])) = true := by kernel_rfl
theorem transCounts_c8 : ((Rows.transCountsRow.knobs == [])) = true := by kernel_rfl
theorem transCounts_c9 : ((Tryz.prog.stopKnobs == [])) = true := by kernel_rfl
theorem transCounts_c10 : ((Rows.transCountsRow.inPlace == Tryz.prog.inPlace 3)) = true := by kernel_rfl
theorem transCounts_c11 : ((Rows.transCountsRow.unfollowed == Tryz.prog.unfollowed 3)) = true := by kernel_rfl
theorem transCounts_c12 : ((Rows.transCountsRow.recurses == Tryz.prog.recurses 3)) = true := by kernel_rfl
theorem transCounts_c13 : ((Rows.transCountsRow.named == Tryz.prog.varsNamed 3)) = true := by kernel_rfl
theorem transCounts_c14 : ((Rows.transCountsRow.maps == (Tryz.f3.params.toList ++ Rows.transCountsSpec.plain.varTypes Tryz.prog).any (Tryz.prog.mapsRec ·))) = true := by kernel_rfl
theorem transCounts_c15 : ((Rows.transCountsRow.ifaces == (Tryz.f3.params.toList ++ Rows.transCountsSpec.plain.varTypes Tryz.prog).any (Tryz.prog.ifacesRec ·))) = true := by kernel_rfl
theorem transCounts_c16 : ((Rows.transCountsRow.mapsOut == Tryz.prog.mapsAmong Tryz.f3.resultTypes.toList)) = true := by kernel_rfl
theorem transCounts_c17 : ((Rows.transCountsRow.loops == (Tryz.f3.params.toList ++ Rows.transCountsSpec.plain.varTypes Tryz.prog).any (Tryz.prog.loopsFrom ·))) = true := by kernel_rfl
theorem transCounts_c18 : ((Rows.transCountsRow.wideKeys == (Tryz.f3.params.toList ++ Rows.transCountsSpec.plain.varTypes Tryz.prog ++ Tryz.f3.resultTypes.toList).any (Tryz.prog.wideKeysFrom ·))) = true := by kernel_rfl
theorem transCounts_c19 : (Rows.transCountsSpec.vars.all (Tryz.prog.varReadable ·)) = true := by kernel_rfl
theorem transCounts_c20 : (Tryz.f3.resultTypes.all (fun t => Tryz.prog.readableRec t && decide (t < Tryz.prog.types.size))) = true := by kernel_rfl
theorem transCounts_c21 : ((Rows.transCountsRow.ifacesOut == Tryz.f3.resultTypes.toList.any (Tryz.prog.ifacesRec ·))) = true := by kernel_rfl
theorem transCounts_c22 : ((Rows.transCountsRow.loopsOut == Tryz.f3.resultTypes.toList.any (Tryz.prog.loopsFrom ·))) = true := by kernel_rfl
theorem transCounts_c23 : ((Rows.transCountsRow.plainKeys == Tryz.prog.plainKeys)) = true := by kernel_rfl
theorem transCounts_c24 : (Rows.transCountsRow.shortTexts.isNone) = true := by kernel_rfl
theorem transCounts_c25 : (Tryz.prog.stopsHeard) = true := by kernel_rfl
theorem transCounts_c26 : (Tryz.prog.mayEnter) = true := by kernel_rfl
theorem transCounts_c27 : ((Rows.transCountsRow.lifted == Tryz.prog.liftsFinal)) = true := by kernel_rfl
theorem transCounts_c28 : ((Tryz.prog.make == some Rows.transCountsRow.make)) = true := by kernel_rfl
theorem transCounts_c30 : ((Rows.transCountsRow.pinned == Rows.transCountsRow.pinnedBy)) = true := by kernel_rfl
theorem transCounts_c31 : ((Rows.transCountsRow.veiled == (Tryz.f3.params.toList ++ Rows.transCountsSpec.plain.varTypes Tryz.prog ++ Tryz.f3.resultTypes.toList).any (Tryz.prog.veiledRec ·))) = true := by kernel_rfl
theorem transCounts_c32 : (Rows.transCountsRow.veiledFits Tryz.prog Tryz.f3.params.toList (Tryz.f3.params.toList ++ Rows.transCountsSpec.plain.varTypes Tryz.prog ++ Tryz.f3.resultTypes.toList)) = true := by kernel_rfl

theorem transCounts_facts : joinedFacts Tryz.prog 3 Tryz.f3 Rows.transCountsSpec Rows.transCountsRow = true := by
  unfold joinedFacts
  simp only [Bool.and_eq_true]
  refine ⟨⟨⟨⟨⟨⟨⟨⟨⟨⟨⟨⟨⟨⟨⟨⟨⟨⟨⟨⟨⟨⟨⟨⟨⟨⟨⟨⟨⟨⟨⟨transCounts_c1, transCounts_c2⟩, transCounts_c3⟩, transCounts_c4⟩, transCounts_c5⟩, transCounts_c6⟩, transCounts_c7⟩, transCounts_c8⟩, transCounts_c9⟩, transCounts_c10⟩, transCounts_c11⟩, transCounts_c12⟩, transCounts_c13⟩, transCounts_c14⟩, transCounts_c15⟩, transCounts_c16⟩, transCounts_c17⟩, transCounts_c18⟩, transCounts_c19⟩, transCounts_c20⟩, transCounts_c21⟩, transCounts_c22⟩, transCounts_c23⟩, transCounts_c24⟩, transCounts_c25⟩, transCounts_c26⟩, transCounts_c27⟩, transCounts_c28⟩, ?_⟩, transCounts_c30⟩, transCounts_c31⟩, transCounts_c32⟩
  kernel_rfl

end Go.Proofs.YtpomandkgdmadaaGreat
