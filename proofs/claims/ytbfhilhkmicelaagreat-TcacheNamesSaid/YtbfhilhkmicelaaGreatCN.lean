/-
  'TcacheNames' returns true, and changes nothing that lay in memory before it. No conditions.
-/
import Derived.Test.YtbfhilhkmicelaaGreatRows
import Derived.Test.YtbfhilhkmicelaaGreatEnd
import Derived.Test.YtbfhilhkmicelaaGreatOkTab
import Derived.Test.YtbfhilhkmicelaaGreatFacts5
import Derived.Test.YtbfhilhkmicelaaGreatRun5
namespace Go.Proofs.YtbfhilhkmicelaaGreat
open Go.ChangeShapes Go.WideShapes Go.ChangeAt Go.RowKit Go.Em

theorem own : ownKnob Tryz.prog.godebug = none := by kernel_rfl

theorem run_true {r : Option (Fin × Heap)} (h : isTrueRet r = true) : ∃ H, r = some (.ret (.bool true), H) := by
  unfold isTrueRet at h
  split at h
  · rename_i H
    exact ⟨H, rfl⟩
  · exact Bool.noConfusion h

theorem walk (w : World) : Calls Tryz.prog 5 #[] w fun e w' => e = .returned (.bool true) ∧ Same w w' := by
  obtain ⟨H, hr⟩ := run_true run5
  rw [callH_eq jt_ok] at hr
  refine (closed_call (cx := cx) cx_ok rfl hr (args' := #[]) .nil w).mono ?_
  rintro e w' ⟨m', _, hF, hs⟩
  refine ⟨?_, hs⟩
  cases e with
  | returned v => exact congrArg Ending.returned (bool_inv hF)
  | panicked c => exact hF.elim
  | _ => exact hF.elim

set_option maxRecDepth 100000 in
theorem lifted (os : Os) (started : os.Started) (H : Type) (enc : TypeId × Value → H) :
    ReturnsInHanded {} Tryz.checked os 5 .any (Rows.tcacheNamesSpec.pre6 enc Tryz.prog Tryz.f5 Rows.tcacheNamesRow.domain false) (Rows.tcacheNamesSpec.post enc Tryz.prog Tryz.f5 false true false false) := by
  refine returnsInHanded_of_change (C := Tryz.checked) own started (by kernel_rfl) Tryz.func5
    (ChangeSpec.witness6 (enc := enc) (C := Tryz.checked) false ⟨#[], #[], []⟩ 8 (by kernel_rfl) (by kernel_rfl) (by kernel_rfl) (by kernel_rfl)) ?_
  intro W base args ds gs before hval0 hW hcnd _
  have hW' := hW
  obtain ⟨p, q, hA0, hV, rfl, hfz, hnd⟩ := hW
  have hA : DataW.TrodAll enc Tryz.prog W 0 (fun _ => true) true Tryz.f5.params.toList args.toList ds p := hA0
  rw [Tryz.params5] at hA
  obtain ⟨hargs, rfl, rfl⟩ := trodAll_nil hA
  obtain rfl : args = #[] := by cases args; simp_all
  obtain ⟨rfl, rfl⟩ := trodVars_none hV
  refine (walk W).mono fun e W' ⟨he, hg⟩ => ?_
  subst he
  exact ⟨_, rfl, post_same (pa := []) (pv := []) hW' (fun _ _ _ => (trodAll_cons_mk (shut_bool Tryz.underlying4 _) trodAll_mk0)) (fun _ _ => trodAll_mk0) (fun _ _ => rfl) rfl
    hg (ok_one (by kernel_rfl) rfl (okWide_bool_mk Tryz.underlying4 _))⟩

theorem over : Rows.tcacheNamesRow.holds Tryz.pinned (OpenSpec.ofChange Rows.tcacheNamesSpec) :=
  OpenClaim.holds_of_wide 5 Tryz.f5 rfl rfl rfl rfl rfl rfl rfl ⟨rfl, rfl, rfl, rfl, rfl⟩ rfl rfl rfl rfl rfl (by kernel_rfl) Tryz.func5 tcacheNames_facts
    (of_decide_eq_true (by kernel_rfl)) (by unfold Func.isWrapper; first | (rw [if_pos (by decide +kernel)]; kernel_rfl) | (rw [if_neg (by decide +kernel)]; exact ⟨rfl, rfl⟩))
    (fun os started H enc _ => lifted os started H enc)

/-- The statement. -/
theorem tcacheNames_holds : Rows.TcacheNamesSaid :=
  over

end Go.Proofs.YtbfhilhkmicelaaGreat
