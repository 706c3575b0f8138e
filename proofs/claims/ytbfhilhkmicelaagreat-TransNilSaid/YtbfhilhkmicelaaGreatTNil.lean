/-
  'TransNil' returns true, whatever it is handed, and changes nothing that lay in memory before it. No conditions.
-/
import Derived.Test.YtbfhilhkmicelaaGreatRows
import Derived.Test.YtbfhilhkmicelaaGreatAwk
import Derived.Test.YtbfhilhkmicelaaGreatOkTab
import Derived.Test.YtbfhilhkmicelaaGreatFacts4
import Derived.Test.YtbfhilhkmicelaaGreatRunA9
import Derived.Test.YtbfhilhkmicelaaGreatRun4
namespace Go.Proofs.YtbfhilhkmicelaaGreat
open Go.ChangeShapes Go.WideShapes Go.ChangeAt Go.RowKit Go.Em

theorem own : ownKnob Tryz.prog.godebug = none := by kernel_rfl

theorem run_true {r : Option (Fin × Heap)} (h : isTrueRet r = true) : ∃ H, r = some (.ret (.bool true), H) := by
  unfold isTrueRet at h
  split at h
  · rename_i H
    exact ⟨H, rfl⟩
  · exact Bool.noConfusion h

theorem awakeOk : ExtOk (withA cx 9) ∧ ExtChg (withA cx 9) := by
  obtain ⟨H, hr⟩ := run_true runA
  rw [callH_eq jt_ok] at hr
  exact ext_withA cx_ok rfl hr

theorem res_true (f : Nat → Int) (g : Nat → Bool) (n : Int) : ∃ H, callG (withA cx 9) 100000 4 (argsC f g n) ⟨.nil, 0, []⟩ = some (.ret (.bool true), H) := by
  have h : retB (callH (withA cx 9) jt 100000 4 (argsC f g n) ⟨.nil, 0, []⟩) = true := (run4 f g n).trans (eqL_mkC f g cpuK 0)
  rw [callH_eq (jt_oka 9)] at h
  exact retB_true h

theorem walk (f : Nat → Int) (g : Nat → Bool) (n : Int) (w : World) :
    Calls Tryz.prog 4 #[.agg (mkC f g cpuK 0).toArray, .int .i64 n] w fun e w' => e = .returned (.bool true) ∧ Go.RowKit.Below w.heap.size w w' := by
  obtain ⟨H, hr⟩ := res_true f g n
  refine (open_callA (cx := withA cx 9) (ok_withA cx_ok 9) awakeOk hr (m := noMem) (fun _ _ => rfl) (args' := #[.agg (mkC f g cpuK 0).toArray, .int .i64 n])
    (.cons (agg_iff.2 (Vs.mkC noMem f g cpuK 0)) (.cons (.int _ _ _) .nil)) w).mono ?_
  rintro e w' ⟨⟨m', _, hF⟩, hb⟩
  refine ⟨?_, hb⟩
  cases e with
  | returned v => exact congrArg Ending.returned (bool_inv hF)
  | panicked c => exact hF.elim
  | _ => exact hF.elim

set_option maxRecDepth 100000 in
theorem lifted (os : Os) (started : os.Started) (H : Type) (enc : TypeId × Value → H) :
    ReturnsInHanded {} Tryz.checked os 4 .any (Rows.transNilSpec.pre6 enc Tryz.prog Tryz.f4 Rows.transNilRow.domain false) (Rows.transNilSpec.post enc Tryz.prog Tryz.f4 false true false false) := by
  refine returnsInHanded_of_change (C := Tryz.checked) own started (by kernel_rfl) Tryz.func4
    (ChangeSpec.witness6 (enc := enc) (C := Tryz.checked) false ⟨#[], #[.agg (mkC (fun _ => 0) (fun _ => false) cpuK 0).toArray, .int .i64 0], []⟩ 8 (by kernel_rfl) (by kernel_rfl) (by kernel_rfl) (by kernel_rfl)) ?_
  intro W base args ds gs before hval0 hW hcnd _
  have hval : ∀ (j : Nat) t v, Tryz.f4.params[j]? = some t → args[j]? = some v → Value.okWide Tryz.prog W .any base t v := hval0
  have hW' := hW
  obtain ⟨p, q, hA0, hV, rfl, hfz, hnd⟩ := hW
  have hA : DataW.TrodAll enc Tryz.prog W 0 (fun _ => true) true Tryz.f4.params.toList args.toList ds p := hA0
  rw [Tryz.params4] at hA hval
  obtain ⟨v0, vs0, d0, ds0, p0, q0, hargs, rfl, rfl, h0, r0⟩ := trodAll_cons hA
  obtain ⟨v1, vs1, d1, ds1, p1, q1, rfl, rfl, rfl, h1, r1⟩ := trodAll_cons r0
  obtain ⟨rfl, rfl, rfl⟩ := trodAll_nil r1
  obtain rfl : args = #[v0, v1] := by cases args; simp_all
  obtain ⟨rfl, rfl⟩ := trodVars_none hV
  obtain ⟨f, g, hv⟩ := struct_forms Tryz.underlying34 (hval 0 34 v0 rfl rfl) cpuT_ok (ks := cpuK) cpuSize cpuLen cpu_kinds
  subst hv
  obtain ⟨a1, rfl, rfl, rfl, w1⟩ := open_int Tryz.underlying3 (hval 1 3 v1 rfl rfl) h1
  clear hA0 hval0
  simp only [List.append_nil] at hW'
  refine (walk f g a1 W).mono fun e W' ⟨he, hb⟩ => ?_
  subst he
  have hlt : ∀ x ∈ p0, x.block < W.heap.size := fun x hx => hW'.lt x (by simpa using hx)
  exact ⟨_, rfl, post_same (pa := p0 ++ ([] ++ [])) (pv := []) hW' (fun _ _ _ => (trodAll_cons_mk (shut_bool Tryz.underlying4 _) trodAll_mk0))
    (fun sp hsp => trodAll_cons_mk (WideElems.Trod_stays laidOut read34 row34 h0 (fun x hx => hb.same (hlt x hx)) (fun x hx => hsp x (by simpa using hx))) (trodAll_cons_mk (shut_int Tryz.underlying3 w1) trodAll_mk0)) (fun _ _ => rfl) (by simp)
    (Same.of_below hb) (ok_one (by kernel_rfl) rfl (okWide_bool_mk Tryz.underlying4 _))⟩

theorem over : Rows.transNilRow.holds Tryz.pinned (OpenSpec.ofChange Rows.transNilSpec) :=
  OpenClaim.holds_of_wide 4 Tryz.f4 rfl rfl rfl rfl rfl rfl rfl ⟨rfl, rfl, rfl, rfl, rfl⟩ rfl rfl rfl rfl rfl (by kernel_rfl) Tryz.func4 transNil_facts
    (of_decide_eq_true (by kernel_rfl)) (by unfold Func.isWrapper; first | (rw [if_pos (by decide +kernel)]; kernel_rfl) | (rw [if_neg (by decide +kernel)]; exact ⟨rfl, rfl⟩))
    (fun os started H enc _ => lifted os started H enc)

/-- The statement. -/
theorem transNil_holds : Rows.TransNilSaid :=
  over
end Go.Proofs.YtbfhilhkmicelaaGreat
