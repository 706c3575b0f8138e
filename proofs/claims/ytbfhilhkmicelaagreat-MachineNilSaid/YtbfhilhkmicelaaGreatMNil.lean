/-
  'MachineNil' returns true, whatever it is handed, and changes nothing that lay in memory before it. No conditions.
-/
import Derived.Test.YtbfhilhkmicelaaGreatRows
import Derived.Test.YtbfhilhkmicelaaGreatNil
import Derived.Test.YtbfhilhkmicelaaGreatOkTab
import Derived.Test.YtbfhilhkmicelaaGreatFacts8
import Derived.Test.YtbfhilhkmicelaaGreatRun8
namespace Go.Proofs.YtbfhilhkmicelaaGreat
open Go.ChangeShapes Go.WideShapes Go.ChangeAt Go.RowKit Go.Em

theorem own : ownKnob Tryz.prog.godebug = none := by kernel_rfl

theorem run_true {r : Option (Fin × Heap)} (h : isTrueRet r = true) : ∃ H, r = some (.ret (.bool true), H) := by
  unfold isTrueRet at h
  split at h
  · rename_i H
    exact ⟨H, rfl⟩
  · exact Bool.noConfusion h

theorem walk (v0 : Value) (hv : v0 = .slice none 0 0 ∨ ∃ b off len cap, v0 = .slice (some ⟨b, off, none⟩) len cap ∧ cap ≠ unk) (n : Int) (w : World) :
    Calls Tryz.prog 8 #[v0, .int .i64 n] w fun e w' => e = .returned (.bool true) ∧ Go.RowKit.Below w.heap.size w w' := by
  have fin : ∀ {H : Heap} {args : List Value} {m : Pm} {args' : Array Value}, (∀ i, 1 ≤ i → m i = none) → Vs m args args'.toList → callG cx 100000 8 args ⟨.nil, 1, []⟩ = some (.ret (.bool true), H) →
      Calls Tryz.prog 8 args' w fun e w' => e = .returned (.bool true) ∧ Go.RowKit.Below w.heap.size w w' := by
    intro H args m args' hm hA hr
    refine (open_call (cx := cx) cx_ok rfl hr hm hA w).mono ?_
    rintro e w' ⟨⟨m', _, hF⟩, hb⟩
    refine ⟨?_, hb⟩
    cases e with
    | returned v => exact congrArg Ending.returned (bool_inv hF)
    | panicked c => exact hF.elim
    | _ => exact hF.elim
  rcases hv with rfl | ⟨b, off, len, cap, rfl, hc⟩
  · obtain ⟨H, hr⟩ := run_true (run8n n)
    rw [callH_eq jt_ok] at hr
    exact fin (m := oneMem 0 0) (oneMem_none 0 0) (.cons (.flat rfl) (.cons (.int _ _ _) .nil)) hr
  · obtain ⟨H, hr⟩ := run_true (run8 len cap n)
    rw [callH_eq jt_ok] at hr
    exact fin (m := oneMem b off) (oneMem_none b off) (.cons (oneMem_slice b off len cap hc) (.cons (.int _ _ _) .nil)) hr

set_option maxRecDepth 100000 in
theorem lifted (os : Os) (started : os.Started) (H : Type) (enc : TypeId × Value → H) :
    ReturnsInHanded {} Tryz.checked os 8 .any (Rows.machineNilSpec.pre6 enc Tryz.prog Tryz.f8 Rows.machineNilRow.domain false) (Rows.machineNilSpec.post enc Tryz.prog Tryz.f8 false true false false) := by
  refine returnsInHanded_of_change (C := Tryz.checked) own started (by kernel_rfl) Tryz.func8
    (ChangeSpec.witness6 (enc := enc) (C := Tryz.checked) false ⟨#[], #[.slice none 0 0, .int .i64 0], []⟩ 8 (by kernel_rfl) (by kernel_rfl) (by kernel_rfl) (by kernel_rfl)) ?_
  intro W base args ds gs before hval0 hW hcnd _
  have hval : ∀ (j : Nat) t v, Tryz.f8.params[j]? = some t → args[j]? = some v → Value.okWide Tryz.prog W .any base t v := hval0
  have hW' := hW
  obtain ⟨p, q, hA0, hV, rfl, hfz, hnd⟩ := hW
  have hA : DataW.TrodAll enc Tryz.prog W 0 (fun _ => true) true Tryz.f8.params.toList args.toList ds p := hA0
  rw [Tryz.params8] at hA hval
  obtain ⟨v0, vs0, d0, ds0, p0, q0, hargs, rfl, rfl, h0, r0⟩ := trodAll_cons hA
  obtain ⟨v1, vs1, d1, ds1, p1, q1, rfl, rfl, rfl, h1, r1⟩ := trodAll_cons r0
  obtain ⟨rfl, rfl, rfl⟩ := trodAll_nil r1
  obtain rfl : args = #[v0, v1] := by cases args; simp_all
  obtain ⟨rfl, rfl⟩ := trodVars_none hV
  have hs := slice_forms Tryz.underlying55 (hval 0 55 v0 rfl rfl)
  obtain ⟨a1, rfl, rfl, rfl, w1⟩ := open_int Tryz.underlying3 (hval 1 3 v1 rfl rfl) h1
  clear hA0 hval0
  simp only [List.append_nil] at hW'
  refine (walk v0 hs a1 W).mono fun e W' ⟨he, hb⟩ => ?_
  subst he
  have hlt : ∀ x ∈ p0, x.block < W.heap.size := fun x hx => hW'.lt x (by simpa using hx)
  exact ⟨_, rfl, post_same (pa := p0 ++ ([] ++ [])) (pv := []) hW' (fun _ _ _ => (trodAll_cons_mk (shut_bool Tryz.underlying4 _) trodAll_mk0))
    (fun sp hsp => trodAll_cons_mk (WideElems.Trod_stays laidOut read55 row55 h0 (fun x hx => hb.same (hlt x hx)) (fun x hx => hsp x (by simpa using hx))) (trodAll_cons_mk (shut_int Tryz.underlying3 w1) trodAll_mk0)) (fun _ _ => rfl) (by simp)
    (Same.of_below hb) (ok_one (by kernel_rfl) rfl (okWide_bool_mk Tryz.underlying4 _))⟩

theorem over : Rows.machineNilRow.holds Tryz.pinned (OpenSpec.ofChange Rows.machineNilSpec) :=
  OpenClaim.holds_of_wide 8 Tryz.f8 rfl rfl rfl rfl rfl rfl rfl ⟨rfl, rfl, rfl, rfl, rfl⟩ rfl rfl rfl rfl rfl (by kernel_rfl) Tryz.func8 machineNil_facts
    (of_decide_eq_true (by kernel_rfl)) (by unfold Func.isWrapper; first | (rw [if_pos (by decide +kernel)]; kernel_rfl) | (rw [if_neg (by decide +kernel)]; exact ⟨rfl, rfl⟩))
    (fun os started H enc _ => lifted os started H enc)

/-- The statement. -/
theorem machineNil_holds : Rows.MachineNilSaid :=
  over
end Go.Proofs.YtbfhilhkmicelaaGreat
