/-
  From a closed call's evaluation to what the model's call does; and what a law's row asks where old memory stays as it was.
-/
import Derived.Test.YtbfhilhkmicelaaGreatG3
import Derived.Test.YtbfhilhkmicelaaGreatEm28
import Derived.WalkKit
import Derived.ProofKit
import Derived.OpenShut
namespace Go.Em
open Go.ChangeShapes Go.WideShapes Go.ChangeAt Go.RowKit

/-- Old memory is as it was. -/
structure Same (w w' : World) : Prop where
  os : w'.os = w.os
  output : w'.output = w.output
  size : w.heap.size ≤ w'.heap.size
  keep : ∀ b, b < w.heap.size → w'.heap[b]? = w.heap[b]?

theorem Same.refl (w : World) : Same w w := ⟨rfl, rfl, Nat.le_refl _, fun _ _ => rfl⟩
theorem Same.trans {a b c : World} (h : Same a b) (h' : Same b c) : Same a c :=
  ⟨h'.os.trans h.os, h'.output.trans h.output, Nat.le_trans h.size h'.size, fun x hx => (h'.keep x (Nat.lt_of_lt_of_le hx h.size)).trans (h.keep x hx)⟩

theorem Same.keptBut {w w' : World} (h : Same w w') (may : MemPlace → Prop) : w.keptBut w' may := by
  refine ⟨h.os, h.output, fun i hi => ?_⟩
  rw [h.keep i hi]
  cases w.heap[i]? with
  | none => rfl
  | some o => cases o <;> simp

theorem Same.frozen {w w' : World} (h : Same w w') {a : Addr} (ha : a.block < w.heap.size) : w'.frozen? a = w.frozen? a := by
  unfold World.frozen?
  rw [h.keep _ ha]

def noMem : Pm := fun _ => none
def noHeap : Heap := ⟨.nil, 0, []⟩

theorem sim_none (w : World) : Sim noMem noHeap w :=
  by
  refine ⟨fun _ _ => rfl, ?_, ?_⟩
  · intro i o h; cases h
  · intro i j oi oj pi pj h; cases h

theorem ext_none {cx : Cx} (hx : cx.ext = fun _ => none) : ExtOk cx ∧ ExtChg cx :=
  by
  constructor <;> (intro f g h; rw [hx] at h; cases h)

/-- A call from no memory. -/
theorem closed_call {cx : Cx} (O : Ok cx ∧ Bd cx) (hx : cx.ext = fun _ => none) {n f : Nat} {args : List Value} {r : Fin} {H : Heap} (hc : callG cx n f args noHeap = some (r, H))
    {args' : Array Value} (hA : Vs noMem args args'.toList) (w : World) :
    Calls cx.P f args' w fun e w' => ∃ m', Sim m' H w' ∧ FinR m' r e ∧ Same w w' := by
  rw [callG_eq] at hc
  refine ((call_sound O.1 O.2 (ext_none hx).1 (ext_none hx).2 n f args noHeap r H hc).2 noMem w args' (sim_none w) hA).mono ?_
  rintro e w' ⟨m', hS, hP, hF⟩
  refine ⟨m', hS, hF, hP.os, hP.output, hP.size, fun b hb => hP.keep b hb ?_⟩
  rintro ⟨i, o, p, h, _⟩
  cases h

/-- A row's end where old memory is as it was. -/
theorem post_same {H : Type} {enc : TypeId × Value → H} {P : Program} {f : Func} {s : ChangeSpec} {apart fresh handsOn again : Bool} {W W' : World} {args : Array Value} {v : Value} {ds gs : List (DataW H)} {before pa pv : List MemPlace}
    (hW : DataW.Whole enc P f.params.toList s.vars apart W args.toList ds gs before)
    (hres : ∀ (b : Nat) (sp : Nat → Bool) (hd : Bool), DataW.TrodAll enc P W' b sp hd f.resultTypes.toList (v.resultList f.resultTypes.size) (s.fn H (ds ++ gs)).results [])
    (hargs : ∀ sp : Nat → Bool, (∀ p ∈ before, sp p.block = true) → DataW.TrodAll enc P W' 0 sp true f.params.toList args.toList (s.fn H (ds ++ gs)).args pa)
    (hvars : ∀ sp : Nat → Bool, (∀ p ∈ before, sp p.block = true) → DataW.TrodVars enc P W' sp s.vars (s.fn H (ds ++ gs)).vars pv)
    (hps : before = pa ++ pv) (hk : Same W W')
    (hok : ∀ (j : Nat) (t : TypeId) (r : Value), f.resultTypes[j]? = some t → (v.resultList f.resultTypes.size)[j]? = some r → Value.okWide P W' .any 0 t r) :
    s.post enc P f apart fresh handsOn again W args v W' := by
  have hlt : ∀ p ∈ before, p.block < W.heap.size := fun p hp => hW.lt p hp
  have hold : ∀ p ∈ before, (fun b => decide (b < W.heap.size)) p.block = true := fun p hp => by simpa using hlt p hp
  refine ⟨ds, gs, before, [], pa, pv, hW, hres _ _ _, hargs _ hold, hvars _ hold, World.keptBut_mono (fun p hp => ⟨hp, ?_⟩) (hk.keptBut (· ∈ before)), fun _ => ?_⟩
  · rw [hps, List.mem_append] at hp
    exact Or.inr hp
  · obtain ⟨_, _, _, _, _, hz, hn⟩ := hW
    refine ⟨hok, _, _, ([] ++ pa) ++ pv, ⟨[] ++ pa, pv, trodAll_append (hargs _ (fun _ _ => rfl)) (hres _ _ _), hvars _ (fun _ _ => rfl), rfl, ?_, ?_⟩, ?_⟩
    · intro b off hp
      have hp' : MemPlace.cell b off ∈ before := by rw [hps]; simpa using hp
      rw [hk.frozen (hlt _ hp')]
      exact hz b off hp'
    · intro ha
      have := hn ha
      rw [hps] at this
      simpa using this
    · intro p hp _
      rw [hps]
      simpa using hp

end Go.Em
