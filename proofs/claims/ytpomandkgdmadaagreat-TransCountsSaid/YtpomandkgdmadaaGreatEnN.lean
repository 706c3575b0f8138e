/-
  From a closed call's evaluation to what the model's call does; and what a law's row asks where old memory stays as it was.
-/
import Derived.Test.YtpomandkgdmadaaGreatGg
import Derived.Test.YtpomandkgdmadaaGreatEmC
import Derived.WalkKit
import Derived.ProofKit
import Derived.OpenShut
import Derived.Carry
import Derived.Test.YtpomandkgdmadaaGreatJj
namespace Go.Em
open Go.ChangeShapes Go.WideShapes Go.ChangeAt Go.RowKit

/-- Old memory is as it was. -/
structure Same (w w' : World) : Prop where
  os : w'.os = w.os
  output : w'.output = w.output
  size : w.heap.size ≤ w'.heap.size
  keep : ∀ b, b < w.heap.size → w'.heap[b]? = w.heap[b]?

theorem Same.refl (w : World) : Same w w := ⟨rfl, rfl, Nat.le_refl _, fun _ _ => rfl⟩
theorem Same.trans {a b c : World} (h : Same a b) (h' : Same b c) : Same a c :=
  ⟨h'.os.trans h.os, h'.output.trans h.output, Nat.le_trans h.size h'.size, fun x hx => (h'.keep x (Nat.lt_of_lt_of_le hx h.size)).trans (h.keep x hx)⟩

theorem Same.keptBut {w w' : World} (h : Same w w') (may : MemPlace → Prop) : w.keptBut w' may := by
  refine ⟨h.os, h.output, fun i hi => ?_⟩
  rw [h.keep i hi]
  cases w.heap[i]? with
  | none => rfl
  | some o => cases o <;> simp

theorem Same.frozen {w w' : World} (h : Same w w') {a : Addr} (ha : a.block < w.heap.size) : w'.frozen? a = w.frozen? a := by
  unfold World.frozen?
  rw [h.keep _ ha]

def noMem : Pm := fun _ => none
def noHeap : Heap := ⟨.nil, 0, []⟩

theorem sim_none (w : World) : Sim noMem noHeap w :=
  by
  refine ⟨fun _ _ => rfl, ?_, ?_⟩
  · intro i o h; cases h
  · intro i j oi oj pi pj h; cases h

theorem ext_none {cx : Cx} (hx : cx.ext = fun _ => none) : ExtOk cx ∧ ExtChg cx :=
  by
  constructor <;> (intro f g h; rw [hx] at h; cases h)

/-- A call from no memory. -/
theorem closed_call {cx : Cx} (O : Ok cx ∧ Bd cx) (hx : cx.ext = fun _ => none) {n f : Nat} {args : List Value} {r : Fin} {H : Heap} (hc : callG cx n f args noHeap = some (r, H))
    {args' : Array Value} (hA : Vs noMem args args'.toList) (w : World) :
    Calls cx.P f args' w fun e w' => ∃ m', Sim m' H w' ∧ FinR m' r e ∧ Same w w' := by
  rw [callG_eq] at hc
  refine ((call_sound O.1 O.2 (ext_none hx).1 (ext_none hx).2 n f args noHeap r H hc).2 noMem w args' (sim_none w) hA).mono ?_
  rintro e w' ⟨m', hS, hP, hF⟩
  refine ⟨m', hS, hF, hP.os, hP.output, hP.size, fun b hb => hP.keep b hb ?_⟩
  rintro ⟨i, o, p, h, _⟩
  cases h

/-- A row's end where old memory is as it was. -/
theorem post_same {H : Type} {enc : TypeId × Value → H} {P : Program} {f : Func} {s : ChangeSpec} {apart fresh handsOn again : Bool} {W W' : World} {args : Array Value} {v : Value} {ds gs : List (DataW H)} {before pa pv : List MemPlace}
    (hW : DataW.Whole enc P f.params.toList s.vars apart W args.toList ds gs before)
    (hres : ∀ (b : Nat) (sp : Nat → Bool) (hd : Bool), DataW.TrodAll enc P W' b sp hd f.resultTypes.toList (v.resultList f.resultTypes.size) (s.fn H (ds ++ gs)).results [])
    (hargs : ∀ sp : Nat → Bool, (∀ p ∈ before, sp p.block = true) → DataW.TrodAll enc P W' 0 sp true f.params.toList args.toList (s.fn H (ds ++ gs)).args pa)
    (hvars : ∀ sp : Nat → Bool, (∀ p ∈ before, sp p.block = true) → DataW.TrodVars enc P W' sp s.vars (s.fn H (ds ++ gs)).vars pv)
    (hps : before = pa ++ pv) (hk : Same W W')
    (hok : ∀ (j : Nat) (t : TypeId) (r : Value), f.resultTypes[j]? = some t → (v.resultList f.resultTypes.size)[j]? = some r → Value.okWide P W' .any 0 t r) :
    s.post enc P f apart fresh handsOn again W args v W' := by
  have hlt : ∀ p ∈ before, p.block < W.heap.size := fun p hp => hW.lt p hp
  have hold : ∀ p ∈ before, (fun b => decide (b < W.heap.size)) p.block = true := fun p hp => by simpa using hlt p hp
  refine ⟨ds, gs, before, [], pa, pv, hW, hres _ _ _, hargs _ hold, hvars _ hold, World.keptBut_mono (fun p hp => ⟨hp, ?_⟩) (hk.keptBut (· ∈ before)), fun _ => ?_⟩
  · rw [hps, List.mem_append] at hp
    exact Or.inr hp
  · obtain ⟨_, _, _, _, _, hz, hn⟩ := hW
    refine ⟨hok, _, _, ([] ++ pa) ++ pv, ⟨[] ++ pa, pv, trodAll_append (hargs _ (fun _ _ => rfl)) (hres _ _ _), hvars _ (fun _ _ => rfl), rfl, ?_, ?_⟩, ?_⟩
    · intro b off hp
      have hp' : MemPlace.cell b off ∈ before := by rw [hps]; simpa using hp
      rw [hk.frozen (hlt _ hp')]
      exact hz b off hp'
    · intro ha
      have := hn ha
      rw [hps] at this
      simpa using this
    · intro p hp _
      rw [hps]
      simpa using hp

end Go.Em

/-
  Calls whose arguments lead into memory that is not looked at; and how such arguments read behind the call.
-/
namespace Go.Em
open Go.ChangeShapes Go.WideShapes Go.ChangeAt Go.RowKit

/-- A call from memory that nothing is known of. -/
theorem open_call {cx : Cx} (O : Ok cx ∧ Bd cx) (hx : cx.ext = fun _ => none) {n f k : Nat} {args : List Value} {r : Fin} {H : Heap} (hc : callG cx n f args ⟨.nil, k, []⟩ = some (r, H))
    {m : Pm} (hm : ∀ i, k ≤ i → m i = none) {args' : Array Value} (hA : Vs m args args'.toList) (w : World) :
    Calls cx.P f args' w fun e w' => (∃ m', Sim m' H w' ∧ FinR m' r e) ∧ Go.RowKit.Below w.heap.size w w' := by
  rw [callG_eq] at hc
  have hS : Sim m ⟨.nil, k, []⟩ w := by
    refine ⟨hm, ?_, ?_⟩
    · intro i o h; cases h
    · intro i j oi oj pi pj h; cases h
  refine ((call_sound O.1 O.2 (ext_none hx).1 (ext_none hx).2 n f args _ r H hc).2 m w args' hS hA).mono ?_
  rintro e w' ⟨m', hS, hP, hF⟩
  refine ⟨⟨m', hS, hF⟩, hP.os, hP.tape, hP.output, hP.size, fun b hb => hP.keep b hb ?_⟩
  rintro ⟨i, o, p, h, _⟩
  cases h

theorem Same.of_below {w w' : World} (h : Go.RowKit.Below w.heap.size w w') : Same w w' := ⟨h.os, h.output, h.size, h.block⟩

/-- What a slice that is handed in looks like. -/
theorem slice_forms {P : Program} {W : World} {r : Reach} {base : Nat} {t e : TypeId} {v : Value} (ht : P.underlying t = some (.slice e)) (h : Value.okWide P W r base t v) :
    v = .slice none 0 0 ∨ ∃ b off len cap, v = .slice (some ⟨b, off, none⟩) len cap ∧ cap ≠ unk := by
  unfold Value.okWide at h
  rw [ht] at h
  simp only at h
  unfold Cell.okWide at h
  rw [ht] at h
  have h : Cell.ok P W r base t v := by
    cases v <;> first | exact h | exact h.elim
  unfold Cell.ok at h
  rw [ht] at h
  cases v with
  | slice a len cap =>
    cases a with
    | none =>
      cases len <;> cases cap <;> first | exact .inl rfl | exact h.elim
    | some a =>
      obtain ⟨_, h2, h3⟩ := h
      obtain ⟨_, h4, _⟩ := h3
      obtain ⟨b, off, spot⟩ := a
      cases h4
      refine .inr ⟨b, off, len, cap, rfl, ?_⟩
      intro e
      rw [e] at h2
      revert h2
      decide
  | _ => exact h.elim

/-- One block that nothing is known of. -/
def oneMem (b off : Nat) : Pm := fun i => if i = 0 then some ⟨b, off, 0, 0⟩ else none
theorem oneMem_none (b off : Nat) : ∀ i, 1 ≤ i → oneMem b off i = none := fun i hi => by
  unfold oneMem
  rw [if_neg (by omega)]

theorem oneMem_slice (b off len cap : Nat) (h : cap ≠ unk) : V (oneMem b off) (.slice (some ⟨0, 0, none⟩) len cap) (.slice (some ⟨b, off, none⟩) len cap) := by
  have := V.sl (m := oneMem b off) (b := 0) (o := 0) (n := len) (c := cap) (p := ⟨b, off, 0, 0⟩) rfl h
  simpa using this

end Go.Em

/-
  A call whose closed run is known to return true is not gone into.
-/
namespace Go.Em
open Go.ChangeShapes Go.WideShapes Go.ChangeAt Go.RowKit

noncomputable def trueA (args : List Value) (h : Heap) : Option (Fin × Heap) := @List.rec Value (fun _ => Option (Fin × Heap)) (some (.ret (.bool true), h)) (fun _ _ _ => none) args
noncomputable def extA (a f : Nat) : Option (List Value → Heap → Option (Fin × Heap)) := @Bool.rec (fun _ => Option (List Value → Heap → Option (Fin × Heap))) none (some trueA) (Nat.beq f a)
/-- The same program; function a is not gone into. -/
noncomputable def withA (cx : Cx) (a : Nat) : Cx := { P := cx.P, ty := cx.ty, fn := cx.fn, ext := extA a }

theorem ok_withA {cx : Cx} (O : Ok cx ∧ Bd cx) (a : Nat) : Ok (withA cx a) ∧ Bd (withA cx a) :=
  ⟨⟨O.1.under, O.1.info, O.1.zero, O.1.zsize, O.1.fields, O.1.named, O.1.held, O.1.guard, O.1.func⟩, O.2⟩

theorem ObjR.below {m : Pm} {p : Pl} {w w' : World} {o : Obj} (hb : Go.RowKit.Below w.heap.size w w') (h : ObjR m p w o) : ObjR m p w' o := by
  have key : ∀ x, w.heap[p.blk]? = some x → w'.heap[p.blk]? = some x := by
    intro x hx
    rw [hb.block p.blk (by
      have := Array.getElem?_eq_some_iff.1 hx
      exact this.1)]
    exact hx
  cases o with
  | row size base tr elem esz ro =>
    obtain ⟨c, e, fz, h1, h2⟩ := h
    exact ⟨c, e, fz, key _ h1, h2⟩
  | map es clock =>
    obtain ⟨es', h1, h2⟩ := h
    exact ⟨es', key _ h1, h2⟩
  | chan cap buf =>
    obtain ⟨b, s, r, h1, h2⟩ := h
    exact ⟨b, s, r, key _ h1, h2⟩

theorem Sim.below {m : Pm} {h : Heap} {w w' : World} (hb : Go.RowKit.Below w.heap.size w w') (S : Sim m h w) : Sim m h w' := by
  refine ⟨S.fresh, ?_, S.inj⟩
  intro i o hi
  obtain ⟨p, hp, ho⟩ := S.live i o hi
  exact ⟨p, hp, ho.below hb⟩

theorem Stp.below {m : Pm} {h : Heap} {w w' : World} (hb : Go.RowKit.Below w.heap.size w w') : Stp m h w m h w' :=
  ⟨.refl m, fun _ _ _ h => h, Nat.le_refl _, hb.size, fun _ _ _ h => h, fun b hb' _ => hb.block b hb', hb.tape, hb.os, hb.output⟩

theorem ext_withA {cx : Cx} (O : Ok cx ∧ Bd cx) (hx : cx.ext = fun _ => none) {n a : Nat} {H : Heap} (hc : callG cx n a [] noHeap = some (.ret (.bool true), H)) : ExtOk (withA cx a) ∧ ExtChg (withA cx a) := by
  have inv : ∀ {f : Nat} {g : List Value → Heap → Option (Fin × Heap)} {args : List Value} {h : Heap} {r : Fin} {h' : Heap}, (withA cx a).ext f = some g → g args h = some (r, h') → f = a ∧ args = [] ∧ r = .ret (.bool true) ∧ h' = h := by
    intro f g args h r h' hg hr
    change @Bool.rec (fun _ => Option (List Value → Heap → Option (Fin × Heap))) none (some trueA) (Nat.beq f a) = some g at hg
    cases hb : Nat.beq f a with
    | false => rw [hb] at hg; cases hg
    | true =>
      rw [hb] at hg
      cases hg
      cases args with
      | cons v l => cases hr
      | nil =>
        have e : some (Fin.ret (.bool true), h) = some (r, h') := hr
        cases e
        exact ⟨Nat.eq_of_beq_eq_true hb, rfl, rfl, rfl⟩
  have hc' := hc
  rw [callG_eq] at hc'
  have C := call_sound O.1 O.2 (ext_none hx).1 (ext_none hx).2 n a [] noHeap _ _ hc'
  constructor
  · intro f g hg args h r h' hr
    obtain ⟨rfl, rfl, rfl, rfl⟩ := inv hg hr
    refine ⟨C.1, ?_⟩
    intro m w args' S hA
    have he : args' = #[] := by
      have := hA.length
      apply Array.eq_empty_of_size_eq_zero
      simpa using this
    subst he
    refine (open_call (k := 0) O hx hc (m := noMem) (fun _ _ => rfl) (args' := #[]) .nil w).mono ?_
    rintro e w' ⟨⟨m', _, hF⟩, hb⟩
    refine ⟨m, S.below hb, Stp.below hb, ?_⟩
    cases e with
    | returned v =>
      have := bool_inv hF
      subst this
      exact V.bool m true
    | panicked c => exact hF.elim
    | _ => exact hF.elim
  · intro f g hg args h r h' hr
    obtain ⟨rfl, rfl, rfl, rfl⟩ := inv hg hr
    exact .refl _

/-- A call from memory that nothing is known of, one function not gone into. -/
theorem open_callA {cx : Cx} (O : Ok cx ∧ Bd cx) (E : ExtOk cx ∧ ExtChg cx) {n f k : Nat} {args : List Value} {r : Fin} {H : Heap} (hc : callG cx n f args ⟨.nil, k, []⟩ = some (r, H))
    {m : Pm} (hm : ∀ i, k ≤ i → m i = none) {args' : Array Value} (hA : Vs m args args'.toList) (w : World) :
    Calls cx.P f args' w fun e w' => (∃ m', Sim m' H w' ∧ FinR m' r e) ∧ Go.RowKit.Below w.heap.size w w' := by
  rw [callG_eq] at hc
  have hS : Sim m ⟨.nil, k, []⟩ w := by
    refine ⟨hm, ?_, ?_⟩
    · intro i o h; cases h
    · intro i j oi oj pi pj h; cases h
  refine ((call_sound O.1 O.2 E.1 E.2 n f args _ r H hc).2 m w args' hS hA).mono ?_
  rintro e w' ⟨m', hS, hP, hF⟩
  refine ⟨⟨m', hS, hF⟩, hP.os, hP.tape, hP.output, hP.size, fun b hb => hP.keep b hb ?_⟩
  rintro ⟨i, o, p, h, _⟩
  cases h

/-! ### Rows of cells of known kinds -/
theorem Vs.mkC (m : Pm) (f : Nat → Int) (g : Nat → Bool) : ∀ (ks : List (Option IntKind)) (i : Nat), Vs m (Em.mkC f g ks i) (Em.mkC f g ks i)
  | [], _ => .nil
  | k :: ks, i => by
    refine .cons ?_ (Vs.mkC m f g ks (i + 1))
    cases k with
    | none => exact V.bool m (g i)
    | some k => exact V.int m k (f i)

/-- What a struct of integers and truth values that is handed in looks like. -/
theorem struct_forms {P : Program} {W : World} {r : Reach} {base t : Nat} {fs : Array Field} {v : Value} (ht : P.underlying t = some (.struct fs)) (h : Value.okWide P W r base t v)
    {ts : List Nat} (hts : P.cellTypes P.depth t = some ts) {ks : List (Option IntKind)} (hl : P.cellsOf t = ks.length) (hl' : ts.length = ks.length)
    (hk : ∀ (i u : Nat), ts[i]? = some u → (∃ k, ks[i]? = some (some k) ∧ P.underlying u = some (.int k)) ∨ (ks[i]? = some none ∧ P.underlying u = some .bool)) :
    ∃ f g, v = .agg (mkC f g ks 0).toArray := by
  unfold Value.okWide at h
  rw [ht] at h
  obtain ⟨cs, rfl, hs, hr⟩ := h
  obtain ⟨ts', hts', _, hc⟩ := hr
  rw [hts] at hts'
  cases hts'
  have hlen : cs.toList.length = 0 + ks.length := by rw [Nat.zero_add, ← hl, ← hs]; simp
  have := mkC_of cs.toList ks 0 hlen (fun j k v hj hv => by
    rw [Nat.zero_add] at hv
    have hv' : cs[j]? = some v := by simpa using hv
    obtain ⟨u, hu, ho⟩ := hc j v hv'
    have hjl : j < ks.length := by
      have := List.getElem?_eq_some_iff.1 hj
      exact this.1
    rw [hl', Nat.mod_eq_of_lt hjl] at hu
    rcases hk j u hu with ⟨k', h1, h2⟩ | ⟨h1, h2⟩
    · rw [hj] at h1
      cases h1
      unfold Cell.okWide at ho
      rw [h2] at ho
      unfold Cell.ok at ho
      rw [h2] at ho
      cases v with
      | int k1 n => obtain ⟨rfl, _⟩ := ho; exact ⟨n, rfl⟩
      | _ => exact ho.elim
    · rw [hj] at h1
      cases h1
      unfold Cell.okWide at ho
      rw [h2] at ho
      unfold Cell.ok at ho
      rw [h2] at ho
      cases v with
      | bool b => exact ⟨b, rfl⟩
      | _ => exact ho.elim)
  refine ⟨fun j => getN cs.toList[j]?, fun j => getT cs.toList[j]?, ?_⟩
  rw [← this]
  simp

/-- The types and the kinds go together. -/
noncomputable def kindsB (P : Program) : List Nat → List (Option IntKind) → Bool
  | [], [] => true
  | u :: ts, k :: ks => match P.underlying u, k with
    | some (.int k'), some k => match decEq k' k with
      | isTrue _ => kindsB P ts ks
      | isFalse _ => false
    | some .bool, none => kindsB P ts ks
    | _, _ => false
  | _, _ => false
theorem kindsB_ok (P : Program) : ∀ (ts : List Nat) (ks : List (Option IntKind)), kindsB P ts ks = true → ∀ (i u : Nat), ts[i]? = some u →
    (∃ k, ks[i]? = some (some k) ∧ P.underlying u = some (.int k)) ∨ (ks[i]? = some none ∧ P.underlying u = some .bool)
  | [], [], _, i, u, hu => by simp at hu
  | [], _ :: _, h, _, _, _ => Bool.noConfusion h
  | _ :: _, [], h, _, _, _ => Bool.noConfusion h
  | t :: ts, k :: ks, h, i, u, hu => by
    simp only [kindsB] at h
    have go : ∀ {x : Option IntKind}, kindsB P ts ks = true → ((∃ k, x = some k ∧ P.underlying t = some (.int k)) ∨ (x = none ∧ P.underlying t = some .bool)) →
        (∃ k, (x :: ks)[i]? = some (some k) ∧ P.underlying u = some (.int k)) ∨ ((x :: ks)[i]? = some none ∧ P.underlying u = some .bool) := by
      intro x h1 h2
      cases i with
      | zero =>
        cases hu
        rcases h2 with ⟨k, rfl, e⟩ | ⟨rfl, e⟩
        · exact .inl ⟨k, rfl, e⟩
        · exact .inr ⟨rfl, e⟩
      | succ i => exact kindsB_ok P ts ks h1 i u (by simpa using hu)
    cases hp : P.underlying t with
    | none => rw [hp] at h; cases h
    | some d =>
      rw [hp] at h go
      cases k with
      | none =>
        cases d <;> simp only at h <;> first | exact go h (.inr ⟨rfl, rfl⟩) | cases h
      | some k =>
        cases d <;> simp only at h <;> try cases h
        rename_i k'
        cases hd : decEq k' k with
        | isFalse e => rw [hd] at h; cases h
        | isTrue e =>
          rw [hd] at h
          subst e
          exact go h (.inl ⟨k', rfl, rfl⟩)

end Go.Em
