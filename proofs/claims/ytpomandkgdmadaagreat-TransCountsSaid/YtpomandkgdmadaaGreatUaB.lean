/-
  Contexts with outside functions, each with the form that notes what it assumes and the form that is right; calls in them.
-/
import Derived.Test.YtpomandkgdmadaaGreatUaA
namespace Go.Em
set_option linter.unusedVariables false

/-- The same program with outside functions. -/
noncomputable def withE (cx : Cx) (s : ExtF) : Cx := { P := cx.P, ty := cx.ty, fn := cx.fn, ext := s }
theorem ok_withE {cx : Cx} (O : Ok cx ∧ Bd cx) (s : ExtF) : Ok (withE cx s) ∧ Bd (withE cx s) :=
  ⟨⟨O.1.under, O.1.info, O.1.zero, O.1.zsize, O.1.fields, O.1.named, O.1.held, O.1.guard, O.1.func⟩, O.2⟩

abbrev OutF := List Value → Heap → Option (Fin × Heap)
noncomputable def noE : ExtF := fun _ => none
noncomputable def addE (f0 : Nat) (g : OutF) (e : ExtF) : ExtF := fun f => @Bool.rec (fun _ => Option OutF) (e f) (some g) (Nat.beq f f0)

/-- An outside function: the form g notes what it assumes; the form g' is right. -/
structure Out1 (cx : Cx) (f : Nat) (g g' : OutF) : Prop where
  ok : ∀ args h r h', g' args h = some (r, h') → CallR cx f args h r h'
  chg : ∀ args h r h', g' args h = some (r, h') → Chg h h'
  echg : ∀ args h r h', g args h = some (r, h') → Chg h h'
  rel : ∀ args h r h', g args h = some (r, h') → Asm h'.dt → g' args h = some (r, h')

structure Outs (cx : Cx) (e s : ExtF) : Prop where
  some_ok : ∀ f g, e f = some g → ∃ g', s f = some g' ∧ Out1 cx f g g'
  none_ok : ∀ f, e f = none → s f = none

section
variable {cx : Cx} {e s : ExtF}

theorem Outs.nil (cx : Cx) : Outs cx noE noE := ⟨fun _ _ h => (by cases h), fun _ _ => rfl⟩
theorem Outs.add (H : Outs cx e s) {f : Nat} {g g' : OutF} (h1 : Out1 cx f g g') : Outs cx (addE f g e) (addE f g' s) := by
  constructor
  · intro k x hx
    unfold addE at hx ⊢
    cases hb : Nat.beq k f with
    | true =>
      rw [hb] at hx
      have e1 : some g = some x := hx
      cases e1
      have := Nat.eq_of_beq_eq_true hb
      subst this
      exact ⟨g', rfl, h1⟩
    | false => rw [hb] at hx; exact H.some_ok k x hx
  · intro k hx
    unfold addE at hx ⊢
    cases hb : Nat.beq k f with
    | true => rw [hb] at hx; cases hx
    | false => rw [hb] at hx; exact H.none_ok k hx

theorem Outs.right (H : Outs cx e s) {f : Nat} {g' : OutF} (h : s f = some g') : ∃ g, Out1 cx f g g' := by
  cases he : e f with
  | none => rw [H.none_ok f he] at h; cases h
  | some g =>
    obtain ⟨g2, h2, o⟩ := H.some_ok f g he
    rw [h] at h2; cases h2
    exact ⟨g, o⟩

theorem Outs.ext (H : Outs cx e s) : ExtOk (withE cx s) ∧ ExtChg (withE cx s) := by
  constructor
  · intro f g hg args h r h' hr
    obtain ⟨_, o⟩ := H.right (show s f = some g from hg)
    exact o.ok args h r h' hr
  · intro f g hg args h r h' hr
    obtain ⟨_, o⟩ := H.right (show s f = some g from hg)
    exact o.chg args h r h' hr

theorem Outs.keeps (H : Outs cx e s) (n : Nat) : KeepsF (callU (withE cx s) e n) :=
  callU_chg (fun f g hg args h r h' hr => by
    obtain ⟨_, _, o⟩ := H.some_ok f g hg
    exact o.echg args h r h' hr) n
theorem Outs.rel (H : Outs cx e s) (n : Nat) : RelF (callU (withE cx s) e n) (call (withE cx s) n) :=
  callU_rel (fun f g hg args h r h' hr => by
    obtain ⟨_, _, o⟩ := H.some_ok f g hg
    exact o.echg args h r h' hr) (fun f g hg => by
    obtain ⟨g', h1, o⟩ := H.some_ok f g hg
    exact ⟨g', h1, o.rel⟩) H.none_ok n

variable {jt : Tr FT} (HJ : ∀ f R, jt.get f = some R → JOk (withE cx s) f R)

theorem Outs.eqU (HJ : ∀ f R, jt.get f = some R → JOk (withE cx s) f R) (n : Nat) : callHU (withE cx s) e jt n = callU (withE cx s) e n := by
  funext f args h
  exact callHU_eq HJ n f args h
theorem Outs.keepsH (H : Outs cx e s) (HJ : ∀ f R, jt.get f = some R → JOk (withE cx s) f R) (n : Nat) : KeepsF (callHU (withE cx s) e jt n) := by
  rw [Outs.eqU HJ]; exact H.keeps n
theorem Outs.relH (H : Outs cx e s) (HJ : ∀ f R, jt.get f = some R → JOk (withE cx s) f R) (n : Nat) : RelF (callHU (withE cx s) e jt n) (call (withE cx s) n) := by
  rw [Outs.eqU HJ]; exact H.rel n
theorem Outs.okS (O : Ok cx ∧ Bd cx) (H : Outs cx e s) (n : Nat) : CallsOk cx (call (withE cx s) n) := fun f args h r h' hc =>
  call_sound (ok_withE O s).1 (ok_withE O s).2 H.ext.1 H.ext.2 n f args h r h' hc

/-- A run in such a context. -/
theorem Outs.call (O : Ok cx ∧ Bd cx) (H : Outs cx e s) (HJ : ∀ f R, jt.get f = some R → JOk (withE cx s) f R) {n f : Nat} {args : List Value} {h : Heap} {r : Fin} {h' : Heap}
    (hc : callHU (withE cx s) e jt n f args h = some (r, h')) (ha : Asm h'.dt) : CallR cx f args h r h' :=
  H.okS O n f args h r h' (H.relH HJ n f args h r h' hc ha)

/-- A function run along a way that is told. -/
theorem Out1.told (O : Ok cx ∧ Bd cx) (H : Outs cx e s) (HJ : ∀ f R, jt.get f = some R → JOk (withE cx s) f R) {f : Nat} {x : Func × Code} (hf : cx.fn f = some x) (hs : s f = none) (N : Nat) (A : Way) :
    Out1 cx f (gU (withE cx s) N A x (callHU (withE cx s) e jt N)) (gS (withE cx s) N A x (call (withE cx s) N)) where
  ok := fun args h r h' hr => gS_ok (ok_withE O s) H.ext (show (withE cx s).fn f = some x from hf) (show (withE cx s).ext f = none from hs) hr
  chg := fun args h r h' hr => gS_chg (call_chg H.ext.2 N) hr
  echg := fun args h r h' hr => gU_chg (H.keepsH HJ N) hr
  rel := fun args h r h' hr ha => gU_rel (H.keepsH HJ N) (H.relH HJ N) hr ha

/-- A function whose truth value is told. -/
theorem Out1.truth (O : Ok cx ∧ Bd cx) (H : Outs cx e s) (HJ : ∀ f R, jt.get f = some R → JOk (withE cx s) f R) (f : Nat) (y : Bool) (N : Nat) :
    Out1 cx f (rU y (callHU (withE cx s) e jt N) f) (rS y (Em.call (withE cx s) N) f) where
  ok := fun args h r h' hr => rS_ok (ok_withE O s) H.ext hr
  chg := fun args h r h' hr => rS_chg (call_chg H.ext.2 N) hr
  echg := fun args h r h' hr => rU_chg (H.keepsH HJ N) hr
  rel := fun args h r h' hr ha => rU_rel (H.relH HJ N) hr ha

end

/-! ### Functions of flat values alone -/
theorem Vs.flat_eq {m : Pm} : ∀ {l l' : List Value}, (∀ v ∈ l, flat v = true) → Vs m l l' → l' = l
  | [], _, _, .nil => rfl
  | v :: l, _, h, .cons a b => by rw [flat_inv (h v (by simp)) a, Vs.flat_eq (fun x hx => h x (by simp [hx])) b]

theorem Sim.same_mem {m : Pm} {h : Heap} {w w' : World} (S : Sim m h w) (P : ∀ b, b < w.heap.size → w'.heap[b]? = w.heap[b]?) : Sim m h w' := S.world P

theorem CallR.closed {cx : Cx} {f : Nat} {args : List Value} {v : Value} {H : Heap} (C : CallR cx f args noHeap (.ret v) H) (ha : ∀ a ∈ args, flat a = true) (hv : flat v = true) (h : Heap) : CallR cx f args h (.ret v) h := by
  refine ⟨C.1, fun m w args' S hA => ?_⟩
  have e := Vs.flat_eq ha hA
  refine (C.2 noMem w args' (sim_none w) (by rw [e]; exact Vs.of_flat ha)).mono ?_
  rintro e w' ⟨m', S', P, F⟩
  have hk : ∀ b, b < w.heap.size → w'.heap[b]? = w.heap[b]? := fun b hb => P.keep b hb (by
    rintro ⟨i, o, p, h, _⟩
    cases h)
  refine ⟨m, S.world hk, ⟨.refl m, fun _ _ _ h => h, Nat.le_refl _, P.size, fun _ _ _ h => h, fun b hb _ => hk b hb, P.tape, P.os, P.output⟩, ?_⟩
  cases e with
  | returned u =>
    have e2 : u = v := flat_inv hv F
    rw [e2]
    exact V.flat hv
  | panicked c => exact F.elim
  | outgrown => exact F.elim

noncomputable def cU (k : List Value → Option (Value × List Bool)) : OutF := fun args h => match k args with
  | some (v, bs) => some (.ret v, logH bs h)
  | none => none
noncomputable def cS (k : List Value → Option (Value × List Bool)) : OutF := fun args h => match k args with
  | some (v, bs) => match allB bs with
    | true => some (.ret v, logH bs h)
    | false => none
  | none => none
theorem Out1.flat {cx : Cx} {f : Nat} {k : List Value → Option (Value × List Bool)} (hk : ∀ args v bs, k args = some (v, bs) → allT bs → ∀ h, CallR cx f args h (.ret v) h) : Out1 cx f (cU k) (cS k) := by
  have inv : ∀ args h r h', cS k args h = some (r, h') → ∃ v bs, k args = some (v, bs) ∧ allT bs ∧ r = .ret v ∧ h' = logH bs h := by
    intro args h r h' hr
    unfold cS at hr
    cases hx : k args with
    | none => rw [hx] at hr; cases hr
    | some p =>
      obtain ⟨v, bs⟩ := p
      rw [hx] at hr
      dsimp only at hr
      cases hb : allB bs with
      | false => rw [hb] at hr; cases hr
      | true => rw [hb] at hr; cases hr; exact ⟨v, bs, rfl, allB_iff.1 hb, rfl, rfl⟩
  refine ⟨?_, ?_, ?_, ?_⟩
  · intro args h r h' hr
    obtain ⟨v, bs, h1, h2, rfl, rfl⟩ := inv _ _ _ _ hr
    exact CallR_dt (hk args v bs h1 h2 h) rfl rfl
  · intro args h r h' hr
    obtain ⟨v, bs, h1, h2, rfl, rfl⟩ := inv _ _ _ _ hr
    exact chg_log bs (.refl h)
  · intro args h r h' hr
    unfold cU at hr
    cases hx : k args with
    | none => rw [hx] at hr; cases hr
    | some p => obtain ⟨v, bs⟩ := p; rw [hx] at hr; cases hr; exact chg_log bs (.refl h)
  · intro args h r h' hr ha
    unfold cU at hr
    unfold cS
    cases hx : k args with
    | none => rw [hx] at hr; cases hr
    | some p =>
      obtain ⟨v, bs⟩ := p
      rw [hx] at hr
      cases hr
      dsimp only
      rw [allB_iff.2 (asm_log ha)]

/-! ### From one filling of a form to another one -/
theorem CallR.step {cx : Cx} {f : Nat} {args : List Value} {v : Value} {H1 : Heap} {S : List (Nat × Sh)} {K : Nat} {x x' : Nat → Int} (C : CallR cx f args (litH (fillH x S) K) (.ret v) H1)
    (hg : Em.grab H1.tr (fillH x S) = some (fillH x' S)) (hv : Em.flat v = true) : CallR cx f args (litH (fillH x S) K) (.ret v) (litH (fillH x' S) K) := by
  refine ⟨C.1, fun m w args' hS hA => (lit_step C hg hS hA).mono ?_⟩
  rintro e w' ⟨S', m', hm, F, P⟩
  refine ⟨m, S', ⟨.refl m, fun _ _ _ h => h, Nat.le_refl _, P.size, ?_, P.keep, P.tape, P.os, P.output⟩, ?_⟩
  · rintro z b hb ⟨i, o, p, h1, hz, h2, h3⟩
    obtain ⟨o0, g1, g2⟩ := fillH_get x' x S i o h1
    exact ⟨i, o0, p, g1, fun e => by rw [← g2.ro]; exact hz e, h2, h3⟩
  · cases e with
    | returned u =>
      have e2 : u = v := flat_inv hv F
      rw [e2]
      exact V.flat hv
    | panicked c => exact F.elim
    | outgrown => exact F.elim

/-- A memory told in a form; the form after that. -/
theorem CallR.from {cx : Cx} {f : Nat} {args : List Value} {h : Heap} {r : Fin} {H1 : Heap} {L L' : List (Nat × Lo)} (C : CallR cx f args (litH L h.nx) r H1) (hg : Em.grab h.tr L = some L) (hg' : Em.grab H1.tr L' = some L') :
    CallR cx f args h r (litH L' H1.nx) := by
  refine ⟨C.1, fun m w args' hS hA => (C.2 m w args' (hS.grab hg) hA).mono ?_⟩
  rintro e w' ⟨m', S', P, F⟩
  refine ⟨m', S'.grab hg', ⟨P.le, P.ids, P.nx, P.size, ?_, ?_, P.tape, P.os, P.output⟩, F⟩
  · rintro z b hb ⟨i, o, p, h1, hz, h2, h3⟩
    obtain ⟨l, hm, rfl⟩ := trL_get _ i o h1
    obtain ⟨o1, h4, h5⟩ := grab_sub hg' i l hm
    obtain ⟨j, oj, q, g1, gz, g2, g3⟩ := P.own z b hb ⟨i, o1, p, h4, fun e => h5.2 (hz e), h2, h3⟩
    obtain ⟨l2, hm2, rfl⟩ := trL_get _ j oj g1
    obtain ⟨o2, k4, k5⟩ := grab_sub hg j l2 hm2
    exact ⟨j, o2, q, k4, fun e => k5.2 (gz e), g2, g3⟩
  · intro b hb hn
    refine P.keep b hb fun ho => hn ?_
    obtain ⟨j, oj, q, g1, gz, g2, g3⟩ := ho
    obtain ⟨l2, hm2, rfl⟩ := trL_get _ j oj g1
    obtain ⟨o2, k4, k5⟩ := grab_sub hg j l2 hm2
    exact ⟨j, o2, q, k4, fun e => k5.2 (gz e), g2, g3⟩

/-! ### What a call comes to -/
noncomputable def asm1 (p : Part) : List Bool := @Bool.rec (fun _ => List Bool) [] [Nat.beq p.off 0] (Nat.beq p.n asmN)
/-- What was assumed. -/
noncomputable def asmB : List Part → Bool := @List.rec Part (fun _ => Bool) true (fun p _ ih => @Bool.rec (fun _ => Bool) ih (and (Nat.beq p.off 0) ih) (Nat.beq p.n asmN))
theorem asmB_ok : ∀ {l : List Part}, asmB l = true → Asm l
  | [], _ => fun p hp => by cases hp
  | p :: l, h => by
    have h : @Bool.rec (fun _ => Bool) (asmB l) (and (Nat.beq p.off 0) (asmB l)) (Nat.beq p.n asmN) = true := h
    intro q hq hn
    cases hb : Nat.beq p.n asmN with
    | true =>
      rw [hb] at h
      have h : and (Nat.beq p.off 0) (asmB l) = true := h
      rw [Bool.and_eq_true] at h
      rcases List.mem_cons.1 hq with rfl | hq
      · exact Nat.eq_of_beq_eq_true h.1
      · exact asmB_ok h.2 q hq hn
    | false =>
      rw [hb] at h
      rcases List.mem_cons.1 hq with rfl | hq
      · rw [hn, Nat.beq_refl] at hb; cases hb
      · exact asmB_ok h q hq hn

/-- The truth values that were noted, in their order. -/
noncomputable def isAsm (p : Part) : Bool := Nat.beq p.n asmN
noncomputable def asmL : List Part → List Nat := @List.rec Part (fun _ => List Nat) [] (fun p _ ih => @Bool.rec (fun _ => List Nat) ih (p.off :: ih) (isAsm p))
theorem asmL_ok : ∀ {l : List Part}, (∀ n ∈ asmL l, n = 0) → Asm l
  | [], _ => fun p hp => by cases hp
  | p :: l, h => by
    have h : ∀ n ∈ @Bool.rec (fun _ => List Nat) (asmL l) (p.off :: asmL l) (isAsm p), n = 0 := h
    intro q hq hn
    cases hb : isAsm p with
    | true =>
      rw [hb] at h
      have h : ∀ n ∈ p.off :: asmL l, n = 0 := h
      rcases List.mem_cons.1 hq with rfl | hq
      · exact h _ (by simp)
      · exact asmL_ok (fun n hm => h n (by simp [hm])) q hq hn
    | false =>
      rw [hb] at h
      rcases List.mem_cons.1 hq with rfl | hq
      · unfold isAsm at hb; rw [hn, Nat.beq_refl] at hb; cases hb
      · exact asmL_ok h q hq hn
/-- One noted truth value as a number. -/
noncomputable def offB (b : Bool) : Nat := @Bool.rec (fun _ => Nat) 1 0 b
theorem offB_iff {b : Bool} : offB b = 0 ↔ b = true := by cases b <;> simp [offB]

/-- What a call returns, what memory of a form holds behind it, what was noted. -/
noncomputable def outL (L : List (Nat × Lo)) (r : Option (Fin × Heap)) : Option (Fin × List (Nat × Lo) × Nat × List Nat) := match r with
  | some (r, h) => match grab h.tr L with
    | some L' => some (r, L', h.nx, asmL h.dt)
    | none => none
  | none => none
theorem outL_inv {L L' : List (Nat × Lo)} {r : Option (Fin × Heap)} {v : Fin} {nx : Nat} {as : List Nat} (h : outL L r = some (v, L', nx, as)) : ∃ H, r = some (v, H) ∧ grab H.tr L = some L' ∧ H.nx = nx ∧ asmL H.dt = as := by
  cases r with
  | none => cases h
  | some p =>
    obtain ⟨v1, H⟩ := p
    simp only [outL] at h
    cases hg : grab H.tr L with
    | none => rw [hg] at h; cases h
    | some L1 => rw [hg] at h; cases h; exact ⟨H, rfl, hg, rfl, rfl⟩

section
variable {cx : Cx} {e s : ExtF} {jt : Tr FT}
/-- A call from one filling of a form to another one, by a run. -/
theorem Outs.step (O : Ok cx ∧ Bd cx) (H : Outs cx e s) (HJ : ∀ f R, jt.get f = some R → JOk (withE cx s) f R) {n f : Nat} {args : List Value} {v : Value} {S : List (Nat × Sh)} {K nx : Nat} {x x' : Nat → Int} {as : List Nat}
    (hr : outL (fillH x S) (callHU (withE cx s) e jt n f args (litH (fillH x S) K)) = some (.ret v, fillH x' S, nx, as)) (ha : ∀ n ∈ as, n = 0) (hv : Em.flat v = true) :
    CallR cx f args (litH (fillH x S) K) (.ret v) (litH (fillH x' S) K) := by
  obtain ⟨H1, h1, h2, h3, h4⟩ := outL_inv hr
  refine CallR.step (H.call O HJ h1 (asmL_ok ?_)) h2 hv
  rw [h4]; exact ha
/-- A call from one form to another one, by a run. -/
theorem Outs.stepNew (O : Ok cx ∧ Bd cx) (H : Outs cx e s) (HJ : ∀ f R, jt.get f = some R → JOk (withE cx s) f R) {n f : Nat} {args : List Value} {r : Fin} {h : Heap} {L L0 : List (Nat × Lo)} {nx : Nat} {as : List Nat}
    (hr : outL L0 (callHU (withE cx s) e jt n f args h) = some (r, L, nx, as)) (ha : ∀ n ∈ as, n = 0) :
    CallR cx f args h r (litH L nx) := by
  obtain ⟨H1, h1, h2, h3, h4⟩ := outL_inv hr
  have C := H.call O HJ h1 (asmL_ok (by rw [h4]; exact ha))
  subst h3
  refine ⟨C.1, fun m w args' hS hA => (C.2 m w args' hS hA).mono ?_⟩
  rintro e w' ⟨m', S', P, F⟩
  refine ⟨m', S'.grab h2, ⟨P.le, P.ids, P.nx, P.size, ?_, P.keep, P.tape, P.os, P.output⟩, F⟩
  rintro z b hb ⟨i, o, p, h1, hz, h5, h6⟩
  obtain ⟨l, hm, rfl⟩ := trL_get _ i o h1
  obtain ⟨o1, h7, h8⟩ := grab_sub h2 i l hm
  exact P.own z b hb ⟨i, o1, p, h7, fun e => h8.2 (hz e), h5, h6⟩
end

/-! ### One call that is known -/
open Classical in
noncomputable def oneCall (f0 : Nat) (a0 : List Value) (h0 : Heap) (r : Fin × Heap) : CallFn := fun f args h => if f = f0 ∧ args = a0 ∧ h = h0 then some r else none
theorem oneCall_at (f0 : Nat) (a0 : List Value) (h0 : Heap) (r : Fin × Heap) : oneCall f0 a0 h0 r f0 a0 h0 = some r := by
  unfold oneCall; rw [if_pos ⟨rfl, rfl, rfl⟩]
theorem oneCall_ok {cx : Cx} {f0 : Nat} {a0 : List Value} {h0 : Heap} {r : Fin} {h1 : Heap} (C : CallR cx f0 a0 h0 r h1) : CallsOk cx (oneCall f0 a0 h0 (r, h1)) := by
  intro f args h r' h' hc
  unfold oneCall at hc
  split at hc
  · rename_i e
    obtain ⟨rfl, rfl, rfl⟩ := e
    cases hc
    exact C
  · cases hc

end Go.Em

/-
  Statements run along told ways, with operations as they are; memory that stands beside.
-/
namespace Go.Em
set_option linter.unusedVariables false

section
variable (cx : Cx) (cf : CallFn) (A : Way)

noncomputable def opW (tm : Tr Value) (h : Heap) (o : Op) : Option (Out × Heap × List Bool) := match pkS A o with
  | some (t, x, a, b) => match getB tm t with
    | some y => match ev tm (@Bool.rec (fun _ => Operand) b a x) with
      | some v => some (.val v, h, [eqB y x])
      | none => none
    | none => none
  | none => match opE cx cf tm h o with
    | some (out, h) => some (out, h, [])
    | none => none

noncomputable def opsW (all : List Oper) : List Oper → St → Option (St × List Bool)
  | [], st => some (st, [])
  | o :: l, st => match wantA A all st.tm o with
    | none => none
    | some (false, bs) => match opsW all l { st with tm := putT st.tm o.dst undef } with
      | some (st, bs') => some (st, bs ++ bs')
      | none => none
    | some (true, bs) => match opW cx cf A st.tm st.h o.op with
      | some (.val v, h', b1) => match opsW all l { st with tm := putT st.tm o.dst v, h := h' } with
        | some (st, bs') => some (st, (bs ++ b1) ++ bs')
        | none => none
      | _ => none

variable {cx cf A}

theorem opW_ok {tm : Tr Value} {h : Heap} {o : Op} {v : Value} {h' : Heap} {bs : List Bool} (ho : opW cx cf A tm h o = some (.val v, h', bs)) (ha : allT bs) : opE cx cf tm h o = some (.val v, h') := by
  unfold opW at ho
  cases hp : pkS A o with
  | none =>
    rw [hp] at ho
    dsimp only at ho
    cases hd : opE cx cf tm h o with
    | none => rw [hd] at ho; cases ho
    | some p => obtain ⟨out, h1⟩ := p; rw [hd] at ho; cases ho; rfl
  | some q =>
    obtain ⟨t, x, a, b⟩ := q
    have e := pkS_inv hp
    subst e
    rw [hp] at ho
    dsimp only at ho
    cases hy : getB tm t with
    | none => rw [hy] at ho; cases ho
    | some y =>
      rw [hy] at ho
      dsimp only at ho
      cases hv : ev tm (@Bool.rec (fun _ => Operand) b a x) with
      | none => rw [hv] at ho; cases ho
      | some w =>
        rw [hv] at ho
        cases ho
        have h1 : eqB y x = true := ha _ (by simp)
        have h2 : y = x := by rw [eqB_eq] at h1; simpa using h1
        subst h2
        have h3 : ev tm (.tmp t) = some (.bool y) := getB_ok hy
        simp only [opE, h3]
        cases y with
        | true => exact congrArg (fun o => val o h) hv
        | false => exact congrArg (fun o => val o h) hv

theorem opsW_ok {all : List Oper} : ∀ {l : List Oper} {st : St} {st' : St} {bs : List Bool}, opsW cx cf A all l st = some (st', bs) → allT bs → opsE cx cf false all l st = some (.normal, st')
  | [], st, st', bs, h, _ => by
    simp only [opsW] at h
    cases h
    simp only [opsE]
  | o :: l, st, st', bs, h, ha => by
    simp only [opsW] at h
    cases hw : wantA A all st.tm o with
    | none => rw [hw] at h; cases h
    | some p =>
      obtain ⟨b, b1⟩ := p
      rw [hw] at h
      cases b with
      | false =>
        dsimp only at h
        cases hr : opsW cx cf A all l { st with tm := putT st.tm o.dst undef } with
        | none => rw [hr] at h; cases h
        | some q =>
          obtain ⟨s2, b2⟩ := q
          rw [hr] at h
          cases h
          simp only [opsE, wantA_ok hw ha.left]
          exact opsW_ok hr ha.right
      | true =>
        dsimp only at h
        cases ho : opW cx cf A st.tm st.h o.op with
        | none => rw [ho] at h; cases h
        | some q =>
          obtain ⟨out, h1, b3⟩ := q
          rw [ho] at h
          cases out with
          | pan c => cases h
          | dfr d => cases h
          | rcv => cases h
          | val v =>
          dsimp only at h
          cases hr : opsW cx cf A all l { st with tm := putT st.tm o.dst v, h := h1 } with
          | none => rw [hr] at h; cases h
          | some q =>
            obtain ⟨s2, b2⟩ := q
            rw [hr] at h
            cases h
            simp only [opsE, wantA_ok hw ha.left.left, opW_ok ho ha.left.right]
            exact opsW_ok hr ha.right

theorem opsE_app {dk : Bool} {all : List Oper} : ∀ {l1 l2 : List Oper} {st st1 : St} {r : Option (Ex × St)}, opsE cx cf dk all l1 st = some (.normal, st1) → opsE cx cf dk all l2 st1 = r → opsE cx cf dk all (l1 ++ l2) st = r
  | [], l2, st, st1, r, h1, h2 => by
    simp only [opsE] at h1
    cases h1
    exact h2
  | o :: l1, l2, st, st1, r, h1, h2 => by
    simp only [List.cons_append]
    simp only [opsE] at h1 ⊢
    cases hw : wantE all st.tm o with
    | none => rw [hw] at h1; cases h1
    | some b =>
      rw [hw] at h1
      cases b with
      | false => exact opsE_app h1 h2
      | true =>
        dsimp only at h1 ⊢
        cases ho : opE cx cf st.tm st.h o.op with
        | none => rw [ho] at h1; cases h1
        | some q =>
          obtain ⟨out, h3⟩ := q
          rw [ho] at h1
          cases out with
          | val v => exact opsE_app h1 h2
          | pan c => cases h1
          | dfr d => exact opsE_app h1 h2
          | rcv =>
            cases dk with
            | true => exact opsE_app h1 h2
            | false => cases h1

/-- One operation that is wanted and comes to a value. -/
theorem opsE_one {dk : Bool} {all : List Oper} {o : Oper} {l : List Oper} {st : St} {v : Value} {h' : Heap} (hw : wantE all st.tm o = some true) (ho : opE cx cf st.tm st.h o.op = some (.val v, h')) :
    opsE cx cf dk all (o :: l) st = opsE cx cf dk all l { st with tm := putT st.tm o.dst v, h := h' } := by
  simp only [opsE, hw, ho]

end

noncomputable def outW (ts : List Nat) (r : Option (St × List Bool)) : Option (List (Nat × Value) × Heap × List Bool) := match r with
  | some (⟨tm, [], _, h⟩, bs) => match grabT tm ts with
    | some L => some (L, h, bs)
    | none => none
  | _ => none
theorem outW_inv {ts : List Nat} {r : Option (St × List Bool)} {L : List (Nat × Value)} {h : Heap} {bs : List Bool} (e : outW ts r = some (L, h, bs)) : ∃ st, r = some (st, bs) ∧ Weak st (stL L h) := by
  cases r with
  | none => cases e
  | some p =>
    obtain ⟨⟨tm, df, u, h1⟩, bs1⟩ := p
    cases df with
    | cons d l => cases e
    | nil =>
      simp only [outW] at e
      cases hg : grabT tm ts with
      | none => rw [hg] at e; cases e
      | some L1 =>
        rw [hg] at e
        cases e
        exact ⟨_, rfl, Weak.slots (st := ⟨tm, [], u, h⟩) hg rfl⟩

section
variable {cx : Cx} {N : Nat}
/-- A statement run along a told way. -/
theorem RunR.way (O : Ok cx ∧ Bd cx) {cf : CallFn} (C : CallsOk cx cf) {A : Way} {id : Nat} {ops : Array Oper} {st : St} {ts : List Nat} {L : List (Nat × Value)} {h : Heap} {bs : List Bool}
    (e : outW ts (opsW cx cf A ops.toList ops.toList st) = some (L, h, bs)) (ha : allT bs) (hB : dstsB N ops.toList = true) : RunR cx N (.region id ops false) st .normal (stL L h) := by
  obtain ⟨st', hx, W⟩ := outW_inv e
  exact (RunR.ops O C (opsW_ok hx ha) hB).weak W
end

/-! ### Memory beside -/
theorem cons_get (o : Obj) (L : List (Nat × Lo)) (i : Nat) : (trL ((0, .obj o) :: L)).get i = if i = 0 then some o else (trL L).get i := by
  show (sO (pathOf 0) (some o) (trL L)).get i = _
  rw [sO_eq, Tr.get_set]

theorem frame_core {m m' : Pm} {w w' : World} {o : Obj} {L L' : List (Nat × Lo)} {K K' : Nat} (S : Sim m (litH ((0, .obj o) :: L) K) w) (S' : Sim m' (litH L' K') w') (P : Stp m (litH L K) w m' (litH L' K') w')
    (h0 : (trL L).get 0 = none) : Sim m' (litH ((0, .obj o) :: L') K') w' ∧ Stp m (litH ((0, .obj o) :: L) K) w m' (litH ((0, .obj o) :: L') K') w' := by
  have g1 : ∀ i, (litH ((0, .obj o) :: L) K).get i = if i = 0 then some o else (litH L K).get i := fun i => cons_get o L i
  have g2 : ∀ i, (litH ((0, .obj o) :: L') K').get i = if i = 0 then some o else (litH L' K').get i := fun i => cons_get o L' i
  obtain ⟨p, hp, ho⟩ := S.live 0 o (by rw [g1, if_pos rfl])
  have hlt := ho.lt
  have away : ∀ z, ¬ Own z m (litH L K) p.blk := by
    rintro z ⟨j, oj, q, a1, _, a2, a3⟩
    have hj : j ≠ 0 := by
      rintro rfl
      have : (trL L).get 0 = some oj := a1
      rw [h0] at this; cases this
    exact S.inj j 0 oj o q p (by rw [g1, if_neg hj]; exact a1) (by rw [g1, if_pos rfl]) a2 hp hj a3
  have hk := P.keep p.blk hlt (away true)
  have hp' := P.le _ _ hp
  refine ⟨⟨S'.fresh, fun i oi hi => ?_, fun i j oi oj pi pj hi hj mi mj hne he => ?_⟩, ?_⟩
  · rw [g2] at hi
    split at hi
    · rename_i e; subst e; cases hi; exact ⟨p, hp', (ho.congr hk).mono P.le⟩
    · exact S'.live i oi hi
  · rw [g2] at hi hj
    split at hi <;> split at hj
    · rename_i e1 e2; exact hne (e1.trans e2.symm)
    · rename_i e1 e2
      subst e1
      rw [hp'] at mi; cases mi
      exact away false (P.own false p.blk hlt ⟨j, oj, pj, hj, fun h => Bool.noConfusion h, mj, he.symm⟩)
    · rename_i e1 e2
      subst e2
      rw [hp'] at mj; cases mj
      exact away false (P.own false p.blk hlt ⟨i, oi, pi, hi, fun h => Bool.noConfusion h, mi, he⟩)
    · exact S'.inj i j oi oj pi pj hi hj mi mj hne he
  · refine ⟨P.le, P.ids, P.nx, P.size, ?_, ?_, P.tape, P.os, P.output⟩
    · rintro z b hb ⟨i, oi, q, a1, az, a2, a3⟩
      rw [g2] at a1
      split at a1
      · rename_i e; subst e; cases a1
        rw [hp'] at a2; cases a2
        exact ⟨0, o, p, by rw [g1, if_pos rfl], az, hp, a3⟩
      · obtain ⟨j, oj, r, b1, bz, b2, b3⟩ := P.own z b hb ⟨i, oi, q, a1, az, a2, a3⟩
        have hj : j ≠ 0 := by
          rintro rfl
          have : (trL L).get 0 = some oj := b1
          rw [h0] at this; cases this
        exact ⟨j, oj, r, by rw [g1, if_neg hj]; exact b1, bz, b2, b3⟩
    · intro b hb hn
      refine P.keep b hb fun ⟨j, oj, r, b1, bz, b2, b3⟩ => hn ?_
      have hj : j ≠ 0 := by
        rintro rfl
        have : (trL L).get 0 = some oj := b1
        rw [h0] at this; cases this
      exact ⟨j, oj, r, by rw [g1, if_neg hj]; exact b1, bz, b2, b3⟩

theorem Sim.unframe {m : Pm} {w : World} {o : Obj} {L : List (Nat × Lo)} {K : Nat} (S : Sim m (litH ((0, .obj o) :: L) K) w) (h0 : (trL L).get 0 = none) : Sim m (litH L K) w := by
  refine S.sub (fun i oi hi => ?_) (Nat.le_refl _)
  show (trL ((0, .obj o) :: L)).get i = some oi
  rw [cons_get]
  have hj : i ≠ 0 := by
    rintro rfl
    have : (trL L).get 0 = some oi := hi
    rw [h0] at this; cases this
  rw [if_neg hj]; exact hi

/-- The memory that may stand beside. -/
def besd (o : Option Obj) (L : List (Nat × Lo)) : List (Nat × Lo) := match o with
  | some o => (0, .obj o) :: L
  | none => L

theorem CallR.beside {cx : Cx} {f : Nat} {args : List Value} {r : Fin} {L L' : List (Nat × Lo)} {K K' : Nat} (C : CallR cx f args (litH L K) r (litH L' K')) (h0 : (trL L).get 0 = none) (o : Option Obj) :
    CallR cx f args (litH (besd o L) K) r (litH (besd o L') K') := by
  cases o with
  | none => exact C
  | some o =>
    refine ⟨C.1, fun m w args' S hA => (C.2 m w args' (Sim.unframe S h0) hA).mono ?_⟩
    rintro e w' ⟨m', S', P, F⟩
    obtain ⟨a, b⟩ := frame_core S S' P h0
    exact ⟨m', a, b, F⟩

theorem RunR.beside {cx : Cx} {N : Nat} {c : Code} {ex : Ex} {T T' : List (Nat × Value)} {L L' : List (Nat × Lo)} {K K' : Nat} (R : RunR cx N c (stL T (litH L K)) ex (stL T' (litH L' K'))) (h0 : (trL L).get 0 = none) (o : Option Obj) :
    RunR cx N c (stL T (litH (besd o L) K)) ex (stL T' (litH (besd o L') K')) := by
  cases o with
  | none => exact R
  | some o =>
    intro m a cs w F b k
    obtain ⟨m', e, a', w', hA, F', P, E⟩ := R m a cs w ⟨Sim.unframe F.sim h0, F.tm, F.ds, F.size⟩ b k
    obtain ⟨g1, g2⟩ := frame_core F.sim F'.sim P h0
    exact ⟨m', e, a', w', hA, ⟨g1, F'.tm, F'.ds, F'.size⟩, g2, E⟩

end Go.Em

/-
  An outside function behind which some integers in memory are told anew: that they are what they are is noted.
-/
namespace Go.Em
set_option linter.unusedVariables false

def SameO (o o' : Option Obj) : Prop := o = o' ∨ ∃ size base tr tr' elem esz ro, o = some (.row size base tr elem esz ro) ∧ o' = some (.row size base tr' elem esz ro) ∧ ∀ i, rowAt base tr i = rowAt base tr' i
theorem SameO.trans {a b c : Option Obj} (h1 : SameO a b) (h2 : SameO b c) : SameO a c := by
  rcases h1 with rfl | ⟨s, b1, t1, t2, e, z, r, rfl, hb, hi⟩
  · exact h2
  · rcases h2 with rfl | ⟨s', b3, t3, t4, e', z', r', hb', rfl, hi'⟩
    · exact .inr ⟨s, b1, t1, t2, e, z, r, rfl, hb, hi⟩
    · rw [hb] at hb'
      cases hb'
      exact .inr ⟨_, _, _, _, _, _, _, rfl, rfl, fun i => (hi i).trans (hi' i)⟩
theorem SameO.agree {t : Part} {a b : Option Obj} (h : SameO a b) : AgreeO t a b := by
  rcases h with rfl | ⟨s, b1, t1, t2, e, z, r, rfl, hb, hi⟩
  · exact .refl t _
  · exact .inr ⟨s, b1, t1, b1, t2, e, z, r, rfl, hb, fun i _ _ => hi i⟩

noncomputable def natV : Value → Option (IntKind × Nat)
  | .int k (.ofNat n) => some (k, n)
  | _ => none
noncomputable def tell1 (b i v : Nat) (h : Heap) : Option (Heap × Bool) := match gO (pathOf b) h.tr with
  | some (.row size base tr elem esz ro) => match natV (rowG base tr i) with
    | some (k, x) => some (⟨sO (pathOf b) (some (.row size base (sV (pathOf i) (some (.int k (.ofNat v))) tr) elem esz ro)) h.tr, h.nx, ⟨b, i, 1⟩ :: h.dt⟩, Nat.beq x v)
    | none => none
  | _ => none
noncomputable def tells : List (Nat × Nat × Nat) → Heap → Option (Heap × List Bool)
  | [], h => some (h, [])
  | p :: l, h => match tell1 p.1 p.2.1 p.2.2 h with
    | some (h1, b) => match tells l h1 with
      | some (h2, bs) => some (h2, b :: bs)
      | none => none
    | none => none

theorem natV_eq {v : Value} {k : IntKind} {n : Nat} (h : natV v = some (k, n)) : v = .int k (.ofNat n) := by
  unfold natV at h
  split at h
  · cases h; rfl
  · cases h

theorem tell1_inv {b i v : Nat} {h h1 : Heap} {x : Bool} (ht : tell1 b i v h = some (h1, x)) : ∃ size base tr elem esz ro k y, h.get b = some (.row size base tr elem esz ro) ∧ rowAt base tr i = .int k (.ofNat y) ∧
    h1 = h.putAt b i [Value.int k (.ofNat v)].length (.row size base (setCells tr i [Value.int k (.ofNat v)]) elem esz ro) ∧ x = Nat.beq y v := by
  unfold tell1 at ht
  rw [gO_eq] at ht
  cases hg : h.tr.get b with
  | none => rw [hg] at ht; cases ht
  | some o =>
    rw [hg] at ht
    cases o with
    | map => cases ht
    | chan => cases ht
    | row size base tr elem esz ro =>
      dsimp only at ht
      rw [rowG_eq] at ht
      cases hn : natV (rowAt base tr i) with
      | none => rw [hn] at ht; cases ht
      | some p =>
        obtain ⟨k, y⟩ := p
        rw [hn] at ht
        cases ht
        rw [sO_eq, sV_eq]
        exact ⟨size, base, tr, elem, esz, ro, k, y, hg, natV_eq hn, rfl, rfl⟩

theorem tell1_same {b i v : Nat} {h h1 : Heap} {x : Bool} (ht : tell1 b i v h = some (h1, x)) (hx : x = true) : (∀ j, SameO (h.tr.get j) (h1.tr.get j)) ∧ h1.nx = h.nx := by
  obtain ⟨size, base, tr, elem, esz, ro, k, y, hg, e, rfl, rfl⟩ := tell1_inv ht
  have hy : y = v := Nat.eq_of_beq_eq_true hx
  subst hy
  refine ⟨fun j => ?_, rfl⟩
  show SameO (h.tr.get j) ((h.tr.set b _).get j)
  rw [Tr.get_set]
  split
  · rename_i ej
    subst ej
    have hg : h.tr.get j = _ := hg
    rw [hg]
    refine .inr ⟨size, base, tr, _, elem, esz, ro, rfl, rfl, fun q => ?_⟩
    rw [rowAt_setCells]
    split
    · rename_i hq
      have : q = i := by simp only [List.length_cons, List.length_nil] at hq; omega
      subst this
      rw [e]; simp
    · rfl
  · exact .inl rfl

theorem tell1_chg {b i v : Nat} {h h1 : Heap} {x : Bool} (ht : tell1 b i v h = some (h1, x)) : Chg h h1 := by
  obtain ⟨size, base, tr, elem, esz, ro, k, y, hg, e, rfl, rfl⟩ := tell1_inv ht
  exact Chg.putAt hg

theorem tells_same : ∀ {l : List (Nat × Nat × Nat)} {t t1 : Heap} {bs : List Bool}, tells l t = some (t1, bs) → allT bs → (∀ j, SameO (t.tr.get j) (t1.tr.get j)) ∧ t1.nx = t.nx
  | [], t, t1, bs, h, _ => by
    simp only [tells] at h
    cases h
    exact ⟨fun _ => .inl rfl, rfl⟩
  | p :: l, t, t1, bs, h, ha => by
    simp only [tells] at h
    cases h1 : tell1 p.1 p.2.1 p.2.2 t with
    | none => rw [h1] at h; cases h
    | some q =>
      obtain ⟨t2, b⟩ := q
      rw [h1] at h
      dsimp only at h
      cases h2 : tells l t2 with
      | none => rw [h2] at h; cases h
      | some q =>
        obtain ⟨t3, bs1⟩ := q
        rw [h2] at h
        cases h
        obtain ⟨a1, a2⟩ := tell1_same h1 (ha _ (by simp))
        obtain ⟨b1, b2⟩ := tells_same h2 (fun x hx => ha x (by simp [hx]))
        exact ⟨fun j => (a1 j).trans (b1 j), b2.trans a2⟩
theorem tells_chg : ∀ {l : List (Nat × Nat × Nat)} {t t1 : Heap} {bs : List Bool}, tells l t = some (t1, bs) → Chg t t1
  | [], t, t1, bs, h => by
    simp only [tells] at h
    cases h
    exact .refl _
  | p :: l, t, t1, bs, h => by
    simp only [tells] at h
    cases h1 : tell1 p.1 p.2.1 p.2.2 t with
    | none => rw [h1] at h; cases h
    | some q =>
      obtain ⟨t2, b⟩ := q
      rw [h1] at h
      dsimp only at h
      cases h2 : tells l t2 with
      | none => rw [h2] at h; cases h
      | some q =>
        obtain ⟨t3, bs1⟩ := q
        rw [h2] at h
        cases h
        exact (tell1_chg h1).trans (tells_chg h2)

theorem SameO.objR {m : Pm} {p : Pl} {w : World} {o o' : Obj} (h : SameO (some o) (some o')) (ho : ObjR m p w o) : ObjR m p w o' ∧ roO o = roO o' := by
  rcases h with e | ⟨s, b1, t1, t2, e, z, r, e1, e2, hi⟩
  · cases e; exact ⟨ho, rfl⟩
  · cases e1; cases e2
    obtain ⟨c, e, fz, h1, h2, h3, h4, h5, h6⟩ := ho
    refine ⟨⟨c, e, fz, h1, h2, h3, h4, h5, fun i hi' => ?_⟩, rfl⟩
    rw [← hi i]; exact h6 i hi'
theorem SameO.some {a : Option Obj} {o' : Obj} (h : SameO a (some o')) : ∃ o, a = Option.some o := by
  rcases h with e | ⟨s, b1, t1, t2, e, z, r, e1, e2, hi⟩
  · exact ⟨o', e⟩
  · exact ⟨_, e1⟩

theorem CallR.same {cx : Cx} {f : Nat} {args : List Value} {h : Heap} {r : Fin} {h1 h2 : Heap} (C : CallR cx f args h r h1) (hs : ∀ j, SameO (h1.tr.get j) (h2.tr.get j)) (hn : h2.nx = h1.nx) : CallR cx f args h r h2 := by
  refine ⟨C.1, fun m w args' S hA => (C.2 m w args' S hA).mono ?_⟩
  rintro e w' ⟨m', S', P, F⟩
  have key : ∀ i o', h2.get i = Option.some o' → ∃ o, h1.get i = Option.some o ∧ SameO (Option.some o) (Option.some o') := by
    intro i o' hi
    have hj := hs i
    have hi : h2.tr.get i = Option.some o' := hi
    rw [hi] at hj
    obtain ⟨o, ho⟩ := hj.some
    rw [ho] at hj
    exact ⟨o, ho, hj⟩
  refine ⟨m', ⟨fun i hi => S'.fresh i (by rw [← hn]; exact hi), ?_, ?_⟩, ⟨P.le, P.ids, by rw [hn]; exact P.nx, P.size, ?_, P.keep, P.tape, P.os, P.output⟩, F⟩
  · intro i o' hi
    obtain ⟨o, ho, hj⟩ := key i o' hi
    obtain ⟨p, hp, hr⟩ := S'.live i o ho
    exact ⟨p, hp, (hj.objR hr).1⟩
  · intro i j oi oj pi pj hi hj
    obtain ⟨o1, g1, _⟩ := key i oi hi
    obtain ⟨o2, g2, _⟩ := key j oj hj
    exact S'.inj i j o1 o2 pi pj g1 g2
  · rintro z b hb ⟨i, o', p, a1, az, a2, a3⟩
    obtain ⟨o, ho, hj⟩ := key i o' a1
    obtain ⟨q, hq, hr⟩ := S'.live i o ho
    exact P.own z b hb ⟨i, o, p, ho, fun e => by rw [(hj.objR hr).2]; exact az e, a2, a3⟩

noncomputable def tellU (inner : OutF) (nxt : Heap → List (Nat × Nat × Nat)) : OutF := fun args h => match inner args h with
  | some (r, h1) => match tells (nxt h) h1 with
    | some (h2, bs) => some (r, logH bs h2)
    | none => none
  | none => none
noncomputable def tellS (inner : OutF) (nxt : Heap → List (Nat × Nat × Nat)) : OutF := fun args h => match inner args h with
  | some (r, h1) => match tells (nxt h) h1 with
    | some (h2, bs) => match allB bs with
      | true => some (r, logH bs h2)
      | false => none
    | none => none
  | none => none
theorem tellU_inv {inner : OutF} {nxt : Heap → List (Nat × Nat × Nat)} {args : List Value} {h : Heap} {r : Fin} {h' : Heap} (hr : tellU inner nxt args h = some (r, h')) :
    ∃ h1 h2 bs, inner args h = some (r, h1) ∧ tells (nxt h) h1 = some (h2, bs) ∧ h' = logH bs h2 := by
  unfold tellU at hr
  cases hi : inner args h with
  | none => rw [hi] at hr; cases hr
  | some p =>
    obtain ⟨r1, h1⟩ := p
    rw [hi] at hr
    dsimp only at hr
    cases ht : tells (nxt h) h1 with
    | none => rw [ht] at hr; cases hr
    | some q =>
      obtain ⟨h2, bs⟩ := q
      rw [ht] at hr
      cases hr
      exact ⟨h1, h2, bs, rfl, ht, rfl⟩
theorem tellS_inv {inner : OutF} {nxt : Heap → List (Nat × Nat × Nat)} {args : List Value} {h : Heap} {r : Fin} {h' : Heap} (hr : tellS inner nxt args h = some (r, h')) :
    ∃ h1 h2 bs, inner args h = some (r, h1) ∧ tells (nxt h) h1 = some (h2, bs) ∧ allT bs ∧ h' = logH bs h2 := by
  unfold tellS at hr
  cases hi : inner args h with
  | none => rw [hi] at hr; cases hr
  | some p =>
    obtain ⟨r1, h1⟩ := p
    rw [hi] at hr
    dsimp only at hr
    cases ht : tells (nxt h) h1 with
    | none => rw [ht] at hr; cases hr
    | some q =>
      obtain ⟨h2, bs⟩ := q
      rw [ht] at hr
      dsimp only at hr
      cases hb : allB bs with
      | false => rw [hb] at hr; cases hr
      | true =>
        rw [hb] at hr
        cases hr
        exact ⟨h1, h2, bs, rfl, ht, allB_iff.1 hb, rfl⟩

theorem Chg.dt_log {h h1 : Heap} (bs : List Bool) (c : Chg h h1) : Chg h (logH bs h1) := chg_log bs c

theorem Out1.tell {cx : Cx} {e s : ExtF} {jt : Tr FT} (O : Ok cx ∧ Bd cx) (H : Outs cx e s) (HJ : ∀ f R, jt.get f = some R → JOk (withE cx s) f R) (f N : Nat) (nxt : Heap → List (Nat × Nat × Nat)) :
    Out1 cx f (tellU (callHU (withE cx s) e jt N f) nxt) (tellS (Em.call (withE cx s) N f) nxt) where
  ok := fun args h r h' hr => by
    obtain ⟨h1, h2, bs, hc, ht, hb, rfl⟩ := tellS_inv hr
    obtain ⟨a1, a2⟩ := tells_same ht hb
    exact CallR.same (H.okS O N f args h r h1 hc) (show ∀ j, SameO (h1.tr.get j) ((logH bs h2).tr.get j) from a1) (show (logH bs h2).nx = h1.nx from a2)
  chg := fun args h r h' hr => by
    obtain ⟨h1, h2, bs, hc, ht, hb, rfl⟩ := tellS_inv hr
    exact chg_log bs ((call_chg H.ext.2 N f args h r h1 hc).trans (tells_chg ht))
  echg := fun args h r h' hr => by
    obtain ⟨h1, h2, bs, hc, ht, rfl⟩ := tellU_inv hr
    exact chg_log bs ((H.keepsH HJ N f args h r h1 hc).trans (tells_chg ht))
  rel := fun args h r h' hr ha => by
    obtain ⟨h1, h2, bs, hc, ht, rfl⟩ := tellU_inv hr
    have c2 := tells_chg ht
    have hc' := H.relH HJ N f args h r h1 hc (Asm.of_chg c2 (Asm.right ha))
    unfold tellS
    rw [hc']
    dsimp only
    rw [ht]
    dsimp only
    rw [allB_iff.2 (asm_log ha)]

/-! ### An argument that is told -/
/-- The last argument, an integer, is told. -/
noncomputable def argU (inner : OutF) (k : IntKind) (v : Nat) : OutF := fun args h => match args with
  | [a, .int k' (.ofNat x)] => match decEq k' k with
    | isTrue _ => match inner [a, .int k (.ofNat v)] h with
      | some (r, h1) => some (r, logH [Nat.beq x v] h1)
      | none => none
    | isFalse _ => none
  | _ => none
noncomputable def argS (inner : OutF) (k : IntKind) (v : Nat) : OutF := fun args h => match args with
  | [a, .int k' (.ofNat x)] => match decEq k' k with
    | isTrue _ => match inner [a, .int k (.ofNat v)] h with
      | some (r, h1) => match Nat.beq x v with
        | true => some (r, logH [Nat.beq x v] h1)
        | false => none
      | none => none
    | isFalse _ => none
  | _ => none
theorem Out1.arg {cx : Cx} {f : Nat} {g g' : OutF} (o : Out1 cx f g g') (k : IntKind) (v : Nat) : Out1 cx f (argU g k v) (argS g' k v) := by
  have invS : ∀ args h r h', argS g' k v args h = some (r, h') → ∃ a h1 x, args = [a, .int k (.ofNat v)] ∧ x = true ∧ g' args h = some (r, h1) ∧ h' = logH [x] h1 := by
    intro args h r h' hr
    unfold argS at hr
    split at hr
    · rename_i a k' x
      split at hr
      · rename_i e _
        subst e
        split at hr
        · rename_i r1 h1 hi
          cases hb : Nat.beq x v with
          | false => rw [hb] at hr; cases hr
          | true =>
            rw [hb] at hr
            cases hr
            have := Nat.eq_of_beq_eq_true hb
            subst this
            exact ⟨a, h1, true, rfl, rfl, hi, rfl⟩
        · cases hr
      · cases hr
    · cases hr
  refine ⟨?_, ?_, ?_, ?_⟩
  · intro args h r h' hr
    obtain ⟨a, h1, x, rfl, hx, hg, rfl⟩ := invS _ _ _ _ hr
    exact CallR_dt (o.ok _ _ _ _ hg) rfl rfl
  · intro args h r h' hr
    obtain ⟨a, h1, x, rfl, hx, hg, rfl⟩ := invS _ _ _ _ hr
    exact chg_log _ (o.chg _ _ _ _ hg)
  · intro args h r h' hr
    unfold argU at hr
    split at hr
    · split at hr
      · rename_i e _
        subst e
        split at hr
        · rename_i r1 h1 hi
          cases hr
          exact chg_log _ (o.echg _ _ _ _ hi)
        · cases hr
      · cases hr
    · cases hr
  · intro args h r h' hr ha
    unfold argU at hr
    unfold argS
    split at hr
    · rename_i a k' x
      split at hr
      · rename_i e _
        subst e
        split at hr
        · rename_i r1 h1 hi
          cases hr
          have hb : Nat.beq x v = true := asm_log ha _ (by simp)
          have h3 := o.rel _ _ _ _ hi (Asm.right ha)
          split
          · rename_i e2
            rw [h3] at e2
            cases e2
            rw [hb]
          · rename_i e2
            rw [h3] at e2
            cases e2
        · cases hr
      · cases hr
    · cases hr

end Go.Em

/-
  Statements one behind the other by one run; told integers of any form.
-/
namespace Go.Em
set_option linter.unusedVariables false

noncomputable def seqs (l : List Code) (tail : Code) : Code := @List.rec Code (fun _ => Code) tail (fun c _ ih => .seq c ih) l
noncomputable def outN (ts : List Nat) (L0 : List (Nat × Lo)) (r : Option (Ex × St)) : Option (List (Nat × Value) × List (Nat × Lo) × Nat × List Nat) := match r with
  | some (.normal, ⟨tm, [], _, h⟩) => match grabT tm ts with
    | some L => match grab h.tr L0 with
      | some L' => some (L, L', h.nx, asmL h.dt)
      | none => none
    | none => none
  | _ => none
theorem outN_inv {ts : List Nat} {L0 L' : List (Nat × Lo)} {r : Option (Ex × St)} {L : List (Nat × Value)} {nx : Nat} {ns : List Nat} (e : outN ts L0 r = some (L, L', nx, ns)) :
    ∃ st, r = some (.normal, st) ∧ st.df = [] ∧ grabT st.tm ts = some L ∧ grab st.h.tr L0 = some L' ∧ st.h.nx = nx ∧ asmL st.h.dt = ns := by
  unfold outN at e
  split at e
  · rename_i tm u h
    split at e
    · rename_i L1 h1
      split at e
      · rename_i L2 h2
        cases e
        exact ⟨_, rfl, rfl, h1, h2, rfl, rfl⟩
      · cases e
    · cases e
  · cases e

theorem Weak.grabN {st : St} {ts : List Nat} {L : List (Nat × Value)} {L0 L' : List (Nat × Lo)} {nx : Nat} (hd : st.df = []) (ht : grabT st.tm ts = some L) (hg : Em.grab st.h.tr L0 = some L') (hn : st.h.nx ≤ nx) :
    Weak st (stL L (litH L' nx)) := by
  refine ⟨fun N m a w F => ⟨(F.sim.grab hg).sub (fun _ _ h => h) hn, fun t v h => F.tm t v (grabT_get ht t v (tmL_get L t v h)), by have d := F.ds; rw [hd] at d; exact d, F.size⟩, fun z m b ho => ?_, hn⟩
  obtain ⟨i, o, p, h1, hz, h2, h3⟩ := ho
  obtain ⟨l, hm, rfl⟩ := trL_get _ i o h1
  obtain ⟨o1, h4, h5⟩ := grab_sub hg i l hm
  exact ⟨i, o1, p, h4, fun e => h5.2 (hz e), h2, h3⟩

section
variable {cx : Cx} {e s : ExtF} {jt : Tr FT} {N : Nat}

theorem seqs_exec (O : Ok cx ∧ Bd cx) {cf : CallFn} (C : CallsOk cx cf) (D : DrawOk cx cf) {tail : Code} {ex : Ex} {st1 st' : St} : ∀ (l : List Code) (n : Nat) (st : St), exec cx cf false n (seqs l .skip) st = some (.normal, st1) → codeB N (seqs l .skip) = true →
    RunR cx N tail st1 ex st' → RunR cx N (seqs l tail) st ex st'
  | [], n, st, h, _, R => by
    cases n with
    | zero => cases h
    | succ n =>
      have h : some (Ex.normal, st) = some (Ex.normal, st1) := h
      cases h
      exact R
  | c :: l, n, st, h, hB, R => by
    cases n with
    | zero => cases h
    | succ n =>
      have hB : codeB N (.seq c (seqs l .skip)) = true := hB
      simp only [codeB] at hB
      have h : exec cx cf false (n + 1) (.seq c (seqs l .skip)) st = some (.normal, st1) := h
      simp only [exec] at h
      split at hB
      · rename_i hc
        split at h
        · rename_i s1 h1
          exact RunR.seq (RunR.of_exec O C D h1 hc) (seqs_exec O C D l n s1 h hB R)
        · rename_i hne
          exact absurd h (hne _)
      · cases hB

/-- Statements one behind the other by one run, and what is behind them. -/
theorem RunR.chain (O : Ok cx ∧ Bd cx) (H : Outs cx e s) (HJ : ∀ f R, jt.get f = some R → JOk (withE cx s) f R) {M n : Nat} {l : List Code} {tail : Code} {ex : Ex} {st st' : St} {ts : List Nat} {T : List (Nat × Value)} {L0 L : List (Nat × Lo)} {nx K : Nat} {ns : List Nat}
    (hr : outN ts L0 (exec (withE cx s) (callHU (withE cx s) e jt M) false n (seqs l .skip) st) = some (T, L, nx, ns)) (ha : ∀ n ∈ ns, n = 0) (hB : codeB N (seqs l .skip) = true) (hK : nx ≤ K)
    (R : RunR cx N tail (stL T (litH L K)) ex st') : RunR cx N (seqs l tail) st ex st' := by
  obtain ⟨st1, h1, h2, h3, h4, h5, h6⟩ := outN_inv hr
  have h7 := exec_rel (H.keepsH HJ M) (H.relH HJ M) n _ _ _ _ h1 (asmL_ok (by rw [h6]; exact ha))
  have C : CallsOk (withE cx s) (Em.call (withE cx s) M) := H.okS O M
  have K1 := call_chg H.ext.2 M
  exact seqs_exec (cx := withE cx s) (ok_withE O s) C (drawE_ok (ok_withE O s).1 C K1) l n st h7 hB (R.from (Weak.grabN h2 h3 h4 (by rw [h5]; exact hK)))
end

/-! ### An argument of any form that is told -/
noncomputable def isI (x : Int) (v : Nat) : Bool := @Decidable.rec (x = Int.ofNat v) (fun _ => Bool) (fun _ => false) (fun _ => true) (Int.decEq x (Int.ofNat v))
theorem isI_iff {x : Int} {v : Nat} : isI x v = true ↔ x = Int.ofNat v := by
  unfold isI
  cases Int.decEq x (Int.ofNat v) with
  | isTrue h => exact ⟨fun _ => h, fun _ => rfl⟩
  | isFalse h => exact ⟨fun e => Bool.noConfusion e, fun e => absurd e h⟩
noncomputable def argIU (inner : OutF) (k : IntKind) (v : Nat) : OutF := fun args h => match args with
  | [a, .int k' x] => match decEq k' k with
    | isTrue _ => match inner [a, .int k (.ofNat v)] h with
      | some (r, h1) => some (r, logH [isI x v] h1)
      | none => none
    | isFalse _ => none
  | _ => none
noncomputable def argIS (inner : OutF) (k : IntKind) (v : Nat) : OutF := fun args h => match args with
  | [a, .int k' x] => match decEq k' k with
    | isTrue _ => match inner [a, .int k (.ofNat v)] h with
      | some (r, h1) => match isI x v with
        | true => some (r, logH [isI x v] h1)
        | false => none
      | none => none
    | isFalse _ => none
  | _ => none
theorem Out1.argI {cx : Cx} {f : Nat} {g g' : OutF} (o : Out1 cx f g g') (k : IntKind) (v : Nat) : Out1 cx f (argIU g k v) (argIS g' k v) := by
  have invS : ∀ args h r h', argIS g' k v args h = some (r, h') → ∃ a h1 x, args = [a, .int k (.ofNat v)] ∧ g' args h = some (r, h1) ∧ h' = logH [x] h1 := by
    intro args h r h' hr
    unfold argIS at hr
    split at hr
    · rename_i a k' x
      split at hr
      · rename_i e _
        subst e
        split at hr
        · rename_i r1 h1 hi
          cases hb : isI x v with
          | false => rw [hb] at hr; cases hr
          | true =>
            rw [hb] at hr
            cases hr
            have := isI_iff.1 hb
            subst this
            exact ⟨a, h1, true, rfl, hi, rfl⟩
        · cases hr
      · cases hr
    · cases hr
  refine ⟨?_, ?_, ?_, ?_⟩
  · intro args h r h' hr
    obtain ⟨a, h1, x, rfl, hg, rfl⟩ := invS _ _ _ _ hr
    exact CallR_dt (o.ok _ _ _ _ hg) rfl rfl
  · intro args h r h' hr
    obtain ⟨a, h1, x, rfl, hg, rfl⟩ := invS _ _ _ _ hr
    exact chg_log _ (o.chg _ _ _ _ hg)
  · intro args h r h' hr
    unfold argIU at hr
    split at hr
    · split at hr
      · rename_i e _
        subst e
        split at hr
        · rename_i r1 h1 hi
          cases hr
          exact chg_log _ (o.echg _ _ _ _ hi)
        · cases hr
      · cases hr
    · cases hr
  · intro args h r h' hr ha
    unfold argIU at hr
    unfold argIS
    split at hr
    · rename_i a k' x
      split at hr
      · rename_i e _
        subst e
        split at hr
        · rename_i r1 h1 hi
          cases hr
          have hb : isI x v = true := asm_log ha _ (by simp)
          have h3 := o.rel _ _ _ _ hi (Asm.right ha)
          split
          · rename_i e2
            rw [h3] at e2
            cases e2
            rw [hb]
          · rename_i e2
            rw [h3] at e2
            cases e2
        · cases hr
      · cases hr
    · cases hr

end Go.Em

/-
  Statements with one call that is known.
-/
namespace Go.Em
set_option linter.unusedVariables false

section
variable {cx : Cx} {N : Nat}
theorem RunR.call1 (O : Ok cx ∧ Bd cx) {f0 : Nat} {a0 : List Value} {h0 h1 : Heap} {r : Fin} (C : CallR cx f0 a0 h0 r h1) {A : Way} {id : Nat} {ops : Array Oper} {st : St} {ts : List Nat} {L : List (Nat × Value)} {h : Heap} {bs : List Bool}
    (k1 : ∀ cf : CallFn, opsW cx cf A ops.toList ops.toList st = opsW cx (fun _ _ _ => cf f0 a0 h0) A ops.toList ops.toList st)
    (k2 : outW ts (opsW cx (fun _ _ _ => some (r, h1)) A ops.toList ops.toList st) = some (L, h, bs)) (ha : allT bs) (hB : dstsB N ops.toList = true) : RunR cx N (.region id ops false) st .normal (stL L h) := by
  refine RunR.way O (oneCall_ok C) (A := A) (ts := ts) (bs := bs) ?_ ha hB
  rw [k1]
  have e : (fun (_ : Nat) (_ : List Value) (_ : Heap) => oneCall f0 a0 h0 (r, h1) f0 a0 h0) = (fun _ _ _ => some (r, h1)) := by
    funext _ _ _
    exact oneCall_at f0 a0 h0 (r, h1)
  rw [e]
  exact k2
end

/-- Small numbers are what they are. -/
theorem wrap64 {n : Int} (h1 : -9223372036854775808 ≤ n) (h2 : n < 9223372036854775808) : IntKind.wrap .i64 n = n := by
  simp only [IntKind.wrap, IntKind.bits, IntKind.signed]
  first
    | omega
    | (simp; omega)
theorem wrap32 {n : Int} (h1 : 0 ≤ n) (h2 : n < 4294967296) : IntKind.wrap .u32 n = n := by
  simp only [IntKind.wrap, IntKind.bits, IntKind.signed]
  first
    | omega
    | (simp; omega)
end Go.Em
