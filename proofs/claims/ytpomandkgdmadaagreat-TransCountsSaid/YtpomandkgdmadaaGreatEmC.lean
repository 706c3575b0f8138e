/-
  Calls.
-/
import Derived.Test.YtpomandkgdmadaaGreatEmB
namespace Go.Em
section
variable {cx : Cx}

/-- One result. -/
def resVar (tmps : Array Value) : ResultVar → Sem Value
  | .tmp t => pure (tmps.getD t undef)
  | .cell a t => do loadVar t (← asAddr (tmps.getD a undef))

theorem resE_run (O : Ok cx) {m : Pm} {h : Heap} {w : World} (S : Sim m h w) {tm : Tr Value} {ts : Array Value} (T : Tm m tm ts) : ∀ (l : List ResultVar) (vs : List Value), resE cx tm h l = some vs →
    ∃ vs', (l.mapM (resVar ts)).run cx.P w = .ok vs' w ∧ Vs m vs vs'
  | [], vs, h => by
    cases h
    exact ⟨[], by simp, .nil⟩
  | .tmp t :: l, vs, h => by
    simp only [resE] at h
    split at h
    · rename_i v vs' hv hvs
      cases h
      obtain ⟨r, h1, h2⟩ := resE_run O S T l vs' hvs
      exact ⟨ts.getD t undef :: r, by simp [List.mapM_cons, resVar, h1], .cons (T t v hv) h2⟩
    · cases h
  | .cell c t :: l, vs, h => by
    simp only [resE] at h
    split at h
    · rename_i ad ha
      split at h
      · rename_i v vs' hv hvs
        cases h
        obtain ⟨r, h1, h2⟩ := resE_run O S T l vs' hvs
        obtain ⟨p, hp, hsp, v', h3, h4⟩ := loadT_run O S hv
        obtain ⟨q, hq, _, e⟩ := ptr_inv (T c _ ha)
        rw [hp] at hq; cases hq
        exact ⟨v' :: r, by simp only [List.mapM_cons, resVar, e, asAddr, Sem.run_bind, Sem.run_pure, Result.andThen_ok, h3, h1], .cons h4 h2⟩
      · cases h
    · cases h

theorem results_run (O : Ok cx) {m : Pm} {h : Heap} {w : World} (S : Sim m h w) {tm : Tr Value} {ts : Array Value} (T : Tm m tm ts) {fn : Func} {vs : List Value} (hr : resE cx tm h fn.results.toList = some vs) :
    ∃ v', (results fn ts).run cx.P w = .ok v' w ∧ V m (one vs) v' := by
  obtain ⟨r, h1, h2⟩ := resE_run O S T _ _ hr
  have he : results fn ts = (do
      let vs ← fn.results.mapM (resVar ts)
      pure (if h : vs.size = 1 then vs[0] else .tuple vs)) := by
    unfold results
    refine congrArg (fun f => fn.results.mapM f >>= fun vs => pure (if h : vs.size = 1 then vs[0] else Value.tuple vs)) ?_
    funext x
    cases x <;> rfl
  have hrun : (fn.results.mapM (resVar ts)).run cx.P w = .ok r.toArray w := by
    rw [Array.mapM_eq_mapM_toList, Sem.run_map, h1]
    rfl
  refine ⟨if h : r.toArray.size = 1 then r.toArray[0] else .tuple r.toArray, ?_, ?_⟩
  · rw [he, Sem.run_bind, hrun]
    rfl
  · cases h2 with
    | nil => exact tuple_iff.2 .nil
    | cons hv hl =>
      cases hl with
      | nil => simpa [one] using hv
      | cons hv' hl =>
        have := hl.length
        rw [dif_neg (by simp)]
        exact tuple_iff.2 (.cons hv (.cons hv' hl))

theorem argsT_get : ∀ (l : List Value) (i : Nat) (t : Tr Value) (k : Nat), (argsT i l t).get k = if i ≤ k ∧ k < i + l.length then l[k - i]? else t.get k
  | [], i, t, k => by rw [if_neg (by simp)]; rfl
  | v :: l, i, t, k => by
    simp only [argsT, argsT_get l, Tr.get_set, List.length_cons]
    by_cases h0 : k = i
    · subst h0
      rw [if_neg (by omega), if_pos rfl, if_pos (by omega)]
      simp
    · by_cases h1 : i + 1 ≤ k ∧ k < i + 1 + l.length
      · rw [if_pos h1, if_pos (by omega), show k - i = (k - (i + 1)) + 1 from by omega]
        simp
      · rw [if_neg h1, if_neg h0, if_neg (by omega)]

theorem argsT_Tm {m : Pm} {args : List Value} {args' rest : Array Value} (h : Vs m args args'.toList) : Tm m (argsT 0 args .nil) (args' ++ rest) := by
  intro t v hv
  rw [argsT_get, Tr.get_nil] at hv
  split at hv
  · rename_i hlt
    obtain ⟨v', h1, h2⟩ := h.get t v (by simpa using hv)
    have h3 : args'[t]? = some v' := by simpa using h1
    have hsz : t < args'.size := by
      rcases Nat.lt_or_ge t args'.size with l | l
      · exact l
      · rw [Array.getElem?_eq_none l] at h3; cases h3
    have h4 : (args' ++ rest)[t]? = some v' := by rw [Array.getElem?_append_left hsz, h3]
    rw [Array.getD_eq_getD_getElem?, h4]
    exact h2
  · cases hv

/-- The slots are in range. -/
def Bd (cx : Cx) : Prop := ∀ f x, cx.fn f = some x → codeB x.1.ntmps x.2 = true

theorem enter_Fr {m : Pm} {h : Heap} {w : World} (S : Sim m h w) {fn : Func} {args : List Value} {args' : Array Value} (hA : Vs m args args'.toList) (u : FrameMode) :
    Fr fn.ntmps m ⟨argsT 0 args .nil, [], u, h⟩ { tmps := args' ++ Array.replicate (fn.ntmps - args'.size) undef, defers := [] } w :=
  ⟨S, argsT_Tm hA, .nil, by simp; omega⟩

/-- A deferred call. -/
theorem callD_run (O : Ok cx) (hB : Bd cx) {cf : CallFn} (C : CallsOk cx cf) (D : DrawOk cx cf) {n g : Nat} {args : List Value} {u u1 : FrameMode} {h h1 : Heap} {r : Fin} (hc : callD cx cf n g args u h = some (r, u1, h1)) {m : Pm} {w : World} (S : Sim m h w)
    {args' : Array Value} (hA : Vs m args args'.toList) {um : FrameMode} (hu : Um m u um) :
    (∃ fn, cx.P.funcs[g]? = some fn ∧ fn.body.isNone = false ∧ (fn.name == "runtime.NumGoroutine") = false) ∧
    CallsD cx.P g args' um w fun e um' w' => ∃ m', Sim m' h1 w' ∧ Stp m h w m' h1 w' ∧ FinR m' r e ∧ Um m' u1 um' := by
  unfold callD at hc
  split at hc
  · cases hc
  · rename_i fn c hfn
    obtain ⟨hf, hb, hname⟩ := O.func g _ hfn
    simp only at hf hb hname
    refine ⟨⟨fn, hf, by rw [hb]; rfl, hname⟩, ?_⟩
    split at hc
    · cases hc
    · rename_i ex st hex
      refine callsD_of_wpS hf hb fun c₀ cs hc₀ => ?_
      intro b k hbk hbr
      obtain ⟨m', e, a', cs', w', hArr, hK⟩ := exec_run O C D (dk := true) (c₀ := c₀) (rest := cs) n c _ ex st hex (hB g _ hfn) m _ (c₀ :: cs) w (enter_Fr S hA u) (fun _ => ⟨c₀.mode, rfl, hc₀ ▸ hu⟩) b k (fun _ => ⟨hbk, hbr⟩)
      refine ⟨e, a', cs', w', ?_, starts_code hArr⟩
      obtain ⟨hF, hBl, _, hS, hE⟩ := hK
      obtain ⟨u', hcs, hUm⟩ := hBl rfl
      split at hc
      · cases hc
      · rename_i hdf
        have hdef : a'.defers = [] := by
          have := hF.ds
          rw [hdf] at this
          generalize a'.defers = l at this
          cases this
          rfl
        have fin : ∀ {vs : List Value}, resE cx st.tm st.h fn.results.toList = some vs → r = .ret (one vs) → u1 = st.u → h1 = st.h → a'.defers = [] ∧ ∃ u', cs' = { c₀ with mode := u' } :: cs ∧ ∃ v, (results fn a'.tmps).run cx.P w' = .ok v w' ∧
            ∃ m', Sim m' h1 w' ∧ Stp m h w m' h1 w' ∧ FinR m' r (.returned v) ∧ Um m' u1 u' := by
          intro vs hv h1 h2 h3
          subst h1; subst h2; subst h3
          obtain ⟨v', k1, k2⟩ := results_run O hF.sim hF.tm hv
          exact ⟨hdef, u', hcs, v', k1, m', hF.sim, hS, k2, hUm⟩
        cases hE with
        | pan hC =>
          simp only at hc
          cases hc
          exact ⟨hdef, u', hcs, m', hF.sim, hS, hC, hUm⟩
        | exit => simp only at hc; cases hc
        | normal =>
          simp only at hc
          split at hc
          · rename_i vs hv
            cases hc
            exact fin hv rfl rfl rfl
          · cases hc
        | ret =>
          simp only at hc
          split at hc
          · rename_i vs hv
            cases hc
            exact fin hv rfl rfl rfl
          · cases hc

theorem Um.settle {m : Pm} {u u' : FrameMode} (h : Um m u u') : Um m (Go.settle u) (Go.settle u') := by
  have dw : ∀ {l l' : List PanicEntry}, Cs m l l' → Cs m (l.dropWhile (!·.goexit)) (l'.dropWhile (!·.goexit)) := by
    intro l l' h
    induction h with
    | nil => exact .nil
    | cons hv hl ih =>
      rename_i v v' r g l l'
      cases g
      · simpa using ih
      · simpa using Cs.cons hv hl
  cases h with
  | run => exact .run
  | returning => exact .returning
  | panicking hc =>
    cases hc with
    | nil => exact .panicking .nil
    | cons hv hl =>
      rename_i v v' r g l l'
      cases r
      · exact .panicking (.cons hv hl)
      · have := dw hl
        simp only [Go.settle]
        generalize l.dropWhile (!·.goexit) = x at this ⊢
        generalize l'.dropWhile (!·.goexit) = y at this ⊢
        cases this with
        | nil => exact .returning
        | cons a b => exact .panicking (.cons a b)

theorem Um.raised {m : Pm} {u u' : FrameMode} {c c' : List PanicEntry} (h : Um m u u') (hc : Cs m c c') : Um m (Go.raised u c) (Go.raised u' c') := by
  have app : ∀ {l l' k k' : List PanicEntry}, Cs m l l' → Cs m k k' → Cs m (l ++ k) (l' ++ k') := by
    intro l l' k k' h1 h2
    induction h1 with
    | nil => exact h2
    | cons hv _ ih => exact .cons hv ih
  cases h with
  | run => exact .panicking hc
  | returning => exact .panicking hc
  | panicking ho => exact .panicking (app hc ho)

/-- A frame's deferred calls. -/
theorem leave_run (O : Ok cx) (hB : Bd cx) {cf : CallFn} (C : CallsOk cx cf) (D : DrawOk cx cf) {n : Nat} {fn : Func} {tm : Tr Value} {ts : Array Value} {r : Fin} {h1 : Heap} : ∀ (ds : List Deferred) (u : FrameMode) (h : Heap), leave cx (callD cx cf n) fn tm ds u h = some (r, h1) →
    ∀ (m : Pm) (w : World) (ds' : List Deferred) (u' : FrameMode), Sim m h w → Tm m tm ts → Ds m ds ds' → Um m u u' → ∀ (R : Ending → World → Prop), (∀ m' e w', Sim m' h1 w' → Stp m h w m' h1 w' → FinR m' r e → R e w') → Leaves cx.P fn ts R ds' u' w
  | [], u, h, hl, m, w, ds', u', S, T, hds, hu, R, hR => by
    cases hds
    cases hu with
    | run => simp only [leave] at hl; cases hl
    | returning =>
      simp only [leave] at hl
      split at hl
      · rename_i vs hv
        cases hl
        obtain ⟨v', k1, k2⟩ := results_run O S T hv
        exact ⟨v', k1, hR m _ w S (.refl _ _ _) k2⟩
      · cases hl
    | panicking hc =>
      simp only [leave] at hl
      cases hl
      exact hR m _ w S (.refl _ _ _) hc
  | d :: ds, u, h, hl, m, w, _, u', S, T, hds, hu, R, hR => by
    cases hds with
    | cons hd hds =>
      cases hd with
      | mk hcap hargs =>
        rename_i ds' g cap cap' args args'
        have hne : u ≠ .run := by
          intro e
          subst e
          simp only [leave] at hl
          cases hl
        have hne' : u' ≠ .run := by
          intro e
          subst e
          cases hu
          exact hne rfl
        have hl' : (match callD cx cf n g (args.toList ++ cap.toList) u h with
            | some (.ret _, u, h) => leave cx (callD cx cf n) fn tm ds (Go.settle u) h
            | some (.pan chain, u, h) => leave cx (callD cx cf n) fn tm ds (Go.raised u chain) h
            | none => none) = some (r, h1) := by
          cases u with
          | run => exact absurd rfl hne
          | returning =>
            simp only [leave] at hl
            exact (show _ = _ from hl)
          | panicking c =>
            simp only [leave] at hl
            exact (show _ = _ from hl)
        have hA : Vs m (args.toList ++ cap.toList) (args' ++ cap').toList := by simpa using hargs.append hcap
        split at hl'
        · rename_i v u2 h2 hcd
          obtain ⟨⟨f, hf, hbody, hname⟩, hcall⟩ := callD_run O hB C D hcd S hA hu
          refine ⟨hne', .func g, cap', g, args' ++ cap', rfl, ?_, hcall.mono fun e um' w' ⟨m', k1, k2, k3, k4⟩ => ?_⟩
          · simp only [invoke, callFunc, Sem.run_bind, run_program, Result.andThen_ok, hf, hname, hbody, Sem.run_pure, Bool.false_eq_true, if_false]
          · cases e with
            | returned v' => exact leave_run O hB C D ds _ _ hl' m' w' ds' _ k1 (T.mono k2.le) (hds.mono k2.le) k4.settle R fun m2 e w2 g1 g2 g3 => hR m2 e w2 g1 (k2.trans g2) g3
            | panicked c' => exact k3.elim
            | outgrown => exact k3.elim
        · rename_i c u2 h2 hcd
          obtain ⟨⟨f, hf, hbody, hname⟩, hcall⟩ := callD_run O hB C D hcd S hA hu
          refine ⟨hne', .func g, cap', g, args' ++ cap', rfl, ?_, hcall.mono fun e um' w' ⟨m', k1, k2, k3, k4⟩ => ?_⟩
          · simp only [invoke, callFunc, Sem.run_bind, run_program, Result.andThen_ok, hf, hname, hbody, Sem.run_pure, Bool.false_eq_true, if_false]
          · cases e with
            | returned v' => exact k3.elim
            | panicked c' => exact leave_run O hB C D ds _ _ hl' m' w' ds' _ k1 (T.mono k2.le) (hds.mono k2.le) (k4.raised k3) R fun m2 e w2 g1 g2 g3 => hR m2 e w2 g1 (k2.trans g2) g3
            | outgrown => exact k3.elim
        · cases hl'

/-- Functions that are not gone into. -/
def ExtOk (cx : Cx) : Prop := ∀ f g, cx.ext f = some g → ∀ args h r h', g args h = some (r, h') → CallR cx f args h r h'

/-- A call. -/
theorem call_run (O : Ok cx) (hB : Bd cx) (E : ExtOk cx) (D : ∀ n, CallsOk cx (call cx n) → DrawOk cx (call cx n)) : ∀ n, CallsOk cx (call cx n)
  | 0 => fun f args h r h' hc => by simp only [call] at hc; cases hc
  | n + 1 => fun f args h r h' hc => by
    have C := call_run O hB E D n
    simp only [call] at hc
    split at hc
    · rename_i g hg
      exact E f g hg args h r h' hc
    · split at hc
      · cases hc
      · rename_i fn c hfn
        obtain ⟨hf, hb, hname⟩ := O.func f _ hfn
        simp only at hf hb hname
        refine ⟨⟨fn, hf, by rw [hb]; rfl, hname⟩, fun m w args' S hA => ?_⟩
        split at hc
        · cases hc
        · rename_i ex st hex
          refine calls_of_wp_defers hf hb fun b k cs => ?_
          obtain ⟨m', e, a', cs', w', hArr, hK⟩ := exec_run O C (D _ C) (dk := false) (c₀ := default) (rest := []) n c _ ex st hex (hB f _ hfn) m _ cs w (enter_Fr S hA .run) (fun h => by cases h) b k (fun h => by cases h)
          obtain ⟨hF, _, hcs, hS, hE⟩ := hK
          have hcs := hcs rfl
          subst hcs
          refine ⟨e, a', w', ?_, starts_code hArr⟩
          have fin : ∀ {u u' : FrameMode}, Um m' u u' → leave cx (callD cx (call cx n) n) fn st.tm st.df u st.h = some (r, h') → Leaves cx.P fn a'.tmps (fun e w' => ∃ m', Sim m' h' w' ∧ Stp m h w m' h' w' ∧ FinR m' r e) a'.defers u' w' := by
            intro u u' hu hl
            exact leave_run O hB C (D _ C) _ _ _ hl m' w' _ _ hF.sim hF.tm hF.ds hu _ fun m2 e w2 g1 g2 g3 => ⟨m2, g1, hS.trans g2, g3⟩
          cases hE with
          | pan hC => exact fin (.panicking hC) hc
          | exit => simp only at hc; cases hc
          | normal => exact fin .returning hc
          | ret => exact fin .returning hc

end
end Go.Em

namespace Go.Em

theorem emask_spec (md : Region.Mode) : ∀ (l : List Edge) (e : Edge), e ∈ l → Region.binds md e = true → (emask md l).testBit e.on = true
  | [], e, h, _ => by cases h
  | x :: l, e, h, hb => by
    simp only [emask]
    rcases List.mem_cons.1 h with rfl | h
    · rw [hb]
      show (2 ^ e.on ||| emask md l).testBit e.on = true
      rw [Nat.testBit_or, Nat.testBit_two_pow_self]
      rfl
    · have := emask_spec md l e h hb
      split
      · show (2 ^ x.on ||| emask md l).testBit e.on = true
        rw [Nat.testBit_or, this, Bool.or_true]
      · exact this

theorem land_sub {a b : Nat} (h : Nat.beq (Nat.land a b) a = true) {k : Nat} (hk : a.testBit k = true) : b.testBit k = true := by
  have e : a &&& b = a := Nat.eq_of_beq_eq_true h
  have : (a &&& b).testBit k = true := by rw [e]; exact hk
  rw [Nat.testBit_and] at this
  simp only [Bool.and_eq_true] at this
  exact this.2

theorem drainPass_sound {md : Region.Mode} {ops : Array Oper} {listed : Array Bool} (hs : listed.size = ops.size) (hr : Region.ready md ops listed = []) : ∀ (l : List Oper) (i done : Nat), ops.toList.drop i = l →
    (∀ k, done.testBit k = true → listed.getD k false = true) → ∀ k, (drainPass md i l done).testBit k = true → listed.getD k false = true
  | [], i, done, hi, hd => hd
  | o :: l, i, done, hi, hd => by
    obtain ⟨ho, hi'⟩ := range'_drop hi
    simp only [drainPass]
    split
    · rename_i hb
      refine drainPass_sound hs hr l (i + 1) _ hi' fun k hk => ?_
      have hk : (done ||| 2 ^ i).testBit k = true := hk
      rw [Nat.testBit_or, Bool.or_eq_true] at hk
      rcases hk with hk | hk
      · exact hd k hk
      · rw [Nat.testBit_two_pow] at hk
        have e : i = k := by simpa using hk
        subst e
        have hlt : i < ops.size := (Array.getElem?_eq_some_iff.1 ho).1
        cases hl : listed.getD i false with
        | true => rfl
        | false =>
          have hl' : listed.getD i true = false := by
            have : i < listed.size := by omega
            simpa [this] using hl
          have : i ∈ Region.ready md ops listed := mem_ready.2 ⟨hl', o, ho, fun e he hbn => hd _ (land_sub hb (emask_spec md _ e (by simpa using he) hbn))⟩
          rw [hr] at this
          cases this
    · exact drainPass_sound hs hr l (i + 1) _ hi' hd

theorem drain_sound {md : Region.Mode} {ops : Array Oper} {listed : Array Bool} (hs : listed.size = ops.size) (hr : Region.ready md ops listed = []) : ∀ (f done : Nat), drain md ops.toList (Nat.pow 2 ops.toList.length - 1) f done = true →
    (∀ k, done.testBit k = true → listed.getD k false = true) → ∀ k, k < ops.size → listed.getD k false = true := by
  have full : ∀ done, Nat.beq done (Nat.pow 2 ops.toList.length - 1) = true → (∀ k, done.testBit k = true → listed.getD k false = true) → ∀ k, k < ops.size → listed.getD k false = true := fun done hb hd k hk => by
    have e : done = 2 ^ ops.size - 1 := by
      have := Nat.eq_of_beq_eq_true hb
      simpa using this
    refine hd k ?_
    rw [e, Nat.testBit_two_pow_sub_one]
    simpa using hk
  intro f
  induction f with
  | zero => intro done h hd; exact full done h hd
  | succ f ih =>
    intro done h hd
    simp only [drain] at h
    split at h
    · rename_i hb; exact full done hb hd
    · exact ih _ h (drainPass_sound hs hr _ 0 done rfl hd)

/-- Where nothing may be done, all is done. -/
theorem drainsB_sound {ops : Array Oper} (h : drainsB ops.toList = true) (md : Region.Mode) {listed : Array Bool} (hs : listed.size = ops.size) (hr : Region.ready md ops listed = []) : ∀ k, k < ops.size → listed.getD k false = true := by
  have z : ∀ k, (0 : Nat).testBit k = true → listed.getD k false = true := fun k hk => by simp at hk
  unfold drainsB at h
  split at h
  · rename_i h1
    split at h
    · rename_i h2
      cases md with
      | text => exact drain_sound hs hr _ 0 h2 z
      | gc => exact drain_sound hs hr _ 0 h1 z
      | any => exact drain_sound hs hr _ 0 h z
    · cases h
  · cases h

end Go.Em

namespace Go.Em

/-- Two blocks that are alike in a part. -/
def AgreeO (t : Part) (o o' : Option Obj) : Prop := o = o' ∨ ∃ size base tr base' tr' elem esz ro, o = some (.row size base tr elem esz ro) ∧ o' = some (.row size base' tr' elem esz ro) ∧
  ∀ i, t.off ≤ i → i < t.off + t.len → rowAt base tr i = rowAt base' tr' i

theorem AgreeO.refl (t : Part) (o : Option Obj) : AgreeO t o o := .inl rfl

theorem AgreeO.trans {t : Part} {a b c : Option Obj} (h1 : AgreeO t a b) (h2 : AgreeO t b c) : AgreeO t a c := by
  rcases h1 with rfl | ⟨s, b1, t1, b2, t2, e, z, r, rfl, hb, hi⟩
  · exact h2
  · rcases h2 with rfl | ⟨s', b3, t3, b4, t4, e', z', r', hb', rfl, hi'⟩
    · exact .inr ⟨s, b1, t1, b2, t2, e, z, r, rfl, hb, hi⟩
    · rw [hb] at hb'
      cases hb'
      exact .inr ⟨_, _, _, _, _, _, _, _, rfl, rfl, fun i h1 h2 => (hi i h1 h2).trans (hi' i h1 h2)⟩

theorem hits_append (t : Part) : ∀ (a b : List Part), hits t (a ++ b) = (hits t a || hits t b)
  | [], b => by simp [hits]
  | x :: a, b => by
    simp only [List.cons_append, hits, hits_append t a b]
    split
    · split
      · rfl
      · split <;> first | rfl | skip
    · rfl

/-- What a step changes. -/
structure Chg (h h' : Heap) : Prop where
  nx : h.nx ≤ h'.nx
  old : ∀ x, x < h.nx → h.get x = none → h'.get x = none
  dt : ∃ ws, h'.dt = ws ++ h.dt ∧ ∀ t : Part, hits t ws = false → AgreeO t (h.get t.n) (h'.get t.n)

theorem Chg.refl (h : Heap) : Chg h h := ⟨Nat.le_refl _, fun _ _ e => e, [], rfl, fun _ _ => .refl _ _⟩

theorem Chg.trans {a b c : Heap} (h1 : Chg a b) (h2 : Chg b c) : Chg a c := by
  obtain ⟨n1, o1, w1, e1, a1⟩ := h1
  obtain ⟨n2, o2, w2, e2, a2⟩ := h2
  refine ⟨Nat.le_trans n1 n2, fun x hx e => o2 x (Nat.lt_of_lt_of_le hx n1) (o1 x hx e), w2 ++ w1, by rw [e2, e1, List.append_assoc], fun t hh => ?_⟩
  rw [hits_append, Bool.or_eq_false_iff] at hh
  exact (a1 t hh.2).trans (a2 t hh.1)

theorem hits_whole {t : Part} {n : Nat} (h : hits t [⟨n, 0, unk⟩] = false) : t.n ≠ n := by
  intro e
  subst e
  simp [hits, Nat.beq_refl] at h

theorem Chg.put {h : Heap} {n : Nat} {o : Option Obj} (hn : h.get n ≠ none) : Chg h (h.put n o) := by
  refine ⟨Nat.le_refl _, fun x _ e => ?_, [⟨n, 0, unk⟩], rfl, fun t hh => ?_⟩
  · rw [Heap.get_put, if_neg]
    · exact e
    · intro hx; subst hx; exact hn e
  · rw [Heap.get_put, if_neg (hits_whole hh)]
    exact .refl _ _

theorem Chg.add (h : Heap) (o : Obj) : Chg h (h.add o) := by
  refine ⟨Nat.le_succ _, fun x hx e => ?_, [⟨h.nx, 0, unk⟩], rfl, fun t hh => ?_⟩
  · rw [Heap.get_add, if_neg (by omega)]; exact e
  · rw [Heap.get_add, if_neg (hits_whole hh)]; exact .refl _ _

theorem hits_at {t : Part} {n off len i : Nat} (h : hits t [⟨n, off, len⟩] = false) (hn : t.n = n) (h1 : t.off ≤ i) (h2 : i < t.off + t.len) : ¬ (off ≤ i ∧ i < off + len) := by
  intro ⟨h3, h4⟩
  subst hn
  simp only [hits, Nat.beq_refl] at h
  split at h
  · cases h
  · have a1 : Nat.blt off (t.off + t.len) = true := by simp [Nat.blt, Nat.ble_eq]; omega
    have a2 : Nat.blt t.off (off + len) = true := by simp [Nat.blt, Nat.ble_eq]; omega
    rw [a1, a2] at h
    cases h

theorem Chg.putAt {h : Heap} {n off : Nat} {vs : List Value} {size : Nat} {base : Nat → Value} {tr : Tr Value} {elem esz : Nat} {ro : Bool} (hn : h.get n = some (.row size base tr elem esz ro)) :
    Chg h (h.putAt n off vs.length (.row size base (setCells tr off vs) elem esz ro)) := by
  refine ⟨Nat.le_refl _, fun x _ e => ?_, [⟨n, off, vs.length⟩], rfl, fun t hh => ?_⟩
  · rw [Heap.get_putAt, if_neg]
    · exact e
    · intro hx; subst hx; rw [hn] at e; cases e
  · rw [Heap.get_putAt]
    split
    · rename_i e
      rw [e, hn]
      refine .inr ⟨_, _, _, _, _, _, _, _, rfl, rfl, fun i h1 h2 => ?_⟩
      rw [rowAt_setCells, if_neg (hits_at hh e h1 h2)]
    · exact .refl _ _

def KeepsF (cf : CallFn) : Prop := ∀ f args h r h', cf f args h = some (r, h') → Chg h h'

theorem storeN_chg {h h' : Heap} {a : Addr} {vs : List Value} (hs : storeN h a vs = some h') : Chg h h' := by
  unfold storeN at hs
  split at hs
  · cases hs
  · split at hs
    · rename_i hg
      split at hs
      · cases hs
        exact .putAt hg
      · cases hs
    · cases hs

section
variable {cx : Cx}

theorem storeT_chg {h h' : Heap} {t : Nat} {a : Addr} {v : Value} (hs : storeT cx h t a v = some h') : Chg h h' := by
  unfold storeT at hs
  split at hs
  · split at hs
    · exact storeN_chg hs
    · cases hs
  · cases hs

theorem updateE_chg {h h' : Heap} {t : Nat} {m k v : Value} (hs : updateE cx h t m k v = some h') : Chg h h' := by
  unfold updateE at hs
  split at hs
  · split at hs
    · rename_i hg
      split at hs
      · split at hs
        · cases hs; exact .put (by rw [hg]; simp)
        · cases hs
      · cases hs; exact .put (by rw [hg]; simp)
      · cases hs
    · cases hs
  · cases hs

theorem deleteE_chg {h h' : Heap} {t : Nat} {m k : Value} (hs : deleteE cx h t m k = some h') : Chg h h' := by
  unfold deleteE at hs
  split at hs
  · split at hs
    · rename_i hg
      split at hs
      · cases hs; exact .put (by rw [hg]; simp)
      · cases hs; exact .put (by rw [hg]; simp)
      · cases hs
    · cases hs
  · cases hs

theorem clearE_chg {h h' : Heap} {t : Nat} {x : Value} (hs : clearE cx h t x = some h') : Chg h h' := by
  unfold clearE at hs
  split at hs
  · cases hs
  · split at hs
    · cases hs; exact .refl _
    · split at hs
      · rename_i hg
        cases hs; exact .put (by rw [hg]; simp)
      · cases hs
    · cases hs; exact .refl _
    · cases hs; exact .refl _
    · split at hs
      · exact storeN_chg hs
      · cases hs
    · cases hs

theorem appendE_chg {h h' : Heap} {ts : List Nat} {s x v : Value} (hs : appendE cx h ts s x = some (v, h')) : Chg h h' := by
  unfold appendE at hs
  split at hs
  · split at hs
    · split at hs
      · split at hs
        · split at hs
          · split at hs
            · cases hs
            · split at hs
              · split at hs
                · split at hs
                  · rename_i hst
                    cases hs
                    exact storeN_chg hst
                  · cases hs
                · cases hs; exact .refl _
              · split at hs
                · split at hs
                  · cases hs; exact .add _ _
                  · cases hs
                · cases hs
            · split at hs
              · cases hs
              · split at hs
                · rename_i hg
                  split at hs
                  · cases hs
                    exact .putAt hg
                  · split at hs
                    · cases hs
                      exact (Chg.put (by rw [hg]; simp)).trans (.add _ _)
                    · cases hs
                      exact (Chg.put (by rw [hg]; simp)).trans (.add _ _)
                  · cases hs
                · cases hs
          · cases hs
        · cases hs
      · cases hs
    · cases hs
  · cases hs

theorem builtinE_chg {h h' : Heap} {b : Builtin} {ts : List Nat} {args : List Value} {out : Out} (hs : builtinE cx h b ts args = some (out, h')) : Chg h h' := by
  unfold builtinE at hs
  split at hs
  · split at hs
    · obtain ⟨_, _, _, rfl⟩ := val_some hs; exact .refl _
    · cases hs
  · split at hs
    · rename_i ha
      cases hs
      exact appendE_chg ha
    · cases hs
  · split at hs
    · split at hs
      · split at hs
        · split at hs
          · split at hs
            · split at hs
              · split at hs
                · rename_i hst
                  cases hs
                  exact storeN_chg hst
                · cases hs
              · cases hs; exact .refl _
            · cases hs
          · cases hs
        · cases hs
      · cases hs
    · cases hs
  · split at hs
    · split at hs
      · rename_i hd
        cases hs
        exact deleteE_chg hd
      · cases hs
    · cases hs
  · split at hs
    · split at hs
      · rename_i hd
        cases hs
        exact clearE_chg hd
      · cases hs
    · cases hs
  · obtain ⟨_, _, _, rfl⟩ := val_some hs; exact .refl _
  · obtain ⟨_, _, _, rfl⟩ := val_some hs; exact .refl _
  · cases hs; exact .refl _
  · cases hs

theorem opE_chg {cf : CallFn} (K : KeepsF cf) {tm : Tr Value} {h h' : Heap} {op : Op} {out : Out} (hs : opE cx cf tm h op = some (out, h')) : Chg h h' := by
  have mk : ∀ {o : Op}, (match makeE cx tm h o with
      | some (v, b) => some (Out.val v, h.add b)
      | none => none) = some (out, h') → Chg h h' := by
    intro o ho
    split at ho
    · cases ho; exact .add _ _
    · cases ho
  have sk : ∀ {o : Option Heap}, (∀ h2, o = some h2 → Chg h h2) → skp o = some (out, h') → Chg h h' := fun hk hq => by
    obtain ⟨e, _⟩ := skp_some hq
    exact hk _ e
  cases op <;> simp only [opE] at hs
  case call c =>
    split at hs
    · split at hs
      · exact builtinE_chg hs
      · cases hs
    · split at hs
      · split at hs
        · split at hs
          · rename_i hcf
            cases hs
            exact K _ _ _ _ _ hcf
          · rename_i hcf
            cases hs
            exact K _ _ _ _ _ hcf
          · cases hs
        · cases hs
      · cases hs
    · cases hs
  case store t a x =>
    split at hs
    · exact sk (fun h2 e => storeT_chg e) hs
    · cases hs
  case insert t a x y =>
    split at hs
    · exact sk (fun h2 e => updateE_chg e) hs
    · cases hs
  case mapUpdate t a x y =>
    split at hs
    · exact sk (fun h2 e => updateE_chg e) hs
    · cases hs
  all_goals first
    | exact mk hs
    | (obtain ⟨_, _, _, rfl⟩ := val_some hs; exact .refl _)
    | ((repeat' split at hs) <;> first | (cases hs; exact .refl _) | (cases hs; exact .add _ _) | (cases hs; done) | (obtain ⟨_, _, _, rfl⟩ := val_some hs; exact .refl _))

end
end Go.Em

namespace Go.Em

structure Po where
  ms : Tr Nat
  dead : Option Nat
  tm : Tr Value
  h : Heap
  mks : List (Nat × Nat × Obj)

/-- What a kind leaves in its slot. -/
def outV : Kd → Option Value
  | .no => some undef
  | .pur v => some v
  | .lod _ v => some v
  | .mak _ _ v => some v
  | .eff _ _ v => some v
  | .dead => none
  | .pan _ _ _ => none

def isE : Kd → Bool
  | .eff _ _ _ => true
  | .pan _ _ _ => true
  | _ => false

noncomputable def nextP (i : Nat) (o : Oper) (mask : Nat) (s : Po) : Kd → Po
  | .dead => ⟨s.ms.set i (some mask), s.dead, s.tm, s.h, s.mks⟩
  | .no => ⟨s.ms.set i (some mask), s.dead, putT s.tm o.dst undef, s.h, s.mks⟩
  | .pur v => ⟨s.ms.set i (some mask), s.dead, putT s.tm o.dst v, s.h, s.mks⟩
  | .lod _ v => ⟨s.ms.set i (some mask), s.dead, putT s.tm o.dst v, s.h, s.mks⟩
  | .mak n b v => ⟨s.ms.set i (some mask), s.dead, putT s.tm o.dst v, s.h, (i, n, b) :: s.mks⟩
  | .eff _ h1 v => ⟨s.ms.set i (some mask), s.dead, putT s.tm o.dst v, h1, unmade mask s.mks⟩
  | .pan _ h1 _ => ⟨s.ms.set i (some mask), some i, s.tm, h1, unmade mask s.mks⟩

section
variable (cx : Cx) (cf : CallFn) (base : Nat) (all : List Oper)

/-- One place. -/
structure At (X : Nat → Po) (S : Nat → Sn) (k : Nat) (o : Oper) : Prop where
  eqo : (S k).o = o
  mask : maskE (X k).ms k o.after.toList = some (S k).mask
  kd : kdE cx cf base k all o (S k).mask (X k).dead (X k).tm (X k).h (X k).mks = some (S k).kd
  next : X (k + 1) = nextP k o (S k).mask (X k) (S k).kd

theorem traceE_spec : ∀ (l : List Oper) (i : Nat) (s : Po) (acc tr : List Sn) (tm : Tr Value) (h : Heap) (mks : List (Nat × Nat × Obj)),
    traceE cx cf base all l i s.ms s.dead s.tm s.h s.mks acc = some (tr, tm, h, mks) →
    ∃ (X : Nat → Po) (S : Nat → Sn), X i = s ∧ (∀ k, k < l.length → ∃ o, l[k]? = some o ∧ At cx cf base all X S (i + k) o) ∧
      (X (i + l.length)).tm = tm ∧ (X (i + l.length)).h = h ∧ (X (i + l.length)).mks = mks ∧ tr = ((List.range' i l.length).map S).reverse ++ acc
  | [], i, s, acc, tr, tm, h, mks, ht => by
    simp only [traceE] at ht
    cases ht
    exact ⟨fun _ => s, fun _ => ⟨⟨none, .ready 0, 0, "", #[], none⟩, .nil, ⟨.nil, 0, []⟩, 0, .no⟩, rfl, fun k hk => by simp at hk, rfl, rfl, rfl, by simp⟩
  | o :: l, i, s, acc, tr, tm, h, mks, ht => by
    simp only [traceE] at ht
    split at ht
    · cases ht
    · rename_i mask hmask
      split at ht
      · cases ht
      · rename_i kd hkd
        have ht' : traceE cx cf base all l (i + 1) (nextP i o mask s kd).ms (nextP i o mask s kd).dead (nextP i o mask s kd).tm (nextP i o mask s kd).h (nextP i o mask s kd).mks (⟨o, s.tm, s.h, mask, kd⟩ :: acc) = some (tr, tm, h, mks) := by
          cases kd <;> exact ht
        obtain ⟨X, S, hX, hA, e1, e2, e3, e4⟩ := traceE_spec l (i + 1) _ _ tr tm h mks ht'
        refine ⟨fun k => if k = i then s else X k, fun k => if k = i then ⟨o, s.tm, s.h, mask, kd⟩ else S k, by simp, fun k hk => ?_, ?_, ?_, ?_, ?_⟩
        · cases k with
          | zero =>
            refine ⟨o, by simp, ⟨by simp, by simpa using hmask, by simpa using hkd, ?_⟩⟩
            simp [hX]
          | succ k =>
            obtain ⟨o', ho', a1, a2, a3, a4⟩ := hA k (by simpa using hk)
            have n1 : ¬ i + (k + 1) = i := by omega
            have n2 : ¬ i + (k + 1) + 1 = i := by omega
            have n3 : i + (k + 1) = i + 1 + k := by omega
            refine ⟨o', by simpa using ho', ⟨?_, ?_, ?_, ?_⟩⟩ <;> simp only [if_neg n1, if_neg n2] <;> rw [n3] <;> assumption
        · have n1 : ¬ i + (l.length + 1) = i := by omega
          simp only [List.length_cons, if_neg n1]
          rw [show i + (l.length + 1) = i + 1 + l.length from by omega]; exact e1
        · have n1 : ¬ i + (l.length + 1) = i := by omega
          simp only [List.length_cons, if_neg n1]
          rw [show i + (l.length + 1) = i + 1 + l.length from by omega]; exact e2
        · have n1 : ¬ i + (l.length + 1) = i := by omega
          simp only [List.length_cons, if_neg n1]
          rw [show i + (l.length + 1) = i + 1 + l.length from by omega]; exact e3
        · rw [e4]
          simp only [List.length_cons, List.range'_succ, List.map_cons, if_true, List.reverse_cons, List.append_assoc, List.singleton_append]
          congr 2
          refine List.map_congr_left fun k hk => ?_
          have := List.mem_range'_1.1 hk
          rw [if_neg (by omega)]

theorem pairsOk_spec (y : Sn) (S : Nat → Sn) : ∀ (i : Nat), pairsOk all y i ((List.range' 0 i).map S).reverse = true → ∀ k, k < i → pairOk all k (S k) y = true
  | 0, _, k, hk => by omega
  | i + 1, h, k, hk => by
    rw [List.range'_concat] at h
    simp only [List.map_append, List.map_cons, List.map_nil, List.reverse_append, List.reverse_cons, List.reverse_nil, List.nil_append, List.singleton_append, Nat.zero_add, Nat.one_mul, pairsOk] at h
    split at h
    · rename_i h1
      rcases Nat.lt_or_ge k i with hlt | hge
      · exact pairsOk_spec y S i h k hlt
      · have : k = i := by omega
        subst this; exact h1
    · cases h

theorem traceOk_spec (S : Nat → Sn) : ∀ (n : Nat), traceOk all n ((List.range' 0 n).map S).reverse = true → ∀ i j, i < j → j < n → pairOk all i (S i) (S j) = true
  | 0, _, i, j, h1, h2 => by omega
  | n + 1, h, i, j, h1, h2 => by
    rw [List.range'_concat] at h
    simp only [List.map_append, List.map_cons, List.map_nil, List.reverse_append, List.reverse_cons, List.reverse_nil, List.nil_append, List.singleton_append, Nat.zero_add, Nat.one_mul, traceOk] at h
    split at h
    · rename_i hp
      rcases Nat.lt_or_ge j n with hlt | hge
      · exact traceOk_spec S n h i j h1 hlt
      · have : j = n := by omega
        subst this
        exact pairsOk_spec all _ S j hp i h1
    · cases h

end

/-- How a kind came about. -/
inductive KdI (cx : Cx) (cf : CallFn) (base i : Nat) (all : List Oper) (o : Oper) (mask : Nat) (dead : Option Nat) (tm : Tr Value) (h : Heap) (mks : List (Nat × Nat × Obj)) : Kd → Prop
  | dead {p : Nat} : dead = some p → mask.testBit p = true → KdI cx cf base i all o mask dead tm h mks .dead
  | no : (∀ p, dead = some p → mask.testBit p = false) → wantE all tm o = some false → KdI cx cf base i all o mask dead tm h mks .no
  | mak {v : Value} {b : Obj} : (∀ p, dead = some p → mask.testBit p = false) → wantE all tm o = some true → isMake o.op = true → makeE cx tm ⟨.nil, base + i, []⟩ o.op = some (v, b) → KdI cx cf base i all o mask dead tm h mks (.mak (base + i) b v)
  | eff {v : Value} {h1 : Heap} : dead = none → wantE all tm o = some true → isOdd o.op = false → opE cx cf tm (release mask mks ⟨h.tr, h.nx, []⟩) o.op = some (.val v, h1) → KdI cx cf base i all o mask dead tm h mks (.eff h1.dt ⟨h1.tr, h1.nx, h1.dt ++ h.dt⟩ v)
  | pan {c : List PanicEntry} {h1 : Heap} : dead = none → wantE all tm o = some true → isOdd o.op = false → opE cx cf tm (release mask mks ⟨h.tr, h.nx, []⟩) o.op = some (.pan c, h1) → KdI cx cf base i all o mask dead tm h mks (.pan h1.dt ⟨h1.tr, h1.nx, h1.dt ++ h.dt⟩ c)
  | pur {v : Value} {h1 : Heap} : (∀ p, dead = some p → mask.testBit p = false) → wantE all tm o = some true → isMake o.op = false → isEff o.op = false → isOdd o.op = false → opE cx noCall tm (bare big) o.op = some (.val v, h1) → KdI cx cf base i all o mask dead tm h mks (.pur v)
  | lod {t : Part} {b : Obj} {v : Value} {h1 : Heap} : (∀ p, dead = some p → mask.testBit p = false) → wantE all tm o = some true → isMake o.op = false → isEff o.op = false → isOdd o.op = false → targetE cx tm o.op = some t → h.get t.n = some b → opE cx noCall tm (only big t.n b) o.op = some (.val v, h1) →
      KdI cx cf base i all o mask dead tm h mks (.lod t v)

theorem kdE_inv {cx : Cx} {cf : CallFn} {base i : Nat} {all : List Oper} {o : Oper} {mask : Nat} {dead : Option Nat} {tm : Tr Value} {h : Heap} {mks : List (Nat × Nat × Obj)} {kd : Kd} (hk : kdE cx cf base i all o mask dead tm h mks = some kd) :
    KdI cx cf base i all o mask dead tm h mks kd := by
  unfold kdE at hk
  split at hk
  · rename_i hd
    cases hk
    split at hd
    · exact .dead rfl hd
    · cases hd
  · rename_i hd
    have hnd : ∀ p, dead = some p → mask.testBit p = false := fun p hp => by
      subst hp
      exact hd
    split at hk
    · cases hk
    · cases hk; exact .no hnd (by assumption)
    · rename_i hw
      split at hk
      · cases hk
      · rename_i hodd hmk _
        split at hk
        · rename_i hme
          cases hk
          exact .mak hnd hw (by assumption) hme
        · cases hk
      · split at hk
        · cases hk
        · split at hk
          · rename_i ho
            cases hk
            exact .eff rfl hw (by assumption) ho
          · rename_i ho
            cases hk
            exact .pan rfl hw (by assumption) ho
          · cases hk
      · split at hk
        · rename_i ho
          cases hk
          exact .pur hnd hw (by assumption) (by assumption) (by assumption) ho
        · cases hk
        · split at hk
          · cases hk
          · rename_i t ht
            split at hk
            · cases hk
            · rename_i b hb
              split at hk
              · rename_i ho
                cases hk
                exact .lod hnd hw (by assumption) (by assumption) (by assumption) ht hb ho
              · cases hk

end Go.Em

namespace Go.Em

structure Tc (cx : Cx) (cf : CallFn) (base : Nat) (ops : Array Oper) (X : Nat → Po) (S : Nat → Sn) : Prop where
  at' : ∀ k, k < ops.size → ∃ o, ops[k]? = some o ∧ At cx cf base ops.toList X S k o
  pairs : ∀ i j, i < j → j < ops.size → pairOk ops.toList i (S i) (S j) = true
  ms0 : (X 0).ms = .nil
  dead0 : (X 0).dead = none
  mks0 : (X 0).mks = []

section
variable {cx : Cx} {cf : CallFn} {base : Nat} {ops : Array Oper} {X : Nat → Po} {S : Nat → Sn}

theorem Tc.oper (T : Tc cx cf base ops X S) {k : Nat} (hk : k < ops.size) : ops[k]? = some (S k).o := by
  obtain ⟨o, ho, A⟩ := T.at' k hk
  rw [A.eqo]; exact ho

theorem Tc.mask (T : Tc cx cf base ops X S) {k : Nat} (hk : k < ops.size) : maskE (X k).ms k (S k).o.after.toList = some (S k).mask := by
  obtain ⟨o, ho, A⟩ := T.at' k hk
  rw [A.eqo]; exact A.mask

theorem Tc.kd (T : Tc cx cf base ops X S) {k : Nat} (hk : k < ops.size) : KdI cx cf base k ops.toList (S k).o (S k).mask (X k).dead (X k).tm (X k).h (X k).mks (S k).kd := by
  obtain ⟨o, ho, A⟩ := T.at' k hk
  rw [A.eqo]; exact kdE_inv A.kd

theorem Tc.next (T : Tc cx cf base ops X S) {k : Nat} (hk : k < ops.size) : X (k + 1) = nextP k (S k).o (S k).mask (X k) (S k).kd := by
  obtain ⟨o, ho, A⟩ := T.at' k hk
  rw [A.eqo]; exact A.next

theorem nextP_ms (i : Nat) (o : Oper) (mask : Nat) (s : Po) (kd : Kd) : (nextP i o mask s kd).ms = s.ms.set i (some mask) := by cases kd <;> rfl

theorem nextP_tm (i : Nat) (o : Oper) (mask : Nat) (s : Po) (kd : Kd) : (nextP i o mask s kd).tm = match outV kd with
    | some v => putT s.tm o.dst v
    | none => s.tm := by cases kd <;> rfl

theorem Tc.ms (T : Tc cx cf base ops X S) : ∀ (j : Nat), j ≤ ops.size → ∀ k, (X j).ms.get k = if k < j then some (S k).mask else none := by
  intro j
  induction j with
  | zero => intro _ k; rw [T.ms0, Tr.get_nil, if_neg (by omega)]
  | succ j ih =>
    intro hj k
    rw [T.next (by omega), nextP_ms, Tr.get_set, ih (by omega)]
    by_cases h : k = j
    · subst h; rw [if_pos rfl, if_pos (by omega)]
    · rw [if_neg h]
      by_cases h2 : k < j
      · rw [if_pos h2, if_pos (by omega)]
      · rw [if_neg h2, if_neg (by omega)]

theorem maskE_spec {ms : Tr Nat} {i : Nat} : ∀ (l : List Edge) (m : Nat), maskE ms i l = some m →
    (∀ e ∈ l, edgeAny e.ground = true → e.on < i ∧ m.testBit e.on = true ∧ ∃ k, ms.get e.on = some k ∧ ∀ b, k.testBit b = true → m.testBit b = true) ∧
    (∀ b, m.testBit b = true → ∃ e ∈ l, edgeAny e.ground = true ∧ e.on < i ∧ (b = e.on ∨ ∃ k, ms.get e.on = some k ∧ k.testBit b = true))
  | [], m, h => by
    simp only [maskE] at h
    cases h
    exact ⟨fun e he => (by cases he), fun b hb => by simp at hb⟩
  | e :: l, m, h => by
    simp only [maskE] at h
    split at h
    · cases h
    · rename_i m0 hm0
      obtain ⟨h1, h2⟩ := maskE_spec l m0 hm0
      split at h
      · rename_i he
        cases h
        refine ⟨fun x hx hb => ?_, fun b hb => ?_⟩
        · rcases List.mem_cons.1 hx with rfl | hx
          · rw [he] at hb; cases hb
          · exact h1 x hx hb
        · obtain ⟨x, hx, r⟩ := h2 b hb
          exact ⟨x, List.mem_cons_of_mem _ hx, r⟩
      · rename_i he
        split at h
        · rename_i k hlt hk
          have hlt : e.on < i := Nat.le_of_ble_eq_true hlt
          cases h
          have tb : ∀ b, Nat.testBit (Nat.lor m0 (Nat.lor k (Nat.pow 2 e.on))) b = (m0.testBit b || (k.testBit b || decide (e.on = b))) := fun b => by
            show Nat.testBit (m0 ||| (k ||| 2 ^ e.on)) b = _
            rw [Nat.testBit_or, Nat.testBit_or, Nat.testBit_two_pow]
          refine ⟨fun x hx hb => ?_, fun b hb => ?_⟩
          · rcases List.mem_cons.1 hx with rfl | hx
            · refine ⟨hlt, by rw [tb]; simp, k, hk, fun b hb => by rw [tb, hb]; simp⟩
            · obtain ⟨a1, a2, k2, a3, a4⟩ := h1 x hx hb
              exact ⟨a1, by rw [tb, a2]; simp, k2, a3, fun b hb => by rw [tb, a4 b hb]; simp⟩
          · rw [tb, Bool.or_eq_true, Bool.or_eq_true] at hb
            rcases hb with hb | hb | hb
            · obtain ⟨x, hx, r⟩ := h2 b hb
              exact ⟨x, List.mem_cons_of_mem _ hx, r⟩
            · exact ⟨e, List.mem_cons_self, he, hlt, .inr ⟨k, hk, hb⟩⟩
            · exact ⟨e, List.mem_cons_self, he, hlt, .inl (of_decide_eq_true hb).symm⟩
        · cases h

theorem Tc.edge (T : Tc cx cf base ops X S) {j : Nat} (hj : j < ops.size) {e : Edge} (he : e ∈ (S j).o.after.toList) (hb : edgeAny e.ground = true) :
    e.on < j ∧ (S j).mask.testBit e.on = true ∧ ∀ b, (S e.on).mask.testBit b = true → (S j).mask.testBit b = true := by
  obtain ⟨h1, _⟩ := maskE_spec _ _ (T.mask hj)
  obtain ⟨a1, a2, k, a3, a4⟩ := h1 e he hb
  rw [T.ms j (by omega), if_pos a1] at a3
  cases a3
  exact ⟨a1, a2, a4⟩

theorem Tc.bit (T : Tc cx cf base ops X S) {j : Nat} (hj : j < ops.size) {b : Nat} (hb : (S j).mask.testBit b = true) :
    ∃ e ∈ (S j).o.after.toList, edgeAny e.ground = true ∧ e.on < j ∧ (b = e.on ∨ (S e.on).mask.testBit b = true) := by
  obtain ⟨_, h2⟩ := maskE_spec _ _ (T.mask hj)
  obtain ⟨e, a1, a2, a3, a4⟩ := h2 b hb
  refine ⟨e, a1, a2, a3, ?_⟩
  rcases a4 with a4 | ⟨k, a4, a5⟩
  · exact .inl a4
  · rw [T.ms j (by omega), if_pos a3] at a4
    cases a4
    exact .inr a5

theorem Tc.bit_lt (T : Tc cx cf base ops X S) : ∀ (j : Nat), j < ops.size → ∀ b, (S j).mask.testBit b = true → b < j := by
  intro j
  induction j using Nat.strongRecOn with
  | _ j ih =>
    intro hj b hb
    obtain ⟨e, _, _, h3, h4⟩ := T.bit hj hb
    rcases h4 with rfl | h4
    · exact h3
    · exact Nat.lt_trans (ih e.on h3 (by omega) b h4) h3

theorem Tc.bit_trans (T : Tc cx cf base ops X S) : ∀ (j : Nat), j < ops.size → ∀ b c, (S j).mask.testBit b = true → (S b).mask.testBit c = true → (S j).mask.testBit c = true := by
  intro j
  induction j using Nat.strongRecOn with
  | _ j ih =>
    intro hj b c hb hc
    obtain ⟨e, h1, h2, h3, h4⟩ := T.bit hj hb
    obtain ⟨_, _, h5⟩ := T.edge hj h1 h2
    rcases h4 with rfl | h4
    · exact h5 c hc
    · exact h5 c (ih e.on h3 (by omega) b c h4 hc)

/-- Slots are written once. -/
theorem Tc.dsts (T : Tc cx cf base ops X S) {i j : Nat} (hij : i < j) (hj : j < ops.size) {t : Nat} (hi : (S i).o.dst = some t) : (S j).o.dst ≠ some t := by
  intro h
  have := T.pairs i j hij hj
  unfold pairOk at this
  split at this
  · rw [hi, h] at this
    simp [Nat.beq_refl] at this
  · rw [hi, h] at this
    simp [Nat.beq_refl] at this

/-- Two that stand in no order do not look at each other's slots. -/
theorem Tc.apart (T : Tc cx cf base ops X S) {i j : Nat} (hij : i < j) (hj : j < ops.size) (hm : (S j).mask.testBit i = false) :
    (∀ t, (S i).o.dst = some t → memN t (reads ops.toList (S j).o) = false) ∧ (∀ t, (S j).o.dst = some t → memN t (reads ops.toList (S i).o) = false) := by
  have := T.pairs i j hij hj
  unfold pairOk at this
  rw [hm] at this
  simp only [Bool.and_eq_true] at this
  obtain ⟨⟨h1, h2⟩, _⟩ := this
  refine ⟨fun t ht => ?_, fun t ht => ?_⟩
  · rw [ht] at h1
    simp only [Bool.and_eq_true, Bool.not_eq_true'] at h1
    exact h1.1
  · rw [ht] at h2
    simpa using h2

theorem Tc.effs (T : Tc cx cf base ops X S) {i j : Nat} (hij : i < j) (hj : j < ops.size) (h1 : isE (S i).kd = true) (h2 : isE (S j).kd = true) : (S j).mask.testBit i = true := by
  cases hm : (S j).mask.testBit i with
  | true => rfl
  | false =>
    have := T.pairs i j hij hj
    unfold pairOk at this
    rw [hm] at this
    simp only [Bool.and_eq_true] at this
    obtain ⟨_, h3⟩ := this
    cases hi : (S i).kd <;> rw [hi] at h1 <;> simp only [isE] at h1 <;> try (cases h1; done)
    all_goals
      cases hj : (S j).kd <;> rw [hj] at h2 <;> simp only [isE] at h2 <;> try (cases h2; done)
      all_goals
        rw [hi, hj] at h3
        cases h3

def wsOf : Kd → List Part
  | .eff ws _ _ => ws
  | .pan ws _ _ => ws
  | _ => []

theorem Tc.lods (T : Tc cx cf base ops X S) {i j : Nat} (hij : i < j) (hj : j < ops.size) (hm : (S j).mask.testBit i = false) :
    (∀ t v, (S i).kd = .lod t v → isE (S j).kd = true → hits t (wsOf (S j).kd) = false) ∧ (∀ t v, (S j).kd = .lod t v → isE (S i).kd = true → hits t (wsOf (S i).kd) = false) := by
  have := T.pairs i j hij hj
  unfold pairOk at this
  rw [hm] at this
  simp only [Bool.and_eq_true] at this
  obtain ⟨_, h3⟩ := this
  refine ⟨fun t v hi he => ?_, fun t v hj he => ?_⟩
  · rw [hi] at h3
    cases hj : (S j).kd <;> rw [hj] at he <;> simp only [isE] at he <;> try (cases he; done)
    all_goals
      rw [hj] at h3
      simpa [wsOf] using h3
  · rw [hj] at h3
    cases hi : (S i).kd <;> rw [hi] at he <;> simp only [isE] at he <;> try (cases he; done)
    all_goals
      rw [hi] at h3
      simpa [wsOf] using h3

/-- What a slot holds. -/
theorem Tc.slot_old (T : Tc cx cf base ops X S) : ∀ (j : Nat), j ≤ ops.size → ∀ t, (∀ i, i < j → (S i).o.dst ≠ some t) → (X j).tm.get t = (X 0).tm.get t := by
  intro j
  induction j with
  | zero => intro _ t _; rfl
  | succ j ih =>
    intro hj t h
    rw [T.next (by omega), nextP_tm, ← ih (by omega) t fun i hi => h i (by omega)]
    split
    · rename_i v hv
      have := h j (by omega)
      cases hd : (S j).o.dst with
      | none => rfl
      | some d =>
        simp only [putT, Tr.get_set]
        rw [if_neg]
        intro e
        rw [hd, e] at this
        exact this rfl
    · rfl

theorem Tc.slot_new (T : Tc cx cf base ops X S) {i : Nat} {t : Nat} {v : Value} (hd : (S i).o.dst = some t) (hv : outV (S i).kd = some v) : ∀ (j : Nat), i < j → j ≤ ops.size → (X j).tm.get t = some v := by
  intro j
  induction j with
  | zero => intro h; omega
  | succ j ih =>
    intro hij hj
    rw [T.next (by omega), nextP_tm]
    rcases Nat.lt_or_ge i j with hlt | hge
    · rw [← ih hlt (by omega)]
      split
      · rename_i u hu
        cases hd2 : (S j).o.dst with
        | none => rfl
        | some d =>
          simp only [putT, Tr.get_set]
          rw [if_neg]
          intro e
          exact T.dsts hlt (by omega) hd (e ▸ hd2)
      · rfl
    · have : i = j := by omega
      subst this
      rw [hv, hd]
      simp [putT, Tr.get_set]

/-- Memory changes only at effects. -/
theorem Tc.heap_same (T : Tc cx cf base ops X S) {i : Nat} : ∀ (j : Nat), i ≤ j → j ≤ ops.size → (∀ k, i ≤ k → k < j → isE (S k).kd = false) → (X j).h = (X i).h := by
  intro j
  induction j with
  | zero => intro h _ _; have : i = 0 := by omega
            subst this; rfl
  | succ j ih =>
    intro hij hj h
    rcases Nat.lt_or_ge i (j + 1) with hlt | hge
    · rw [← ih (by omega) (by omega) fun k h1 h2 => h k h1 (by omega), T.next (by omega)]
      have := h j (by omega) (by omega)
      cases hk : (S j).kd <;> rw [hk] at this <;> simp only [isE] at this <;> first | rfl | cases this
    · have : i = j + 1 := by omega
      subst this; rfl

theorem Tc.heap_next (T : Tc cx cf base ops X S) {j : Nat} (hj : j < ops.size) : (X (j + 1)).h = match (S j).kd with
    | .eff _ h1 _ => h1
    | .pan _ h1 _ => h1
    | _ => (X j).h := by
  rw [T.next hj]
  cases (S j).kd <;> rfl

theorem mem_unmade (mask : Nat) : ∀ (l : List (Nat × Nat × Obj)) (x : Nat × Nat × Obj), x ∈ unmade mask l ↔ x ∈ l ∧ mask.testBit x.1 = false
  | [], x => by simp [unmade]
  | (i, n, o) :: l, x => by
    simp only [unmade]
    cases hm : mask.testBit i with
    | true =>
      simp only [mem_unmade mask l x, List.mem_cons]
      constructor
      · rintro ⟨a, b⟩; exact ⟨.inr a, b⟩
      · rintro ⟨rfl | a, b⟩
        · simp only at b; rw [hm] at b; cases b
        · exact ⟨a, b⟩
    | false =>
      simp only [mem_unmade mask l x, List.mem_cons]
      constructor
      · rintro (rfl | ⟨a, b⟩)
        · exact ⟨.inl rfl, hm⟩
        · exact ⟨.inr a, b⟩
      · rintro ⟨rfl | a, b⟩
        · exact .inl rfl
        · exact .inr ⟨a, b⟩

/-- The blocks that were made and not given to memory yet. -/
theorem Tc.mks (T : Tc cx cf base ops X S) : ∀ (j : Nat), j ≤ ops.size → ∀ (i n : Nat) (b : Obj), (i, n, b) ∈ (X j).mks ↔ i < j ∧ (∃ v, (S i).kd = .mak n b v) ∧ ∀ e, i < e → e < j → isE (S e).kd = true → (S e).mask.testBit i = false := by
  intro j
  induction j with
  | zero =>
    intro _ i n b
    rw [T.mks0]
    simp
  | succ j ih =>
    intro hj i n b
    have IH := ih (by omega) i n b
    rw [T.next (by omega)]
    have same : isE (S j).kd = false → (∀ v, (S j).kd ≠ .mak n b v ∨ i ≠ j) → ((i < j ∧ (∃ v, (S i).kd = .mak n b v) ∧ ∀ e, i < e → e < j → isE (S e).kd = true → (S e).mask.testBit i = false) ↔
        (i < j + 1 ∧ (∃ v, (S i).kd = .mak n b v) ∧ ∀ e, i < e → e < j + 1 → isE (S e).kd = true → (S e).mask.testBit i = false)) := by
      intro hE hM
      constructor
      · rintro ⟨a1, a2, a3⟩
        refine ⟨by omega, a2, fun e h1 h2 h3 => ?_⟩
        rcases Nat.lt_or_ge e j with hlt | hge
        · exact a3 e h1 hlt h3
        · have : e = j := by omega
          subst this; rw [hE] at h3; cases h3
      · rintro ⟨a1, ⟨v, a2⟩, a3⟩
        rcases Nat.lt_or_ge i j with hlt | hge
        · exact ⟨hlt, ⟨v, a2⟩, fun e h1 h2 h3 => a3 e h1 (by omega) h3⟩
        · have : i = j := by omega
          subst this
          rcases hM v with h | h
          · exact absurd a2 h
          · exact absurd rfl h
    have effect : isE (S j).kd = true → ((i, n, b) ∈ unmade (S j).mask (X j).mks ↔ (i < j + 1 ∧ (∃ v, (S i).kd = .mak n b v) ∧ ∀ e, i < e → e < j + 1 → isE (S e).kd = true → (S e).mask.testBit i = false)) := by
      intro hE
      rw [mem_unmade, IH]
      constructor
      · rintro ⟨⟨a1, a2, a3⟩, a4⟩
        refine ⟨by omega, a2, fun e h1 h2 h3 => ?_⟩
        rcases Nat.lt_or_ge e j with hlt | hge
        · exact a3 e h1 hlt h3
        · have : e = j := by omega
          subst this; exact a4
      · rintro ⟨a1, ⟨v, a2⟩, a3⟩
        have hlt : i < j := by
          rcases Nat.lt_or_ge i j with hlt | hge
          · exact hlt
          · have : i = j := by omega
            subst this
            rw [a2] at hE
            cases hE
        exact ⟨⟨hlt, ⟨v, a2⟩, fun e h1 h2 h3 => a3 e h1 (by omega) h3⟩, a3 j hlt (by omega) hE⟩
    cases hk : (S j).kd with
    | dead => rw [hk] at same; exact IH.trans (same rfl fun v => .inl (by simp))
    | no => rw [hk] at same; exact IH.trans (same rfl fun v => .inl (by simp))
    | pur u => rw [hk] at same; exact IH.trans (same rfl fun v => .inl (by simp))
    | lod t u => rw [hk] at same; exact IH.trans (same rfl fun v => .inl (by simp))
    | eff ws h1 u => rw [hk] at effect; exact effect rfl
    | pan ws h1 c => rw [hk] at effect; exact effect rfl
    | mak n' b' u =>
      show (i, n, b) ∈ (j, n', b') :: (X j).mks ↔ _
      rw [List.mem_cons, IH]
      constructor
      · rintro (h | ⟨a1, a2, a3⟩)
        · cases h
          exact ⟨by omega, ⟨u, hk⟩, fun e h1 h2 => by omega⟩
        · refine ⟨by omega, a2, fun e h1 h2 h3 => ?_⟩
          rcases Nat.lt_or_ge e j with hlt | hge
          · exact a3 e h1 hlt h3
          · have : e = j := by omega
            subst this; rw [hk] at h3; cases h3
      · rintro ⟨a1, ⟨v, a2⟩, a3⟩
        rcases Nat.lt_or_ge i j with hlt | hge
        · exact .inr ⟨hlt, ⟨v, a2⟩, fun e h1 h2 h3 => a3 e h1 (by omega) h3⟩
        · have : i = j := by omega
          subst this
          rw [hk] at a2
          cases a2
          exact .inl rfl

theorem Tc.mak_id (T : Tc cx cf base ops X S) {i n : Nat} {b : Obj} {v : Value} (hi : i < ops.size) (h : (S i).kd = .mak n b v) : n = base + i := by
  have := T.kd hi
  rw [h] at this
  cases this
  rfl

/-- No panic yet: nothing is dead. -/
theorem Tc.alive (T : Tc cx cf base ops X S) : ∀ (j : Nat), j ≤ ops.size → ∀ p, (X j).dead = some p → p < j ∧ ∃ ws h1 c, (S p).kd = .pan ws h1 c := by
  intro j
  induction j with
  | zero => intro _ p h; rw [T.dead0] at h; cases h
  | succ j ih =>
    intro hj p h
    rw [T.next (by omega)] at h
    cases hk : (S j).kd <;> rw [hk] at h <;> simp only [nextP] at h
    case pan ws h1 c =>
      cases h
      exact ⟨by omega, ws, h1, c, hk⟩
    all_goals
      obtain ⟨a, b⟩ := ih (by omega) p h
      exact ⟨by omega, b⟩

theorem Tc.dead_stays (T : Tc cx cf base ops X S) {p : Nat} {ws : List Part} {h1 : Heap} {c : List PanicEntry} (_ : p < ops.size) (hk : (S p).kd = .pan ws h1 c) : ∀ (j : Nat), p < j → j ≤ ops.size → (X j).dead = some p := by
  intro j
  induction j with
  | zero => intro h; omega
  | succ j ih =>
    intro hpj hj
    rw [T.next (by omega)]
    rcases Nat.lt_or_ge p j with hlt | hge
    · have hd := ih hlt (by omega)
      have hkd := T.kd (k := j) (by omega)
      rw [hd] at hkd
      cases hkj : (S j).kd <;> rw [hkj] at hkd <;> simp only [nextP] <;> first | exact hd | skip
      cases hkd with
      | pan hn => cases hn
    · have : p = j := by omega
      subst this
      rw [hk]
      rfl

theorem Tc.pan_last (T : Tc cx cf base ops X S) {p : Nat} {ws : List Part} {h1 : Heap} {c : List PanicEntry} (hp : p < ops.size) (hk : (S p).kd = .pan ws h1 c) {j : Nat} (h : p < j) (hj : j < ops.size) : isE (S j).kd = false := by
  have hd := T.dead_stays hp hk j h (by omega)
  have hkd := T.kd hj
  rw [hd] at hkd
  cases hkj : (S j).kd <;> rw [hkj] at hkd <;> first | rfl | skip
  · cases hkd with
    | eff hn => cases hn
  · cases hkd with
    | pan hn => cases hn

theorem panOf_spec (S : Nat → Sn) : ∀ (n : Nat), (panOf ((List.range' 0 n).map S).reverse = none → ∀ k, k < n → ∀ ws h1 c, (S k).kd ≠ .pan ws h1 c) ∧
    (∀ c, panOf ((List.range' 0 n).map S).reverse = some c → ∃ k, k < n ∧ ∃ ws h1, (S k).kd = .pan ws h1 c)
  | 0 => ⟨fun _ k hk => by omega, fun c h => by simp [panOf] at h⟩
  | n + 1 => by
    obtain ⟨h1, h2⟩ := panOf_spec S n
    rw [List.range'_concat]
    simp only [List.map_append, List.map_cons, List.map_nil, List.reverse_append, List.reverse_cons, List.reverse_nil, List.nil_append, List.singleton_append, Nat.zero_add, Nat.one_mul, panOf]
    cases hk : (S n).kd
    case pan ws h c =>
      refine ⟨fun h => (by simp at h), fun c' h => ?_⟩
      simp only [Option.some.injEq] at h
      subst h
      exact ⟨n, by omega, _, _, hk⟩
    all_goals
      refine ⟨fun h k hkn ws hh c => ?_, fun c h => ?_⟩
      · rcases Nat.lt_or_ge k n with hlt | hge
        · exact h1 h k hlt ws hh c
        · have : k = n := by omega
          subst this
          rw [hk]
          simp
      · obtain ⟨k, a, b⟩ := h2 c h
        exact ⟨k, by omega, b⟩

end
end Go.Em

namespace Go.Em

theorem AgreeO.symm {t : Part} {a b : Option Obj} (h : AgreeO t a b) : AgreeO t b a := by
  rcases h with rfl | ⟨s, b1, t1, b2, t2, e, z, r, ha, hb, hi⟩
  · exact .inl rfl
  · exact .inr ⟨_, _, _, _, _, _, _, _, hb, ha, fun i h1 h2 => (hi i h1 h2).symm⟩

theorem memN_iff (n : Nat) : ∀ (l : List Nat), memN n l = true ↔ n ∈ l
  | [] => by simp [memN]
  | x :: l => by
    simp only [memN]
    split
    · rename_i h
      have := Nat.eq_of_beq_eq_true h
      subst this; simp
    · rename_i h
      rw [memN_iff n l]
      have : n ≠ x := fun e => by rw [e, Nat.beq_refl] at h; cases h
      simp [this]

theorem mem_opTmps : ∀ (l : List Operand) (t : Nat), Operand.tmp t ∈ l → t ∈ opTmps l
  | [], t, h => by cases h
  | x :: l, t, h => by
    rcases List.mem_cons.1 h with rfl | h
    · simp [opTmps]
    · have := mem_opTmps l t h
      cases x <;> simp [opTmps, this]

/-- The slots of a list, and no others. -/
noncomputable def rst : List Nat → Tr Value → Tr Value
  | [], _ => .nil
  | t :: l, tm => (rst l tm).set t (tm.get t)

theorem rst_get (tm : Tr Value) : ∀ (l : List Nat) (t : Nat), (rst l tm).get t = if t ∈ l then tm.get t else none
  | [], t => by simp [rst, Tr.get_nil]
  | x :: l, t => by
    simp only [rst, Tr.get_set, rst_get tm l]
    by_cases h : t = x
    · subst h; simp
    · simp [h]

section
variable {cx : Cx} {cf : CallFn} {tm tm' : Tr Value}

theorem ev_congr {x : Operand} (h : ∀ t, x = .tmp t → tm.get t = tm'.get t) : ev tm x = ev tm' x := by
  cases x <;> first | rfl | exact h _ rfl

theorem evs_congr : ∀ {l : List Operand}, (∀ x ∈ l, ev tm x = ev tm' x) → evs tm l = evs tm' l
  | [], _ => rfl
  | x :: l, h => by
    simp only [evs, h x (by simp), evs_congr (l := l) fun y hy => h y (by simp [hy])]

theorem evParts_congr : ∀ {l : List (Nat × Operand)}, (∀ x ∈ l, ev tm x.2 = ev tm' x.2) → evParts tm l = evParts tm' l
  | [], _ => rfl
  | (i, x) :: l, h => by
    simp only [evParts, h (i, x) (by simp), evParts_congr (l := l) fun y hy => h y (by simp [hy])]

theorem evO_congr {x : Option Operand} (h : ∀ y, x = some y → ev tm y = ev tm' y) : evO tm x = evO tm' x := by
  cases x with
  | none => rfl
  | some x => simp only [evO, h x rfl]

theorem makeE_congr {h : Heap} {op : Op} (hx : ∀ x ∈ op.operands, ev tm x = ev tm' x) : makeE cx tm h op = makeE cx tm' h op := by
  cases op <;> try rfl
  case box t x => simp only [makeE, hx x (by simp [Op.operands])]
  case buildSlice t n ps => simp only [makeE, evParts_congr (l := ps.toList) fun x hm => hx x.2 (by simp [Op.operands]; exact ⟨x.1, by simpa using hm⟩)]
  case makeMap t r =>
    cases r with
    | none => rfl
    | some r => simp only [makeE, hx r (by simp [Op.operands])]
  case makeChan t s => simp only [makeE, hx s (by simp [Op.operands])]
  case makeSlice t l c => simp only [makeE, hx l (by simp [Op.operands]), hx c (by simp [Op.operands])]

theorem opE_congr {h : Heap} {op : Op} (hx : ∀ x ∈ op.operands, ev tm x = ev tm' x) : opE cx cf tm h op = opE cx cf tm' h op := by
  have hmk := makeE_congr (cx := cx) (h := h) hx
  cases op <;> (try (simp only [opE, hmk]; done)) <;> simp only [opE]
  case move x => rw [hx x (by simp [Op.operands])]
  case assign x => rw [hx x (by simp [Op.operands])]
  case pick c a b => rw [hx c (by simp [Op.operands]), hx a (by simp [Op.operands]), hx b (by simp [Op.operands])]
  case build t ps => rw [evParts_congr (l := ps.toList) fun x hm => hx x.2 (by simp [Op.operands]; exact ⟨x.1, by simpa using hm⟩)]
  case load t x => rw [hx x (by simp [Op.operands])]
  case store t x y => rw [hx x (by simp [Op.operands]), hx y (by simp [Op.operands])]
  case nilCheck x => rw [hx x (by simp [Op.operands])]
  case binOp op t x y yt => rw [hx x (by simp [Op.operands]), hx y (by simp [Op.operands])]
  case unOp op t x => rw [hx x (by simp [Op.operands])]
  case convert s d x => rw [hx x (by simp [Op.operands])]
  case makeInterface t x => rw [hx x (by simp [Op.operands])]
  case makeFunc fn a b => rw [evs_congr (l := a.toList) fun x hm => hx x (by simp [Op.operands]; exact .inl (by simpa using hm)), evs_congr (l := b.toList) fun x hm => hx x (by simp [Op.operands]; exact .inr (by simpa using hm))]
  case insert t a b c => rw [hx a (by simp [Op.operands]), hx b (by simp [Op.operands]), hx c (by simp [Op.operands])]
  case mapUpdate t a b c => rw [hx a (by simp [Op.operands]), hx b (by simp [Op.operands]), hx c (by simp [Op.operands])]
  case slice t x lo hi mx =>
    rw [hx x (by simp [Op.operands]), evO_congr (x := lo) fun y hy => hx y (by subst hy; simp [Op.operands]), evO_congr (x := hi) fun y hy => hx y (by subst hy; simp [Op.operands]), evO_congr (x := mx) fun y hy => hx y (by subst hy; simp [Op.operands])]
  case fieldAddr t x f => rw [hx x (by simp [Op.operands])]
  case field t x f => rw [hx x (by simp [Op.operands])]
  case indexAddr t x i => rw [hx x (by simp [Op.operands]), hx i (by simp [Op.operands])]
  case index t x i => rw [hx x (by simp [Op.operands]), hx i (by simp [Op.operands])]
  case lookup t x i ok => rw [hx x (by simp [Op.operands]), hx i (by simp [Op.operands])]
  case typeAssert x xt w ok => rw [hx x (by simp [Op.operands])]
  case extract x i => rw [hx x (by simp [Op.operands])]
  case panic x => rw [hx x (by simp [Op.operands])]
  case call c =>
    rw [evs_congr (l := c.args.toList) fun x hm => hx x (by simp [Op.operands, Call.operands]; exact .inr (by simpa using hm))]
    cases hc : c.callee with
    | value f => simp only [hx f (by simp [Op.operands, Call.operands, hc])]
    | builtin b => rfl
    | invoke r n => rfl
  case defer c =>
    rw [evs_congr (l := c.args.toList) fun x hm => hx x (by simp [Op.operands, Call.operands]; exact .inr (by simpa using hm))]
    cases hc : c.callee with
    | value f => simp only [hx f (by simp [Op.operands, Call.operands, hc])]
    | builtin b => rfl
    | invoke r n => rfl

theorem wholeOf_congr {x : Operand} (h : ev tm x = ev tm' x) : wholeOf tm x = wholeOf tm' x := by simp only [wholeOf, h]

theorem targetE_congr {op : Op} (hx : ∀ x ∈ op.operands, ev tm x = ev tm' x) : targetE cx tm op = targetE cx tm' op := by
  cases op <;> try rfl
  case load t x => simp only [targetE, hx x (by simp [Op.operands])]
  case lookup t x i ok => simp only [targetE, wholeOf_congr (hx x (by simp [Op.operands]))]
  case slice t x lo hi mx => simp only [targetE, wholeOf_congr (hx x (by simp [Op.operands]))]
  case convert s d x => simp only [targetE, hx x (by simp [Op.operands])]
  case call c =>
    simp only [targetE]
    split
    · rename_i x hl
      rw [wholeOf_congr (hx x (by
        simp [Op.operands, Call.operands]
        right
        have : x ∈ c.args.toList := by rw [hl]; simp
        simpa using this))]
    · rfl

/-- What an operation looks at. -/
theorem reads_op {all : List Oper} {o : Oper} {x : Operand} (hx : x ∈ o.op.operands) {t : Nat} (ht : x = .tmp t) : t ∈ reads all o := by
  have h1 : t ∈ opTmps o.op.operands.toList := mem_opTmps _ _ (by subst ht; simpa using hx)
  unfold reads
  split
  · exact h1
  · split
    · split
      · exact List.mem_cons_of_mem _ h1
      · exact h1
    · exact h1

theorem wantE_congr {all : List Oper} {o : Oper} (h : ∀ t ∈ reads all o, tm.get t = tm'.get t) : wantE all tm o = wantE all tm' o := by
  unfold wantE
  split
  · rfl
  · rename_i j want hg
    split
    · rename_i g hj
      split
      · rename_i d hd
        rw [h d (by unfold reads; rw [hg]; simp only [hj, hd]; simp)]
      · rfl
    · rfl

theorem rst_ev {all : List Oper} {o : Oper} (x : Operand) (hx : x ∈ o.op.operands) : ev tm x = ev (rst (reads all o) tm) x :=
  ev_congr fun t ht => by rw [rst_get, if_pos (reads_op hx ht)]

/-- A kind hangs on what the operation looks at. -/
theorem KdI.rst {base i : Nat} {all : List Oper} {o : Oper} {mask : Nat} {dead : Option Nat} {h : Heap} {mks : List (Nat × Nat × Obj)} {kd : Kd} (H : KdI cx cf base i all o mask dead tm h mks kd) :
    KdI cx cf base i all o mask dead (rst (reads all o) tm) h mks kd := by
  have hw : wantE all (Em.rst (reads all o) tm) o = wantE all tm o := (wantE_congr fun t ht => by rw [rst_get, if_pos ht]).symm
  have ho : ∀ (cf : CallFn) (h : Heap), opE cx cf (Em.rst (reads all o) tm) h o.op = opE cx cf tm h o.op := fun cf h => (opE_congr fun x hx => rst_ev x hx).symm
  have hm : ∀ (h : Heap), makeE cx (Em.rst (reads all o) tm) h o.op = makeE cx tm h o.op := fun h => (makeE_congr fun x hx => rst_ev x hx).symm
  have ht : targetE cx (Em.rst (reads all o) tm) o.op = targetE cx tm o.op := (targetE_congr fun x hx => rst_ev x hx).symm
  cases H with
  | dead a b => exact .dead a b
  | no a b => exact .no a (hw ▸ b)
  | mak a b c d => exact .mak a (hw ▸ b) c (by rw [hm]; exact d)
  | eff a b c d => exact .eff a (hw ▸ b) c (by rw [ho]; exact d)
  | pan a b c d => exact .pan a (hw ▸ b) c (by rw [ho]; exact d)
  | pur a b c d e f => exact .pur a (hw ▸ b) c d e (by rw [ho]; exact f)
  | lod a b c d e f g k => exact .lod a (hw ▸ b) c d e (by rw [ht]; exact f) g (by rw [ho]; exact k)

end

theorem only_get (nx n : Nat) (o : Obj) (k : Nat) : (only nx n o).get k = if k = n then some o else none := by
  show (Tr.nil.set n (some o)).get k = _
  rw [Tr.get_set, Tr.get_nil]

theorem cellsFrom_congr {base base' : Nat → Value} {tr tr' : Tr Value} : ∀ (n i : Nat), (∀ k, i ≤ k → k < i + n → rowAt base tr k = rowAt base' tr' k) → cellsFrom base tr i n = cellsFrom base' tr' i n
  | 0, _, _ => rfl
  | n + 1, i, h => by
    simp only [cellsFrom]
    rw [h i (by omega) (by omega), cellsFrom_congr n (i + 1) fun k h1 h2 => h k (by omega) (by omega)]

theorem release_nx (mask : Nat) : ∀ (l : List (Nat × Nat × Obj)) (h : Heap), (release mask l h).nx = h.nx
  | [], h => rfl
  | (i, n, o) :: l, h => by
    simp only [release]
    split
    · exact release_nx mask l h
    · exact release_nx mask l h

theorem release_get (mask : Nat) : ∀ (l : List (Nat × Nat × Obj)) (h : Heap) (x : Nat), (∃ i b, (i, x, b) ∈ l ∧ mask.testBit i = true ∧ (release mask l h).get x = some b) ∨
    ((∀ i b, (i, x, b) ∈ l → mask.testBit i = false) ∧ (release mask l h).get x = h.get x)
  | [], h, x => .inr ⟨fun i b hb => (by cases hb), rfl⟩
  | (i, n, o) :: l, h, x => by
    simp only [release]
    cases hm : mask.testBit i with
    | true =>
      simp only
      rw [Heap.get_put]
      by_cases hx : x = n
      · subst hx
        rw [if_pos rfl]
        exact .inl ⟨i, o, by simp, hm, rfl⟩
      · rw [if_neg hx]
        rcases release_get mask l h x with ⟨i', b, h1, h2, h3⟩ | ⟨h1, h2⟩
        · exact .inl ⟨i', b, List.mem_cons_of_mem _ h1, h2, h3⟩
        · refine .inr ⟨fun i' b hb => ?_, h2⟩
          rcases List.mem_cons.1 hb with h | h
          · cases h; exact absurd rfl hx
          · exact h1 i' b h
    | false =>
      simp only
      rcases release_get mask l h x with ⟨i', b, h1, h2, h3⟩ | ⟨h1, h2⟩
      · exact .inl ⟨i', b, List.mem_cons_of_mem _ h1, h2, h3⟩
      · refine .inr ⟨fun i' b hb => ?_, h2⟩
        rcases List.mem_cons.1 hb with h | h
        · cases h; exact hm
        · exact h1 i' b h

theorem release_dt (mask : Nat) (t : Part) : ∀ (l : List (Nat × Nat × Obj)) (h : Heap), hits t (release mask l h).dt = false → (release mask l h).get t.n = h.get t.n ∧ hits t h.dt = false
  | [], h, hh => ⟨rfl, hh⟩
  | (i, n, o) :: l, h, hh => by
    simp only [release] at hh ⊢
    cases hm : mask.testBit i with
    | true =>
      rw [hm] at hh
      simp only at hh ⊢
      have e : hits t ([⟨n, 0, unk⟩] ++ (release mask l h).dt) = false := hh
      rw [hits_append, Bool.or_eq_false_iff] at e
      obtain ⟨h1, h2⟩ := release_dt mask t l h e.2
      rw [Heap.get_put, if_neg (hits_whole e.1)]
      exact ⟨h1, h2⟩
    | false =>
      rw [hm] at hh
      exact release_dt mask t l h hh

theorem giveAll_nx : ∀ (l : List (Nat × Nat × Obj)) (h : Heap), (giveAll l h).nx = h.nx
  | [], _ => rfl
  | (_, _, _) :: l, h => giveAll_nx l h

theorem giveAll_get : ∀ (l : List (Nat × Nat × Obj)) (h : Heap) (x : Nat), (∃ i b, (i, x, b) ∈ l ∧ (giveAll l h).get x = some b) ∨ ((∀ i b, (i, x, b) ∉ l) ∧ (giveAll l h).get x = h.get x)
  | [], h, x => .inr ⟨fun i b hb => (by cases hb), rfl⟩
  | (i, n, o) :: l, h, x => by
    simp only [giveAll, Heap.get_put]
    by_cases hx : x = n
    · subst hx
      rw [if_pos rfl]
      exact .inl ⟨i, o, by simp, rfl⟩
    · rw [if_neg hx]
      rcases giveAll_get l h x with ⟨i', b, h1, h3⟩ | ⟨h1, h2⟩
      · exact .inl ⟨i', b, List.mem_cons_of_mem _ h1, h3⟩
      · refine .inr ⟨fun i' b hb => ?_, h2⟩
        rcases List.mem_cons.1 hb with h | h
        · cases h; exact absurd rfl hx
        · exact h1 i' b h

/-- A step in a part of memory is a step in all of it. -/
theorem Sim.frame {m m' : Pm} {H hs h1 H' : Heap} {w w' : World} (S : Sim m H w) (hsub : ∀ i o, hs.get i = some o → H.get i = some o) (S' : Sim m' h1 w') (P : Stp m hs w m' h1 w')
    (hn : h1.nx ≤ H'.nx) (hn' : H.nx ≤ hs.nx) (hg : ∀ i o, H'.get i = some o → h1.get i = some o ∨ (hs.get i = none ∧ H.get i = some o)) : Sim m' H' w' ∧ Stp m H w m' H' w' := by
  have away : ∀ z i o p, hs.get i = none → H.get i = some o → m i = some p → ¬ Own z m hs p.blk := by
    intro z i o p h1 h2 h3 ⟨j, oj, pj, a1, _, a2, a3⟩
    have hne : j ≠ i := fun e => by subst e; rw [h1] at a1; cases a1
    exact S.inj j i oj o pj p (hsub j oj a1) h2 a2 h3 hne a3
  refine ⟨⟨fun i hi => S'.fresh i (Nat.le_trans hn hi), fun i o hi => ?_, fun i j oi oj pi pj hi hj mi mj hne he => ?_⟩, ?_⟩
  · rcases hg i o hi with h | ⟨a, b⟩
    · exact S'.live i o h
    · obtain ⟨p, hp, hr⟩ := S.live i o b
      exact ⟨p, P.le _ _ hp, (hr.congr (P.keep _ hr.lt (away _ i o p a b hp))).mono P.le⟩
  · have mixed : ∀ {i j oi oj pi pj}, h1.get i = some oi → m' i = some pi → hs.get j = none → H.get j = some oj → m' j = some pj → pi.blk = pj.blk → False := by
      intro i j oi oj pi pj a1 a2 b1 b2 b3 e
      obtain ⟨p, hp, hr⟩ := S.live j oj b2
      have := P.le _ _ hp
      rw [b3] at this
      cases this
      exact away false j oj pj b1 b2 hp (P.own false pj.blk hr.lt ⟨i, oi, pi, a1, fun h => Bool.noConfusion h, a2, e⟩)
    rcases hg i oi hi with a | ⟨a1, a2⟩ <;> rcases hg j oj hj with b | ⟨b1, b2⟩
    · exact S'.inj i j oi oj pi pj a b mi mj hne he
    · exact mixed a mi b1 b2 mj he
    · exact mixed b mj a1 a2 mi he.symm
    · obtain ⟨p, hp, _⟩ := S.live i oi a2
      obtain ⟨q, hq, _⟩ := S.live j oj b2
      have e1 := P.le _ _ hp
      have e2 := P.le _ _ hq
      rw [mi] at e1; cases e1
      rw [mj] at e2; cases e2
      exact S.inj i j oi oj _ _ a2 b2 hp hq hne he
  · refine ⟨P.le, fun i p hi e => P.ids i p (Nat.lt_of_lt_of_le hi hn') e, Nat.le_trans hn' (Nat.le_trans P.nx hn), P.size, fun z b hb ⟨i, o, p, h2, hz, h3, h4⟩ => ?_, fun b hb ho => ?_, P.tape, P.os, P.output⟩
    · rcases hg i o h2 with h | ⟨a1, a2⟩
      · obtain ⟨j, oj, pj, c1, cz, c2, c3⟩ := P.own z b hb ⟨i, o, p, h, hz, h3, h4⟩
        exact ⟨j, oj, pj, hsub j oj c1, cz, c2, c3⟩
      · obtain ⟨q, hq, _⟩ := S.live i o a2
        have := P.le _ _ hq
        rw [h3] at this; cases this
        exact ⟨i, o, p, a2, hz, hq, h4⟩
    · exact P.keep b hb fun ⟨j, oj, pj, c1, cz, c2, c3⟩ => ho ⟨j, oj, pj, hsub j oj c1, cz, c2, c3⟩

end Go.Em

namespace Go.Em
section
variable {cx : Cx} {tm : Tr Value}

theorem loadN_agree {nx : Nat} {a : Addr} {l size : Nat} {base base' : Nat → Value} {tr tr' : Tr Value} {elem esz : Nat} {ro : Bool} (h : ∀ i, a.off ≤ i → i < a.off + l → rowAt base tr i = rowAt base' tr' i) :
    loadN (only nx a.block (.row size base tr elem esz ro)) a l = loadN (only nx a.block (.row size base' tr' elem esz ro)) a l := by
  unfold loadN
  cases a.spot with
  | some s => rfl
  | none =>
    simp only [only_get, if_true]
    rw [cellsFrom_congr l a.off h]

theorem blockOf_map {v : Value} {n : Nat} {es : List MapEntry} {nx : Nat} {size : Nat} {base : Nat → Value} {tr : Tr Value} {elem esz : Nat} {ro : Bool} (hb : blockOf v = some n) (hg : getMap (only nx n (.row size base tr elem esz ro)) v = some es) : False := by
  unfold getMap at hg
  split at hg
  · cases hb
  · cases hb
    rw [only_get, if_pos rfl] at hg
    cases hg
  · cases hg

theorem sliceE_agree {nx n : Nat} {size : Nat} {base base' : Nat → Value} {tr tr' : Tr Value} {elem esz : Nat} {ro : Bool} (t : Nat) (x : Value) (lo hi mx : Option Value) :
    sliceE cx (only nx n (.row size base tr elem esz ro)) t x lo hi mx = sliceE cx (only nx n (.row size base' tr' elem esz ro)) t x lo hi mx := by
  cases hd : cx.ty t with
  | none => simp only [sliceE, hd]
  | some i =>
    simp only [sliceE, hd]
    split
    · rfl
    · rename_i e b len cap hde
      cases he : cx.ty e with
      | none => rfl
      | some j =>
        cases hu : Nat.beq cap unk with
        | false => rfl
        | true =>
          cases b with
          | none => rfl
          | some a =>
            cases mx with
            | some m => rfl
            | none =>
              simp only [only_get]
              by_cases hn : a.block = n
              · simp only [if_pos hn]
                cases a.spot <;> rfl
              · simp only [if_neg hn]
    · rfl

theorem convertE_agree {nx : Nat} {a : Addr} {k c : Nat} {size : Nat} {base base' : Nat → Value} {tr tr' : Tr Value} {elem esz : Nat} {ro : Bool} (h : ∀ i, a.off ≤ i → i < a.off + k → rowAt base tr i = rowAt base' tr' i) (s d : Nat) :
    convertE cx (only nx a.block (.row size base tr elem esz ro)) s d (.slice (some a) k c) = convertE cx (only nx a.block (.row size base' tr' elem esz ro)) s d (.slice (some a) k c) := by
  have hl := loadN_agree (nx := nx) (size := size) (elem := elem) (esz := esz) (ro := ro) (l := k) h
  unfold convertE
  cases cx.ty s with
  | none => rfl
  | some si =>
    cases cx.ty d with
    | none => rfl
    | some di =>
      obtain ⟨sd, _, _, _⟩ := si
      obtain ⟨dd, _, _, _⟩ := di
      cases sd <;> cases dd <;> first | rfl | simp only [hl]

theorem lenOp_agree {nx n : Nat} {size : Nat} {base base' : Nat → Value} {tr tr' : Tr Value} {elem esz : Nat} {ro : Bool} (t : Nat) (x : Value) :
    lenOp cx (only nx n (.row size base tr elem esz ro)) t x = lenOp cx (only nx n (.row size base' tr' elem esz ro)) t x := by
  have hg : ∀ r, ((only nx n (.row size base tr elem esz ro)).get r = none ∧ (only nx n (.row size base' tr' elem esz ro)).get r = none) ∨
      ((only nx n (.row size base tr elem esz ro)).get r = some (.row size base tr elem esz ro) ∧ (only nx n (.row size base' tr' elem esz ro)).get r = some (.row size base' tr' elem esz ro)) := fun r => by
    simp only [only_get]
    by_cases hn : r = n
    · simp [hn]
    · simp [hn]
  cases hd : cx.ty t with
  | none => simp only [lenOp, hd]
  | some i =>
    simp only [lenOp, hd]
    split <;> first
      | rfl
      | (rename_i r _
         rcases hg r with ⟨a, b⟩ | ⟨a, b⟩ <;> rw [a, b])

theorem lod_congr {nx : Nat} {t : Part} {b b' : Obj} {op : Op} {v : Value} {h1 : Heap} (hm : isMake op = false) (he : isEff op = false) (ho : isOdd op = false) (ht : targetE cx tm op = some t)
    (hr : opE cx noCall tm (only nx t.n b) op = some (.val v, h1)) (ha : AgreeO t (some b) (some b')) : ∃ h2, opE cx noCall tm (only nx t.n b') op = some (.val v, h2) := by
  rcases ha with h | ⟨size, base, tr, base', tr', elem, esz, ro, hb, hb', hi⟩
  · cases h; exact ⟨_, hr⟩
  · cases hb
    cases hb'
    cases op <;> simp only [targetE] at ht <;> try (cases ht; done)
    case load t0 x =>
      split at ht
      · rename_i i a hti hx
        cases ht
        simp only [opE, hx] at hr ⊢
        have hl := loadN_agree (nx := nx) (size := size) (elem := elem) (esz := esz) (ro := ro) hi
        obtain ⟨u, h1, h2, _⟩ := val_some hr
        cases h2
        refine ⟨only nx a.block (.row size base' tr' elem esz ro), ?_⟩
        have : loadT cx (only nx a.block (.row size base' tr' elem esz ro)) t0 a = some v := by
          simp only [loadT, hti] at h1 ⊢
          cases hag : aggD i.d with
          | true => rw [hag] at h1 hl; simp only at h1 hl ⊢; rw [← hl]; exact h1
          | false => rw [hag] at h1 hl; simp only at h1 hl ⊢; rw [← hl]; exact h1
        simp only [this, Em.val]
      · cases ht
    case lookup t0 x k ok =>
      unfold wholeOf at ht
      split at ht
      · rename_i xv hx
        split at ht
        · rename_i n hn
          cases ht
          exfalso
          simp only [opE, hx] at hr
          split at hr
          · rename_i a _ h1 _
            cases h1
            obtain ⟨u, h1, _⟩ := val_some hr
            unfold lookupE at h1
            split at h1
            · split at h1
              · split at h1
                · rename_i hg _ _
                  exact blockOf_map hn hg
                · cases h1
              · cases h1
            · cases h1
          · cases hr
        · cases ht
      · cases ht
    case slice t0 x lo hi2 mx =>
      simp only [opE] at hr ⊢
      split at hr
      · rename_i x0 lo0 hi0 mx0 e1 e2 e3 e4
        obtain ⟨u, h1, h2, _⟩ := val_some hr
        cases h2
        rw [sliceE_agree (base' := base') (tr' := tr')] at h1
        exact ⟨_, by rw [h1]; rfl⟩
      · cases hr
    case convert s d x =>
      split at ht
      · rename_i a n c hx
        cases ht
        simp only [opE, hx] at hr ⊢
        obtain ⟨u, h1, h2, _⟩ := val_some hr
        cases h2
        rw [convertE_agree (base' := base') (tr' := tr') hi] at h1
        exact ⟨_, by rw [h1]; rfl⟩
      · cases ht
    case call c =>
      obtain ⟨cal, args, ats⟩ := c
      cases cal with
      | value f => cases he
      | invoke r n => cases he
      | builtin bt =>
        simp only [opE] at hr ⊢
        split at hr
        · rename_i av hav
          unfold builtinE at hr ⊢
          split at hr
          · split at hr
            · obtain ⟨u, h1, h2, _⟩ := val_some hr
              cases h2
              rw [lenOp_agree (base' := base') (tr' := tr')] at h1
              exact ⟨_, by rw [h1]; rfl⟩
            · cases hr
          all_goals first
            | (cases he; done)
            | (cases ho; done)
            | (cases hr; done)
            | (obtain ⟨u, h1, h2, _⟩ := val_some hr
               cases h2
               exact ⟨_, by rw [h1]; rfl⟩)
        · cases hr

end
end Go.Em

namespace Go.Em

/-- How many are not done. -/
def unl (listed : Array Bool) : Nat → Nat
  | 0 => 0
  | k + 1 => unl listed k + (if listed.getD k false = true then 0 else 1)

theorem unl_zero {listed : Array Bool} : ∀ (n : Nat), unl listed n = 0 → ∀ k, k < n → listed.getD k false = true
  | 0, _, k, hk => by omega
  | n + 1, h, k, hk => by
    simp only [unl] at h
    rcases Nat.lt_or_ge k n with hlt | hge
    · exact unl_zero n (by omega) k hlt
    · have : k = n := by omega
      subst this
      cases hl : listed.getD k false with
      | true => rfl
      | false => rw [hl] at h; simp at h

theorem getD_set {listed : Array Bool} {j : Nat} (hj : j < listed.size) (i : Nat) : (listed.setIfInBounds j true).getD i false = (decide (i = j) || listed.getD i false) := by
  by_cases h : i = j
  · subst h; simp [hj]
  · rw [getD_set_ne false (Ne.symm h)]; simp [h]

theorem unl_set {listed : Array Bool} {j : Nat} (hj : j < listed.size) (hl : listed.getD j false = false) : ∀ (n : Nat), unl (listed.setIfInBounds j true) n + (if j < n then 1 else 0) = unl listed n
  | 0 => by simp [unl]
  | n + 1 => by
    have ih := unl_set hj hl n
    simp only [unl, getD_set hj]
    by_cases h : n = j
    · subst h
      rw [hl]
      simp at ih ⊢
      omega
    · simp only [h, decide_false, Bool.false_or]
      generalize (if listed.getD n false = true then 0 else 1) = z
      by_cases h1 : j < n
      · have h2 : j < n + 1 := by omega
        rw [if_pos h1] at ih
        rw [if_pos h2]
        omega
      · have h2 : ¬ j < n + 1 := by omega
        rw [if_neg h1] at ih
        rw [if_neg h2]
        omega

theorem unl_new (n : Nat) : ∀ k, unl (Array.replicate n false) k = k
  | 0 => rfl
  | k + 1 => by
    have e : (Array.replicate n false).getD k false = false := by
      rcases Nat.lt_or_ge k n with h | h <;> simp [h]
    simp only [unl, unl_new n k, e]
    simp

section
variable {cx : Cx} {cf : CallFn} {base : Nat} {ops : Array Oper} {X : Nat → Po} {S : Nat → Sn}

def UnR (S : Nat → Sn) (q i : Nat) : Prop := ∀ e, i < e → e < q → isE (S e).kd = true → (S e).mask.testBit i = false

theorem Tc.eff_chg (T : Tc cx cf base ops X S) (K : KeepsF cf) {j : Nat} (hj : j < ops.size) (he : isE (S j).kd = true) :
    ∃ h1, Chg (release (S j).mask (X j).mks ⟨(X j).h.tr, (X j).h.nx, []⟩) h1 ∧ (∀ x, (X (j + 1)).h.get x = h1.get x) ∧ (X (j + 1)).h.nx = h1.nx ∧ wsOf (S j).kd = h1.dt := by
  have hk := T.kd hj
  have hn := T.heap_next hj
  generalize (S j).kd = kd at he hk hn
  cases hk with
  | eff a b c d =>
    refine ⟨_, opE_chg K d, fun x => ?_, ?_, rfl⟩
    · rw [hn]; rfl
    · rw [hn]
  | pan a b c d =>
    refine ⟨_, opE_chg K d, fun x => ?_, ?_, rfl⟩
    · rw [hn]; rfl
    · rw [hn]
  | _ => cases he

theorem Tc.heap_not (T : Tc cx cf base ops X S) {j : Nat} (hj : j < ops.size) (he : isE (S j).kd = false) : (X (j + 1)).h = (X j).h :=
  T.heap_same (j + 1) (by omega) (by omega) fun k h1 h2 => by
    have : k = j := by omega
    subst this; exact he

theorem Tc.nx_mono (T : Tc cx cf base ops X S) (K : KeepsF cf) {i : Nat} : ∀ (j : Nat), i ≤ j → j ≤ ops.size → (X i).h.nx ≤ (X j).h.nx := by
  intro j
  induction j with
  | zero => intro h _; have : i = 0 := by omega
            subst this; exact Nat.le_refl _
  | succ j ih =>
    intro hij hj
    rcases Nat.lt_or_ge i (j + 1) with hlt | hge
    · refine Nat.le_trans (ih (by omega) (by omega)) ?_
      cases he : isE (S j).kd with
      | true =>
        obtain ⟨h1, hc, _, h3, _⟩ := T.eff_chg K (by omega) he
        rw [h3]
        have := hc.nx
        rw [release_nx] at this
        exact this
      | false => rw [T.heap_not (by omega) he]; exact Nat.le_refl _
    · have : i = j + 1 := by omega
      subst this; exact Nat.le_refl _

theorem Tc.agree (T : Tc cx cf base ops X S) (K : KeepsF cf) {i : Nat} {t : Part} : ∀ (j : Nat), i ≤ j → j ≤ ops.size → (∀ k, i ≤ k → k < j → isE (S k).kd = true → hits t (wsOf (S k).kd) = false) →
    AgreeO t ((X i).h.get t.n) ((X j).h.get t.n) := by
  intro j
  induction j with
  | zero => intro h _ _; have : i = 0 := by omega
            subst this; exact .refl _ _
  | succ j ih =>
    intro hij hj hh
    rcases Nat.lt_or_ge i (j + 1) with hlt | hge
    · refine (ih (by omega) (by omega) fun k h1 h2 => hh k h1 (by omega)).trans ?_
      cases he : isE (S j).kd with
      | true =>
        obtain ⟨h1, hc, h2, _, h4⟩ := T.eff_chg K (by omega) he
        have hj' := hh j (by omega) (by omega) he
        obtain ⟨ws, e1, e2⟩ := hc.dt
        rw [h4, e1, hits_append, Bool.or_eq_false_iff] at hj'
        have e3 := release_dt _ t _ _ hj'.2
        have := e2 t hj'.1
        rw [e3.1] at this
        rw [h2]
        exact this
      | false => rw [T.heap_not (by omega) he]; exact .refl _ _
    · have : i = j + 1 := by omega
      subst this; exact .refl _ _

/-- A block that was made and not given to memory is not there. -/
theorem Tc.fresh (T : Tc cx cf base ops X S) (K : KeepsF cf) (h0 : ∀ x, base ≤ x → (X 0).h.get x = none) (hb : base + ops.size ≤ (X 0).h.nx) : ∀ (j : Nat), j ≤ ops.size → ∀ i, i < ops.size → UnR S j i → (X j).h.get (base + i) = none := by
  intro j
  induction j with
  | zero => intro _ i _ _; exact h0 _ (by omega)
  | succ j ih =>
    intro hj i hi hu
    have IH := ih (by omega) i hi fun e h1 h2 => hu e h1 (by omega)
    cases he : isE (S j).kd with
    | true =>
      obtain ⟨h1, hc, h2, _, _⟩ := T.eff_chg K (by omega) he
      rw [h2]
      refine hc.old _ ?_ ?_
      · rw [release_nx]
        have := T.nx_mono K (i := 0) j (by omega) (by omega)
        show base + i < (X j).h.nx
        omega
      · rcases release_get (S j).mask (X j).mks ⟨(X j).h.tr, (X j).h.nx, []⟩ (base + i) with ⟨i', b, a1, a2, _⟩ | ⟨_, a2⟩
        · obtain ⟨b1, ⟨v, b2⟩, _⟩ := (T.mks j (by omega) i' (base + i) b).1 a1
          have e := T.mak_id (by omega) b2
          have : i' = i := by omega
          subst this
          rw [hu j b1 (by omega) he] at a2
          cases a2
        · rw [a2]; exact IH
    | false => rw [T.heap_not (by omega) he]; exact IH

/-- The model's memory behind what is done. -/
structure Mem (base : Nat) (ops : Array Oper) (X : Nat → Po) (S : Nat → Sn) (L : Nat → Bool) (q : Nat) (H : Heap) : Prop where
  le : q ≤ ops.size
  eff : ∀ i, i < ops.size → isE (S i).kd = true → (L i = true ↔ i < q)
  nx : H.nx = (X q).h.nx
  h1 : ∀ x o, (X q).h.get x = some o → H.get x = some o
  h2 : ∀ i x b v, i < ops.size → L i = true → (S i).kd = .mak x b v → UnR S q i → H.get x = some b
  h3 : ∀ x o, H.get x = some o → (X q).h.get x = some o ∨ ∃ i v, i < ops.size ∧ L i = true ∧ (S i).kd = .mak x o v ∧ UnR S q i

noncomputable def unrB (S : Nat → Sn) (q i : Nat) : Bool := (List.range q).all fun e => !(decide (i < e) && (isE (S e).kd && (S e).mask.testBit i))

theorem unrB_iff (q i : Nat) : unrB S q i = true ↔ UnR S q i := by
  unfold unrB UnR
  rw [List.all_eq_true]
  constructor
  · intro h e h1 h2 h3
    have := h e (by simpa using h2)
    simp only [h1, decide_true, Bool.true_and, h3, Bool.not_eq_true'] at this
    exact this
  · intro h e he
    have he : e < q := by simpa using he
    cases h3 : isE (S e).kd with
    | false => simp
    | true =>
      by_cases h1 : i < e
      · simp [h1, h e h1 he h3]
      · simp [h1]

noncomputable def asl (S : Nat → Sn) (L : Nat → Bool) (q n : Nat) : List (Nat × Nat × Obj) := (List.range n).filterMap fun i => match (S i).kd with
  | .mak x b _ => match L i && unrB S q i with
    | true => some (i, x, b)
    | false => none
  | _ => none

theorem mem_asl (L : Nat → Bool) (q n i x : Nat) (b : Obj) : (i, x, b) ∈ asl S L q n ↔ i < n ∧ L i = true ∧ (∃ v, (S i).kd = .mak x b v) ∧ UnR S q i := by
  unfold asl
  rw [List.mem_filterMap]
  constructor
  · rintro ⟨k, h1, h2⟩
    split at h2
    · rename_i x' b' v hk
      split at h2
      · rename_i hh
        rw [Bool.and_eq_true] at hh
        cases h2
        exact ⟨by simpa using h1, hh.1, ⟨v, hk⟩, (unrB_iff _ _).1 hh.2⟩
      · cases h2
    · cases h2
  · rintro ⟨h1, h2, ⟨v, h3⟩, h4⟩
    refine ⟨i, by simpa using h1, ?_⟩
    rw [h3]
    simp only [h2, (unrB_iff _ _).2 h4, Bool.and_self]

/-- That memory can be put together. -/
theorem mem_can (T : Tc cx cf base ops X S) (K : KeepsF cf) (h0 : ∀ x, base ≤ x → (X 0).h.get x = none) (hb : base + ops.size ≤ (X 0).h.nx) {L : Nat → Bool} {q : Nat} (hq : q ≤ ops.size) (he : ∀ i, i < ops.size → isE (S i).kd = true → (L i = true ↔ i < q)) :
    Mem base ops X S L q (giveAll (asl S L q ops.size) (X q).h) := by
  refine ⟨hq, he, giveAll_nx _ _, fun x o hx => ?_, fun i x b v hi hL hk hu => ?_, fun x o hx => ?_⟩
  · rcases giveAll_get (asl S L q ops.size) (X q).h x with ⟨i, b, a1, _⟩ | ⟨_, a2⟩
    · obtain ⟨b1, b2, ⟨v, b3⟩, b4⟩ := (mem_asl L q _ i x b).1 a1
      have := T.mak_id b1 b3
      subst this
      rw [T.fresh K h0 hb q hq i b1 b4] at hx
      cases hx
    · rw [a2]; exact hx
  · rcases giveAll_get (asl S L q ops.size) (X q).h x with ⟨i', b', a1, a2⟩ | ⟨a1, _⟩
    · obtain ⟨b1, b2, ⟨v', b3⟩, b4⟩ := (mem_asl L q _ i' x b').1 a1
      have e1 := T.mak_id b1 b3
      have e2 := T.mak_id hi hk
      have : i' = i := by omega
      subst this
      rw [hk] at b3
      cases b3
      exact a2
    · exact absurd ((mem_asl L q _ i x b).2 ⟨hi, hL, ⟨v, hk⟩, hu⟩) (a1 i b)
  · rcases giveAll_get (asl S L q ops.size) (X q).h x with ⟨i, b, a1, a2⟩ | ⟨_, a2⟩
    · obtain ⟨b1, b2, ⟨v, b3⟩, b4⟩ := (mem_asl L q _ i x b).1 a1
      rw [hx] at a2
      cases a2
      exact .inr ⟨i, v, b1, b2, b3, b4⟩
    · rw [a2] at hx; exact .inl hx

/-- Done besides: what neither makes nor acts. -/
theorem Mem.keep {L L' : Nat → Bool} {q : Nat} {H : Heap} {j : Nat} (M : Mem base ops X S L q H) (hL : ∀ i, L' i = (decide (i = j) || L i)) (he : isE (S j).kd = false) (hm : ∀ n b v, (S j).kd ≠ .mak n b v) : Mem base ops X S L' q H := by
  have ne : ∀ i, i ≠ j → L' i = L i := fun i h => by rw [hL]; simp [h]
  refine ⟨M.le, fun i hi h => ?_, M.nx, M.h1, fun i x b v hi h1 h2 h3 => ?_, fun x o hx => ?_⟩
  · rw [ne i (fun e => by rw [e, he] at h; cases h)]
    exact M.eff i hi h
  · rw [ne i (fun e => hm x b v (e ▸ h2))] at h1
    exact M.h2 i x b v hi h1 h2 h3
  · rcases M.h3 x o hx with h | ⟨i, v, a1, a2, a3, a4⟩
    · exact .inl h
    · refine .inr ⟨i, v, a1, ?_, a3, a4⟩
      rw [hL, a2, Bool.or_true]

end
end Go.Em

namespace Go.Em
section
variable {cx : Cx} {cf : CallFn} {base : Nat} {ops : Array Oper} {X : Nat → Po} {S : Nat → Sn}

/-- What holds behind some of the operations. -/
structure Inv (base : Nat) (ops : Array Oper) (X : Nat → Po) (S : Nat → Sn) (N : Nat) (st : St) (m0 : Pm) (w0 : World) (fuel : Nat) (listed : Array Bool) (m : Pm) (a : Act) (w : World) : Prop where
  size : listed.size = ops.size
  count : unl listed ops.size = fuel
  closed : ∀ i, i < ops.size → listed.getD i false = true → ∀ k, (S i).mask.testBit k = true → listed.getD k false = true
  fine : ∀ i, i < ops.size → listed.getD i false = true → outV (S i).kd ≠ none
  new : ∀ i, i < ops.size → listed.getD i false = true → ∀ t v, (S i).o.dst = some t → outV (S i).kd = some v → V m v (a.tmps.getD t undef)
  old : ∀ t v, (∀ i, i < ops.size → listed.getD i false = true → (S i).o.dst ≠ some t) → st.tm.get t = some v → V m v (a.tmps.getD t undef)
  mem : ∃ q H, Mem base ops X S (fun i => listed.getD i false) q H ∧ Sim m H w ∧ Stp m0 st.h w0 m H w
  unmade : ∀ i, i < ops.size → listed.getD i false = false → m (base + i) = none
  ds : Ds m st.df a.defers
  tsize : N ≤ a.tmps.size

theorem put_other {a : Act} {dst : Option Nat} {v : Value} {t : Nat} (h : dst ≠ some t) : (a.put dst v).tmps.getD t undef = a.tmps.getD t undef := by
  cases dst with
  | none => rfl
  | some d =>
    have hne : d ≠ t := fun e => h (by rw [e])
    simp [Act.put, Array.getElem?_setIfInBounds_ne hne]

theorem put_here {a : Act} {t : Nat} {v : Value} (h : t < a.tmps.size) : (a.put (some t) v).tmps.getD t undef = v := by
  simp [Act.put, h]

variable {N : Nat} {st : St} {m0 : Pm} {w0 : World} {fuel : Nat} {listed : Array Bool} {m : Pm} {a : Act} {w : World}

/-- One more is done. -/
theorem Inv.advance (T : Tc cx cf base ops X S) (I : Inv base ops X S N st m0 w0 (fuel + 1) listed m a w) {j : Nat} (hj : j < ops.size) (hl : listed.getD j false = false) (hmask : ∀ k, (S j).mask.testBit k = true → listed.getD k false = true)
    {v v' : Value} (hv : outV (S j).kd = some v) {m' : Pm} {w' : World} (hle : m.Le m') (hV : V m' v v') (hdst : ∀ d, (S j).o.dst = some d → d < N)
    (hmem : ∃ q H, Mem base ops X S (fun i => (listed.setIfInBounds j true).getD i false) q H ∧ Sim m' H w' ∧ Stp m0 st.h w0 m' H w')
    (hun : ∀ i, i < ops.size → i ≠ j → m (base + i) = none → m' (base + i) = none) : Inv base ops X S N st m0 w0 fuel (listed.setIfInBounds j true) m' (a.put (S j).o.dst v') w' := by
  have hjs : j < listed.size := by rw [I.size]; exact hj
  have hd : ∀ i, i < ops.size → i ≠ j → ∀ t, (S i).o.dst = some t → (S j).o.dst ≠ some t := fun i hi hne t ht => by
    rcases Nat.lt_or_ge i j with h | h
    · exact T.dsts h hj ht
    · intro e
      exact T.dsts (by omega) hi e ht
  refine ⟨by simp [I.size], ?_, fun i hi h k hk => ?_, fun i hi h => ?_, fun i hi h t u ht hu => ?_, fun t u h hu => ?_, hmem, fun i hi h => ?_, ?_, ?_⟩
  · have := unl_set hjs hl ops.size
    rw [if_pos hj, I.count] at this
    omega
  · rw [getD_set hjs] at h ⊢
    rw [Bool.or_eq_true, decide_eq_true_eq] at h
    rcases h with rfl | h
    · rw [hmask k hk, Bool.or_true]
    · rw [I.closed i hi h k hk, Bool.or_true]
  · rw [getD_set hjs, Bool.or_eq_true, decide_eq_true_eq] at h
    rcases h with rfl | h
    · rw [hv]; simp
    · exact I.fine i hi h
  · rw [getD_set hjs, Bool.or_eq_true, decide_eq_true_eq] at h
    by_cases hij : i = j
    · subst hij
      rw [hv] at hu
      cases hu
      rw [ht, put_here (Nat.lt_of_lt_of_le (hdst t ht) I.tsize)]
      exact hV
    · have h : listed.getD i false = true := by
        rcases h with h | h
        · exact absurd h hij
        · exact h
      rw [put_other (hd i hi hij t ht)]
      exact (I.new i hi h t u ht hu).mono hle
  · have hjd : (S j).o.dst ≠ some t := h j hj (by rw [getD_set hjs]; simp)
    rw [put_other hjd]
    refine (I.old t u (fun i hi h' => h i hi ?_) hu).mono hle
    rw [getD_set hjs, h', Bool.or_true]
  · rw [getD_set hjs, Bool.or_eq_false_iff, decide_eq_false_iff_not] at h
    exact hun i hi h.1 (I.unmade i hi h.2)
  · rw [put_defers']; exact I.ds.mono hle
  · rw [put_size]; exact I.tsize

/-- What must be ahead of an operation that may be done is done. -/
theorem Inv.ready_mask {md : Region.Mode} (T : Tc cx cf base ops X S) (I : Inv base ops X S N st m0 w0 fuel listed m a w) {j : Nat} (hr : j ∈ Region.ready md ops listed) :
    j < ops.size ∧ listed.getD j false = false ∧ ∀ k, (S j).mask.testBit k = true → listed.getD k false = true := by
  obtain ⟨h1, o, h2, h3⟩ := mem_ready.1 hr
  have hj : j < ops.size := (Array.getElem?_eq_some_iff.1 h2).1
  have hjs : j < listed.size := by rw [I.size]; exact hj
  have ho : o = (S j).o := by
    have := T.oper hj
    rw [h2] at this
    cases this
    rfl
  subst ho
  refine ⟨hj, by simpa [hjs] using h1, fun k hk => ?_⟩
  obtain ⟨e, a1, a2, a3, a4⟩ := T.bit hj hk
  have hb : Region.binds md e = true := by
    unfold edgeAny at a2
    unfold Region.binds
    cases hg : e.ground <;> rw [hg] at a2 <;> simp only at a2 ⊢ <;> cases a2
  have hl := h3 e (by simpa using a1) hb
  rcases a4 with rfl | a4
  · exact hl
  · exact I.closed e.on (by omega) hl k a4

/-- The slots that an operation looks at. -/
theorem Inv.slots (T : Tc cx cf base ops X S) (h0 : (X 0).tm = st.tm) (I : Inv base ops X S N st m0 w0 fuel listed m a w) {j : Nat} (hj : j < ops.size) (hl : listed.getD j false = false) (hmask : ∀ k, (S j).mask.testBit k = true → listed.getD k false = true) :
    Tm m (rst (reads ops.toList (S j).o) (X j).tm) a.tmps := by
  intro t v h
  rw [rst_get] at h
  split at h
  · rename_i hr
    have hr' := (memN_iff t (reads ops.toList (S j).o)).2 hr
    by_cases he : ∃ i, i < j ∧ (S i).o.dst = some t
    · obtain ⟨i, hij, hd⟩ := he
      have hb : (S j).mask.testBit i = true := by
        cases hm : (S j).mask.testBit i with
        | true => rfl
        | false =>
          have := (T.apart hij hj hm).1 t hd
          rw [hr'] at this
          cases this
      have hli := hmask i hb
      cases ho : outV (S i).kd with
      | none => exact absurd ho (I.fine i (by omega) hli)
      | some u =>
        rw [T.slot_new hd ho j hij (by omega)] at h
        cases h
        exact I.new i (by omega) hli t v hd ho
    · have hno : ∀ i, i < j → (S i).o.dst ≠ some t := fun i hi hd => he ⟨i, hi, hd⟩
      rw [T.slot_old j (by omega) t hno, h0] at h
      refine I.old t v (fun i hi hli hd => ?_) h
      rcases Nat.lt_trichotomy i j with hlt | rfl | hgt
      · exact hno i hlt hd
      · rw [hl] at hli; cases hli
      · cases hm : (S i).mask.testBit j with
        | true =>
          rw [I.closed i hi hli j hm] at hl
          cases hl
        | false =>
          have := (T.apart hgt hi hm).2 t hd
          rw [hr'] at this
          cases this
  · cases h

/-- A new block under a number that was kept for it. -/
theorem Sim.newAt {m : Pm} {H : Heap} {w : World} (S : Sim m H w) {n : Nat} {o : Obj} {x : Go.Obj} {p : Pl} (hn : m n = none) (hlt : n < H.nx) (hp : p.blk = w.heap.size) (ho : ObjR (m.put n p) p (w.alloc x) o) :
    Sim (m.put n p) (H.put n (some o)) (w.alloc x) := by
  have hle : m.Le (m.put n p) := Pm.le_put hn
  have hold : ∀ b, b < w.heap.size → (w.alloc x).heap[b]? = w.heap[b]? := fun b hb => by
    show (w.heap.push x)[b]? = _
    rw [Array.getElem?_push, if_neg (by omega)]
  have hput : ∀ i q, (m.put n p) i = some q → i ≠ n → m i = some q := fun i q e hi => by
    unfold Pm.put at e; rwa [if_neg hi] at e
  have hnx : (m.put n p) n = some p := put_self
  refine ⟨fun i hi => ?_, fun i oi hi => ?_, fun i j oi oj pi pj hi hj mi mj hne => ?_⟩
  · have hi : H.nx ≤ i := hi
    unfold Pm.put
    rw [if_neg (by omega)]
    exact S.fresh i hi
  · rw [Heap.get_put] at hi
    split at hi
    · rename_i e; subst e; cases hi; exact ⟨p, hnx, ho⟩
    · obtain ⟨q, hq, hr⟩ := S.live i oi hi
      exact ⟨q, hle _ _ hq, (hr.congr (hold _ hr.lt)).mono hle⟩
  · rw [Heap.get_put] at hi hj
    split at hi <;> split at hj
    · rename_i e1 e2; exact absurd (e1.trans e2.symm) hne
    · rename_i e1 e2
      subst e1; rw [hnx] at mi; cases mi
      obtain ⟨q, hq, hrr⟩ := S.live j oj hj
      rw [hput j _ mj e2] at hq; cases hq
      have := hrr.lt; omega
    · rename_i e1 e2
      subst e2; rw [hnx] at mj; cases mj
      obtain ⟨q, hq, hrr⟩ := S.live i oi hi
      rw [hput i _ mi e1] at hq; cases hq
      have := hrr.lt; omega
    · rename_i e1 e2
      exact S.inj i j oi oj pi pj hi hj (hput i _ mi e1) (hput j _ mj e2) hne

end
end Go.Em

namespace Go.Em
section
variable {cx : Cx} {cf : CallFn} {base : Nat} {ops : Array Oper} {X : Nat → Po} {S : Nat → Sn}
variable {N : Nat} {st : St} {m0 : Pm} {w0 : World} {fuel : Nat} {listed : Array Bool} {m : Pm} {a : Act} {w : World}

theorem dstsB_mem : ∀ {l : List Oper}, dstsB N l = true → ∀ o ∈ l, ∀ d, o.dst = some d → d < N
  | [], _, o, ho => by cases ho
  | x :: l, h, o, ho => by
    obtain ⟨h1, h2⟩ := dstsB_cons h
    rcases List.mem_cons.1 ho with rfl | ho
    · exact h1
    · exact dstsB_mem h2 o ho

theorem forget_get : ∀ (l : List Oper) (tm : Tr Value) (t : Nat) (v : Value), (forget l tm).get t = some v → tm.get t = some v ∧ ∀ o ∈ l, o.dst ≠ some t
  | [], tm, t, v, h => ⟨h, fun o ho => by cases ho⟩
  | o :: l, tm, t, v, h => by
    simp only [forget] at h
    split at h
    · rename_i d hd
      obtain ⟨h1, h2⟩ := forget_get l _ t v h
      rw [Tr.get_set] at h1
      split at h1
      · cases h1
      · rename_i hne
        refine ⟨h1, fun x hx => ?_⟩
        rcases List.mem_cons.1 hx with rfl | hx
        · rw [hd]; intro e; cases e; exact hne rfl
        · exact h2 x hx
    · rename_i hd
      obtain ⟨h1, h2⟩ := forget_get l _ t v h
      refine ⟨h1, fun x hx => ?_⟩
      rcases List.mem_cons.1 hx with rfl | hx
      · rw [hd]; intro e; cases e
      · exact h2 x hx

/-- What is fixed while a statement is gone through. -/
structure Fx (cx : Cx) (cf : CallFn) (base : Nat) (ops : Array Oper) (X : Nat → Po) (S : Nat → Sn) (N : Nat) (st : St) : Prop where
  T : Tc cx cf base ops X S
  tm0 : (X 0).tm = st.tm
  h0 : ∀ x, base ≤ x → (X 0).h.get x = none
  nx0 : base + ops.size ≤ (X 0).h.nx
  nxs : st.h.nx = base
  dsts : dstsB N ops.toList = true
  big : (X ops.size).h.nx ≤ big

theorem Inv.step (O : Ok cx) (C : CallsOk cx cf) (K : KeepsF cf) (F : Fx cx cf base ops X S N st) {Q : Exit → Act → World → Prop}
    (hpan : ∀ p ws h1 c m' a' w' c', p < ops.size → (S p).kd = .pan ws h1 c → Fr N m' { st with tm := forget ops.toList st.tm, h := (X ops.size).h } a' w' → Stp m0 st.h w0 m' (X ops.size).h w' → Cs m' c c' → Q (.panic c') a' w')
    (I : Inv base ops X S N st m0 w0 (fuel + 1) listed m a w) {md : Region.Mode} {j : Nat} (hr : j ∈ Region.ready md ops listed) :
    wpOp cx.P ops Q j (fun a' w' => ∃ m', Inv base ops X S N st m0 w0 fuel (listed.setIfInBounds j true) m' a' w') a w := by
  have T := F.T
  obtain ⟨hj, hl, hmask⟩ := I.ready_mask T hr
  have hjs : j < listed.size := by rw [I.size]; exact hj
  have Sl := I.slots T F.tm0 hj hl hmask
  have KD := (T.kd hj).rst
  obtain ⟨q, H, M, SH, PH⟩ := I.mem
  have hL : ∀ i, (listed.setIfInBounds j true).getD i false = (decide (i = j) || listed.getD i false) := getD_set hjs
  have hdst : ∀ d, (S j).o.dst = some d → d < N := fun d hd => dstsB_mem F.dsts _ (by
    have := T.oper hj
    exact Array.mem_toList_iff.2 (Array.mem_of_getElem? this)) d hd
  have hHnx : H.nx ≤ Em.big := by
    rw [M.nx]
    exact Nat.le_trans (T.nx_mono K ops.size M.le (Nat.le_refl _)) F.big
  have hHlow : base + ops.size ≤ H.nx := by
    rw [M.nx]
    exact Nat.le_trans F.nx0 (T.nx_mono K q (by omega) M.le)
  have notl : ∀ k, k < ops.size → (S k).mask.testBit j = true → listed.getD k false = false := fun k hk hb => by
    cases h : listed.getD k false with
    | false => rfl
    | true => rw [I.closed k hk h j hb] at hl; cases hl
  unfold wpOp
  rw [T.oper hj]
  simp only
  -- an effect meets memory as it stands
  have atEff : isE (S j).kd = true → q ≤ j ∧ (X j).h = (X q).h ∧ ∀ i, i < ops.size → isE (S i).kd = true → ((listed.setIfInBounds j true).getD i false = true ↔ i < j + 1) := fun he => by
    have hqj : q ≤ j := by
      rcases Nat.lt_or_ge j q with h | h
      · have := (M.eff j hj he).2 h
        rw [hl] at this; cases this
      · exact h
    refine ⟨hqj, T.heap_same j hqj (by omega) fun k h1 h2 => ?_, fun i hi hie => ?_⟩
    · cases hk : isE (S k).kd with
      | false => rfl
      | true =>
        have := (M.eff k (by omega) hk).1 (hmask k (T.effs h2 hj hk he))
        omega
    · rw [hL, Bool.or_eq_true, decide_eq_true_eq]
      constructor
      · rintro (rfl | h)
        · omega
        · rcases Nat.lt_or_ge j i with hlt | hge
          · rw [notl i hi (T.effs hlt hi he hie)] at h; cases h
          · omega
      · intro h
        rcases Nat.lt_or_ge i j with hlt | hge
        · exact .inr (hmask i (T.effs hlt hj hie he))
        · exact .inl (by omega)
  have subHs : isE (S j).kd = true → ∀ x o, (release (S j).mask (X j).mks ⟨(X j).h.tr, (X j).h.nx, []⟩).get x = some o → H.get x = some o := fun he x o hx => by
    obtain ⟨hqj, hXh, _⟩ := atEff he
    rcases release_get (S j).mask (X j).mks ⟨(X j).h.tr, (X j).h.nx, []⟩ x with ⟨i, b, a1, a2, a3⟩ | ⟨_, a2⟩
    · obtain ⟨b1, ⟨v, b2⟩, b3⟩ := (T.mks j (by omega) i x b).1 a1
      rw [hx] at a3
      cases a3
      exact M.h2 i x o v (by omega) (hmask i a2) b2 fun e h1 h2 h3 => b3 e h1 (by omega) h3
    · rw [a2] at hx
      refine M.h1 x o ?_
      rw [← hXh]
      exact hx
  have hsnx : isE (S j).kd = true → H.nx = (release (S j).mask (X j).mks ⟨(X j).h.tr, (X j).h.nx, []⟩).nx := fun he => by
    rw [release_nx, M.nx, ← (atEff he).2.1]
  generalize hk : (S j).kd = kd at KD
  cases KD with
  | dead hd hb =>
    obtain ⟨h1, ws, h2, c, h3⟩ := T.alive j (by omega) _ hd
    exact absurd (by rw [h3]; rfl) (I.fine _ (by omega) (hmask _ hb))
  | no hnd hw =>
    rw [wantE_run Sl hw]
    simp only [Bool.false_eq_true, if_false]
    exact ⟨m, I.advance T hj hl hmask (by rw [hk]; rfl) (.refl _) (V.undef m) hdst ⟨q, H, M.keep hL (by rw [hk]; rfl) (by rw [hk]; simp), SH, PH⟩ fun _ _ _ h => h⟩
  | pur hnd hw hmk hef hod ho =>
    rw [wantE_run Sl hw]
    simp only [if_true]
    left
    have Sb : Sim m (bare Em.big) w := SH.sub (fun i o e => by cases e) hHnx
    obtain ⟨_, u, v', e, hrun, hV⟩ := opE_read O Sb Sl hmk hef hod ho
    cases e
    unfold Oper.wp
    rw [hrun]
    exact ⟨m, I.advance T hj hl hmask (by rw [hk]; rfl) (.refl _) hV hdst ⟨q, H, M.keep hL (by rw [hk]; rfl) (by rw [hk]; simp), SH, PH⟩ fun _ _ _ h => h⟩
  | lod hnd hw hmk hef hod ht hg ho =>
    rename_i t b v h1
    rw [wantE_run Sl hw]
    simp only [if_true]
    left
    have hag : AgreeO t ((X j).h.get t.n) ((X q).h.get t.n) := by
      rcases Nat.le_total j q with hjq | hqj
      · refine T.agree K q hjq M.le fun k h1 h2 h3 => ?_
        have hne : k ≠ j := fun e => by rw [e, hk] at h3; cases h3
        have hlk := (M.eff k (by have := M.le; omega) h3).2 h2
        have hm : (S k).mask.testBit j = false := by
          cases hb : (S k).mask.testBit j with
          | false => rfl
          | true => rw [notl k (by have := M.le; omega) hb] at hlk; cases hlk
        exact (T.lods (by omega) (by have := M.le; omega) hm).1 t v hk h3
      · refine (T.agree K j hqj (by omega) fun k h1 h2 h3 => ?_).symm
        have hm : (S j).mask.testBit k = false := by
          cases hb : (S j).mask.testBit k with
          | false => rfl
          | true =>
            have := (M.eff k (by omega) h3).1 (hmask k hb)
            omega
        exact (T.lods h2 hj hm).2 t v hk h3
    rw [hg] at hag
    have hex : ∃ b', (X q).h.get t.n = some b' := by
      rcases hag with h | ⟨_, _, _, _, _, _, _, _, _, h, _⟩
      · exact ⟨b, h.symm⟩
      · exact ⟨_, h⟩
    obtain ⟨b', hb'⟩ := hex
    rw [hb'] at hag
    obtain ⟨h2, ho'⟩ := lod_congr hmk hef hod ht ho hag
    have Sb : Sim m (only Em.big t.n b') w := SH.sub (fun i o e => by
      rw [only_get] at e
      split at e
      · rename_i hi
        cases e
        rw [hi]
        exact M.h1 _ _ hb'
      · cases e) hHnx
    obtain ⟨_, u, v', e, hrun, hV⟩ := opE_read O Sb Sl hmk hef hod ho'
    cases e
    unfold Oper.wp
    rw [hrun]
    exact ⟨m, I.advance T hj hl hmask (by rw [hk]; rfl) (.refl _) hV hdst ⟨q, H, M.keep hL (by rw [hk]; rfl) (by rw [hk]; simp), SH, PH⟩ fun _ _ _ h => h⟩
  | mak hnd hw hmk hb =>
    rename_i v b
    rw [wantE_run Sl hw]
    simp only [if_true]
    left
    have hm := I.unmade j hj hl
    obtain ⟨p, x, v', hrun, hp, hV, ho⟩ := makeE_run O Sl hb w hm
    unfold Oper.wp
    rw [hrun]
    have hlt : base + j < H.nx := by omega
    have hnone : H.get (base + j) = none := by
      cases h : H.get (base + j) with
      | none => rfl
      | some o =>
        obtain ⟨p', hp', _⟩ := SH.live _ _ h
        rw [hm] at hp'; cases hp'
    refine ⟨m.put (base + j) p, I.advance T hj hl hmask (by rw [hk]; rfl) (Pm.le_put hm) hV hdst ⟨q, H.put (base + j) (some b), ⟨M.le, fun i hi he => ?_, M.nx, fun y o hy => ?_, fun i y b' u hi h1 h2 h3 => ?_, fun y o hy => ?_⟩, SH.newAt hm hlt hp ho, ?_⟩ fun i hi hne h => ?_⟩
    · rw [hL]
      have : i ≠ j := fun e => by rw [e, hk] at he; cases he
      simpa [this] using M.eff i hi he
    · rw [Heap.get_put, if_neg]
      · exact M.h1 y o hy
      · intro e
        subst e
        rw [M.h1 _ _ hy] at hnone
        cases hnone
    · rw [Heap.get_put]
      by_cases hij : i = j
      · subst hij
        rw [hk] at h2
        cases h2
        rw [if_pos rfl]
      · have e := T.mak_id hi h2
        rw [if_neg (by omega)]
        rw [hL] at h1
        simp only [hij, decide_false, Bool.false_or] at h1
        exact M.h2 i y b' u hi h1 h2 h3
    · rw [Heap.get_put] at hy
      split at hy
      · rename_i e
        cases hy
        subst e
        refine .inr ⟨j, v, hj, by rw [hL]; simp, hk, fun e h1 h2 h3 => ?_⟩
        have hle := M.le
        have hle' := (M.eff e (by omega) h3).2 h2
        cases hb : (S e).mask.testBit j with
        | false => rfl
        | true => rw [notl e (by omega) hb] at hle'; cases hle'
      · rcases M.h3 y o hy with h | ⟨i, u, a1, a2, a3, a4⟩
        · exact .inl h
        · exact .inr ⟨i, u, a1, by rw [hL, a2, Bool.or_true], a3, a4⟩
    · refine ⟨PH.le.trans (Pm.le_put hm), fun i r hi e => PH.ids i r hi ?_, PH.nx, by have := PH.size; simp; omega, fun z k hk' ⟨i, o, r, g1, gz, g2, g3⟩ => ?_, fun k hk' hno => ?_, PH.tape, PH.os, PH.output⟩
      · unfold Pm.put at e
        have := F.nxs
        rwa [if_neg (by omega)] at e
      · rw [Heap.get_put] at g1
        split at g1
        · rename_i e
          subst e
          rw [put_self] at g2
          cases g2
          have := PH.size
          omega
        · rename_i e
          unfold Pm.put at g2
          rw [if_neg e] at g2
          exact PH.own z k hk' ⟨i, o, r, g1, gz, g2, g3⟩
      · rw [← PH.keep k hk' hno]
        show (w.heap.push x)[k]? = _
        have := PH.size
        rw [Array.getElem?_push, if_neg (by omega)]
    · unfold Pm.put
      rw [if_neg (by omega)]
      exact h
  | eff hdead hw hod ho =>
    rename_i v h1
    rw [wantE_run Sl hw]
    simp only [if_true]
    left
    have he : isE (S j).kd = true := by rw [hk]; rfl
    obtain ⟨hqj, hXh, heff⟩ := atEff he
    have hsub := subHs he
    have hnx := hsnx he
    have Shs := SH.sub hsub (Nat.le_of_eq hnx)
    have R := opE_run O C Shs Sl ho
    have hn1 := T.heap_next hj
    rw [hk] at hn1
    simp only at hn1
    refine (R.upon_val (Q := Q) fun m' w' v' k1 k2 k3 => ?_).1
    have hfr := SH.frame (H' := giveAll (asl S (fun i => (listed.setIfInBounds j true).getD i false) (j + 1) ops.size) (X (j + 1)).h) hsub k1 k2 (by rw [giveAll_nx, hn1]; exact Nat.le_refl _) (Nat.le_of_eq hnx) fun x o hx => by
      rcases giveAll_get (asl S (fun i => (listed.setIfInBounds j true).getD i false) (j + 1) ops.size) (X (j + 1)).h x with ⟨i, b, a1, a2⟩ | ⟨_, a2⟩
      · obtain ⟨b1, b2, ⟨u, b3⟩, b4⟩ := (mem_asl _ _ _ i x b).1 a1
        rw [hx] at a2
        cases a2
        have hij : i ≠ j := fun e => by rw [e, hk] at b3; cases b3
        rw [hL] at b2
        simp only [hij, decide_false, Bool.false_or] at b2
        have e := T.mak_id b1 b3
        subst e
        refine .inr ⟨?_, M.h2 i _ o u b1 b2 b3 fun e g1 g2 g3 => b4 e g1 (by omega) g3⟩
        rcases release_get (S j).mask (X j).mks ⟨(X j).h.tr, (X j).h.nx, []⟩ (base + i) with ⟨i', b', c1, c2, _⟩ | ⟨_, c2⟩
        · obtain ⟨d1, ⟨u', d2⟩, _⟩ := (T.mks j (by omega) i' (base + i) b').1 c1
          have e := T.mak_id (by omega) d2
          have : i' = i := by omega
          subst this
          rw [b4 j d1 (by omega) he] at c2
          cases c2
        · rw [c2]
          exact T.fresh K F.h0 F.nx0 j (by omega) i b1 fun e g1 g2 g3 => b4 e g1 (by omega) g3
      · rw [a2, hn1] at hx
        exact .inl hx
    refine ⟨m', I.advance T hj hl hmask (by rw [hk]; rfl) k2.le k3 hdst ⟨j + 1, _, mem_can T K F.h0 F.nx0 (by omega) heff, hfr.1, PH.trans hfr.2⟩ fun i hi hne h => ?_⟩
    cases hm' : m' (base + i) with
    | none => rfl
    | some p =>
      have := k2.ids (base + i) p (by rw [← hnx]; omega) hm'
      rw [h] at this
      cases this
  | pan hdead hw hod ho =>
    rename_i c h1
    rw [wantE_run Sl hw]
    simp only [if_true]
    left
    have he : isE (S j).kd = true := by rw [hk]; rfl
    obtain ⟨hqj, hXh, heff⟩ := atEff he
    have hsub := subHs he
    have hnx := hsnx he
    have Shs := SH.sub hsub (Nat.le_of_eq hnx)
    have R := opE_run O C Shs Sl ho
    have hn1 := T.heap_next hj
    rw [hk] at hn1
    simp only at hn1
    have hlast : (X ops.size).h = (X (j + 1)).h := T.heap_same ops.size (by omega) (Nat.le_refl _) fun k g1 g2 => T.pan_last hj hk (by omega) g2
    refine (R.upon_pan Shs (next := fun a' w' => ∃ m', Inv base ops X S N st m0 w0 fuel (listed.setIfInBounds j true) m' a' w') (Q := Q) fun m' w' c' k1 k2 k3 => ?_).1
    have hfr := SH.frame (H' := (X ops.size).h) hsub k1 k2 (by rw [hlast, hn1]; exact Nat.le_refl _) (Nat.le_of_eq hnx) fun x o hx => by
      rw [hlast, hn1] at hx
      exact .inl hx
    refine hpan j _ _ c m' a w' c' hj hk ⟨hfr.1, fun t v ht => ?_, I.ds.mono k2.le, I.tsize⟩ (PH.trans hfr.2) k3
    obtain ⟨g1, g2⟩ := forget_get _ _ _ _ ht
    refine (I.old t v (fun i hi _ => g2 _ ?_) g1).mono k2.le
    exact Array.mem_toList_iff.2 (Array.mem_of_getElem? (T.oper hi))

end
end Go.Em

namespace Go.Em
section
variable {cx : Cx} {cf : CallFn} {base : Nat} {ops : Array Oper} {X : Nat → Po} {S : Nat → Sn}
variable {N : Nat} {st : St} {m0 : Pm} {w0 : World}

theorem Inv.all (O : Ok cx) (C : CallsOk cx cf) (K : KeepsF cf) (F : Fx cx cf base ops X S N st) (hdr : drainsB ops.toList = true) {Q : Exit → Act → World → Prop}
    (hpan : ∀ p ws h1 c m' a' w' c', p < ops.size → (S p).kd = .pan ws h1 c → Fr N m' { st with tm := forget ops.toList st.tm, h := (X ops.size).h } a' w' → Stp m0 st.h w0 m' (X ops.size).h w' → Cs m' c c' → Q (.panic c') a' w')
    (hfin : ∀ fuel listed m a w, (∀ k, k < ops.size → listed.getD k false = true) → Inv base ops X S N st m0 w0 fuel listed m a w → Q .normal a w) (md : Region.Mode) :
    ∀ (fuel : Nat) (listed : Array Bool) (m : Pm) (a : Act) (w : World), Inv base ops X S N st m0 w0 fuel listed m a w → wpAny cx.P md ops Q fuel listed a w := by
  intro fuel
  induction fuel with
  | zero =>
    intro listed m a w I
    have hall := unl_zero ops.size I.count
    refine ⟨?_, hfin _ _ m a w hall I⟩
    cases hr : Region.ready md ops listed with
    | nil => rfl
    | cons j l =>
      have hj : j ∈ Region.ready md ops listed := by rw [hr]; simp
      obtain ⟨h1, h2, _⟩ := I.ready_mask F.T hj
      rw [hall j h1] at h2
      cases h2
  | succ fuel ih =>
    intro listed m a w I
    refine ⟨fun hr => hfin _ _ m a w (drainsB_sound hdr md I.size hr) I, fun j hj => ?_⟩
    exact wpOp_mono (fun a' w' ⟨m', I'⟩ => ih _ m' a' w' I') (I.step O C K F hpan hj)

theorem Stp.sub {m m' : Pm} {h h1 h2 : Heap} {w w' : World} (P : Stp m h w m' h1 w') (hg : ∀ i o, h2.get i = some o → h1.get i = some o) (hn : h1.nx ≤ h2.nx) : Stp m h w m' h2 w' :=
  ⟨P.le, P.ids, Nat.le_trans P.nx hn, P.size, fun z b hb ⟨i, o, p, a1, az, a2, a3⟩ => P.own z b hb ⟨i, o, p, hg i o a1, az, a2, a3⟩, P.keep, P.tape, P.os, P.output⟩

/-- Every order of an open statement. -/
theorem drawE_ok (O : Ok cx) (C : CallsOk cx cf) (K : KeepsF cf) : DrawOk cx cf := by
  intro N ops st ex st' hd hN hdr
  unfold drawE at hd
  split at hd
  · cases hd
  · rename_i tr tm h mks htr
    obtain ⟨X, S, hX, hA, e1, e2, e3, e4⟩ := traceE_spec cx cf st.h.nx ops.toList ops.toList 0 ⟨.nil, none, st.tm, ⟨st.h.tr, st.h.nx + ops.toList.length, st.h.dt⟩, []⟩ [] tr tm h mks htr
    simp only [Nat.zero_add, List.append_nil, Array.length_toList] at hX hA e1 e2 e3 e4
    split at hd
    · cases hd
    · cases hd
    · rename_i hok hbig
      rw [e4] at hok hd
      have T : Tc cx cf st.h.nx ops X S := ⟨fun k hk => by
          obtain ⟨o, ho, A⟩ := hA k hk
          exact ⟨o, by simpa using ho, A⟩, fun i j h1 h2 => traceOk_spec ops.toList S ops.size (by simpa using hok) i j h1 h2, by rw [hX], by rw [hX], by rw [hX]⟩
      have hu : st'.u = st.u := by
        split at hd <;> cases hd <;> rfl
      refine ⟨hu, fun m a w F Q hQ t => ?_⟩
      have hbig := Nat.le_of_ble_eq_true hbig
      rw [← e2] at hbig
      have Fx0 : Fx cx cf st.h.nx ops X S N st := ⟨T, by rw [hX], fun x hx => by
          rw [hX]
          show st.h.get x = none
          cases hg : st.h.get x with
          | none => rfl
          | some o => have := F.sim.get_lt hg; omega, by rw [hX]; simp, rfl, hN, hbig⟩
      have hp := panOf_spec S ops.size
      have main : ∀ md, wpAny cx.P md ops Q ops.size (Array.replicate ops.size false) a { w with drawn := w.drawn + 1 } := fun md => by
        refine Inv.all (m0 := m) (w0 := { w with drawn := w.drawn + 1 }) O C K Fx0 hdr ?_ ?_ md ops.size _ m a _ ?_
        · intro p ws h1 c m' a' w' c' hpn hk hF hS hc
          split at hd
          · rename_i hnone
            exact absurd hk (hp.1 hnone p hpn ws h1 c)
          · rename_i chain hsome
            cases hd
            obtain ⟨k, hkn, ws', h1', hk'⟩ := hp.2 chain hsome
            have hpk : p = k := by
              rcases Nat.lt_trichotomy p k with hlt | h | hgt
              · have := T.pan_last hpn hk hlt hkn
                rw [hk'] at this; cases this
              · exact h
              · have := T.pan_last hkn hk' hgt hpn
                rw [hk] at this; cases this
            subst hpk
            rw [hk] at hk'
            cases hk'
            rw [← e2] at hQ
            exact hQ m' _ a' w' hF hS.draw (.pan hc)
        · intro fuel listed m' a' w' hall I
          split at hd
          · cases hd
            obtain ⟨q, H, M, SH, PH⟩ := I.mem
            have hqn : (X ops.size).h = (X q).h := T.heap_same ops.size M.le (Nat.le_refl _) fun k h1 h2 => by
              cases he : isE (S k).kd with
              | false => rfl
              | true =>
                have := (M.eff k h2 he).1 (hall k h2)
                omega
            have hsub : ∀ x o, (giveAll mks h).get x = some o → H.get x = some o := fun x o hx => by
              rw [← e2, ← e3] at hx
              rcases giveAll_get (X ops.size).mks (X ops.size).h x with ⟨i, b, a1, a2⟩ | ⟨_, a2⟩
              · obtain ⟨b1, ⟨v, b2⟩, b3⟩ := (T.mks ops.size (Nat.le_refl _) i x b).1 a1
                rw [hx] at a2
                cases a2
                exact M.h2 i x o v b1 (hall i b1) b2 fun e g1 g2 g3 => b3 e g1 (by have := M.le; omega) g3
              · rw [a2, hqn] at hx
                exact M.h1 x o hx
            have hnx : H.nx = (giveAll mks h).nx := by rw [giveAll_nx, ← e2, hqn, M.nx]
            refine hQ m' _ a' w' ⟨SH.sub hsub (Nat.le_of_eq hnx), fun t v ht => ?_, I.ds, I.tsize⟩ (PH.sub hsub (Nat.le_of_eq hnx)).draw .normal
            have ht : (X ops.size).tm.get t = some v := by rw [e1]; exact ht
            by_cases he : ∃ i, i < ops.size ∧ (S i).o.dst = some t
            · obtain ⟨i, hi, hd⟩ := he
              cases ho : outV (S i).kd with
              | none => exact absurd ho (I.fine i hi (hall i hi))
              | some u =>
                rw [T.slot_new hd ho ops.size hi (Nat.le_refl _)] at ht
                cases ht
                exact I.new i hi (hall i hi) t v hd ho
            · have hno : ∀ i, i < ops.size → (S i).o.dst ≠ some t := fun i hi hd => he ⟨i, hi, hd⟩
              rw [T.slot_old ops.size (Nat.le_refl _) t hno, hX] at ht
              exact I.old t v (fun i hi _ => hno i hi) ht
          · rename_i chain hsome
            obtain ⟨k, hkn, ws', h1', hk'⟩ := hp.2 chain hsome
            exact absurd (by rw [hk']; rfl) (I.fine k hkn (hall k hkn))
        · have none : ∀ k, (Array.replicate ops.size false).getD k false = false := fun k => by
            rcases Nat.lt_or_ge k ops.size with h | h <;> simp [h]
          have S0 : Sim m st.h { w with drawn := w.drawn + 1 } := F.sim.drew
          refine ⟨by simp, unl_new _ _, fun i _ h => ?_, fun i _ h => ?_, fun i _ h => ?_, fun t v _ ht => F.tm t v ht, ⟨0, (X 0).h, ⟨by omega, fun i _ _ => ?_, rfl, fun _ _ h => h, fun i x b v _ h => ?_, fun x o h => .inl h⟩, ?_, ?_⟩, fun i _ _ => F.sim.fresh _ (by omega), F.ds, F.size⟩
          · rw [none] at h; cases h
          · rw [none] at h; cases h
          · rw [none] at h; cases h
          · constructor
            · intro h; rw [none] at h; cases h
            · intro h; omega
          · rw [none] at h; cases h
          · rw [hX]
            exact S0.sub (fun i o h => h) (Nat.le_add_right _ _)
          · rw [hX]
            exact (Stp.refl m st.h _).sub (fun i o h => h) (Nat.le_add_right _ _)
      unfold Region.schedule
      split
      · exact wpAny_sound _ _ _ _ _ (main .any)
      · unfold Region.linearise
        split
        · exact wpAny_sound _ _ _ _ _ (main .text)
        · exact wpAny_sound _ _ _ _ _ (main .gc)

end
end Go.Em

namespace Go.Em

theorem giveAll_dt : ∀ (l : List (Nat × Nat × Obj)) (h : Heap), ∃ ws, (giveAll l h).dt = ws ++ h.dt ∧ ∀ t : Part, hits t ws = false → (giveAll l h).get t.n = h.get t.n
  | [], h => ⟨[], rfl, fun _ _ => rfl⟩
  | (i, n, o) :: l, h => by
    obtain ⟨ws, h1, h2⟩ := giveAll_dt l h
    refine ⟨⟨n, 0, unk⟩ :: ws, ?_, fun t ht => ?_⟩
    · show ⟨n, 0, unk⟩ :: (giveAll l h).dt = _
      rw [h1]; rfl
    · have e : hits t ([⟨n, 0, unk⟩] ++ ws) = false := ht
      rw [hits_append, Bool.or_eq_false_iff] at e
      simp only [giveAll, Heap.get_put]
      rw [if_neg (hits_whole e.1)]
      exact h2 t e.2

section
variable {cx : Cx} {cf : CallFn} {base : Nat} {ops : Array Oper} {X : Nat → Po} {S : Nat → Sn}

theorem opsE_chg (K : KeepsF cf) {dk : Bool} {all : List Oper} : ∀ (l : List Oper) (st : St) (ex : Ex) (st' : St), opsE cx cf dk all l st = some (ex, st') → Chg st.h st'.h
  | [], st, ex, st', h => by cases h; exact .refl _
  | o :: l, st, ex, st', h => by
    simp only [opsE] at h
    split at h
    · cases h
    · have := opsE_chg K l _ _ _ h
      exact this
    · split at h
      · rename_i hop
        have := opsE_chg K l _ _ _ h
        exact (opE_chg K hop).trans this
      · rename_i hop
        cases h
        exact opE_chg K hop
      · have := opsE_chg K l _ _ _ h
        exact this
      · split at h
        · have := opsE_chg K l _ _ _ h
          exact this
        · cases h
      · cases h

theorem Tc.dtW (T : Tc cx cf base ops X S) : ∀ (j : Nat), j ≤ ops.size → ∃ W, (X j).h.dt = W ++ (X 0).h.dt ∧ ∀ t, hits t W = false → ∀ k, k < j → isE (S k).kd = true → hits t (wsOf (S k).kd) = false := by
  intro j
  induction j with
  | zero => intro _; exact ⟨[], rfl, fun t _ k hk => by omega⟩
  | succ j ih =>
    intro hj
    obtain ⟨W, h1, h2⟩ := ih (by omega)
    have hn := T.heap_next (j := j) (by omega)
    have hk := T.kd (k := j) (by omega)
    have no : isE (S j).kd = false → ∃ W, (X (j + 1)).h.dt = W ++ (X 0).h.dt ∧ ∀ t, hits t W = false → ∀ k, k < j + 1 → isE (S k).kd = true → hits t (wsOf (S k).kd) = false := fun he => by
      refine ⟨W, by rw [T.heap_not (by omega) he]; exact h1, fun t ht k hk hke => ?_⟩
      rcases Nat.lt_or_ge k j with hlt | hge
      · exact h2 t ht k hlt hke
      · have : k = j := by omega
        subst this; rw [he] at hke; cases hke
    have yes : ∀ ws, wsOf (S j).kd = ws → (X (j + 1)).h.dt = ws ++ (X j).h.dt → ∃ W, (X (j + 1)).h.dt = W ++ (X 0).h.dt ∧ ∀ t, hits t W = false → ∀ k, k < j + 1 → isE (S k).kd = true → hits t (wsOf (S k).kd) = false := fun ws hw he => by
      refine ⟨ws ++ W, by rw [he, h1, List.append_assoc], fun t ht k hk hke => ?_⟩
      rw [hits_append, Bool.or_eq_false_iff] at ht
      rcases Nat.lt_or_ge k j with hlt | hge
      · exact h2 t ht.2 k hlt hke
      · have : k = j := by omega
        subst this; rw [hw]; exact ht.1
    cases hkd : (S j).kd with
    | eff ws h1' v =>
      rw [hkd] at hn hk
      cases hk with
      | eff a b c d =>
        rename_i h2'
        exact yes h2'.dt (by simp [hkd, wsOf]) (by simp [hn])
    | pan ws h1' v =>
      rw [hkd] at hn hk
      cases hk with
      | pan a b c d =>
        rename_i h2'
        exact yes h2'.dt (by simp [hkd, wsOf]) (by simp [hn])
    | _ => exact no (by rw [hkd]; rfl)

theorem Tc.old (T : Tc cx cf base ops X S) (K : KeepsF cf) (hb : base ≤ (X 0).h.nx) {x : Nat} (hx : x < base) (h : (X 0).h.get x = none) : ∀ (j : Nat), j ≤ ops.size → (X j).h.get x = none := by
  intro j
  induction j with
  | zero => intro _; exact h
  | succ j ih =>
    intro hj
    have IH := ih (by omega)
    cases he : isE (S j).kd with
    | true =>
      obtain ⟨h1, hc, h2, _, _⟩ := T.eff_chg K (by omega) he
      rw [h2]
      refine hc.old _ ?_ ?_
      · rw [release_nx]
        have := T.nx_mono K (i := 0) j (by omega) (by omega)
        show x < (X j).h.nx
        omega
      · rcases release_get (S j).mask (X j).mks ⟨(X j).h.tr, (X j).h.nx, []⟩ x with ⟨i', b, a1, a2, _⟩ | ⟨_, a2⟩
        · obtain ⟨b1, ⟨v, b2⟩, _⟩ := (T.mks j (by omega) i' x b).1 a1
          have e := T.mak_id (by omega) b2
          omega
        · rw [a2]; exact IH
    | false => rw [T.heap_not (by omega) he]; exact IH

theorem drawE_chg (K : KeepsF cf) {ops : List Oper} {st : St} {ex : Ex} {st' : St} (hd : drawE cx cf ops st = some (ex, st')) : Chg st.h st'.h := by
  unfold drawE at hd
  split at hd
  · cases hd
  · rename_i tr tm h mks htr
    obtain ⟨X, S, hX, hA, e1, e2, e3, e4⟩ := traceE_spec cx cf st.h.nx ops ops 0 ⟨.nil, none, st.tm, ⟨st.h.tr, st.h.nx + ops.length, st.h.dt⟩, []⟩ [] tr tm h mks htr
    simp only [Nat.zero_add, List.append_nil] at hX hA e1 e2 e3 e4
    split at hd
    · cases hd
    · cases hd
    · rename_i hok hbig
      rw [e4] at hok
      have hsz : ops.toArray.size = ops.length := by simp
      have T : Tc cx cf st.h.nx ops.toArray X S := ⟨fun k hk => by
          obtain ⟨o, ho, A⟩ := hA k (by simpa using hk)
          exact ⟨o, by simpa using ho, by simpa using A⟩, fun i j h1 h2 => by simpa using traceOk_spec ops S ops.length hok i j h1 (by simpa using h2), by rw [hX], by rw [hX], by rw [hX]⟩
      have g0 : ∀ x, (X 0).h.get x = st.h.get x := fun x => by rw [hX]; rfl
      have hb : st.h.nx ≤ (X 0).h.nx := by rw [hX]; exact Nat.le_add_right _ _
      have hn : (X ops.length).h.nx = h.nx := by rw [e2]
      obtain ⟨W, w1, w2⟩ := T.dtW ops.length (by simp)
      have hmono := T.nx_mono K (i := 0) ops.length (by omega) (by simp)
      have hXn : Chg st.h (X ops.length).h := by
        refine ⟨by omega, fun x hx hg => T.old K hb hx (by rw [g0]; exact hg) ops.length (by simp), W, by rw [w1, hX], fun t ht => ?_⟩
        rw [← g0]
        exact T.agree K ops.length (by omega) (by simp) fun k _ h2 h3 => w2 t ht k h2 h3
      split at hd
      · cases hd
        obtain ⟨ws, a1, a2⟩ := giveAll_dt mks h
        refine ⟨by show st.h.nx ≤ (giveAll mks h).nx; rw [giveAll_nx, ← hn]; omega, fun x hx hg => ?_, ws ++ W, by show (giveAll mks h).dt = _; rw [a1, ← e2, w1, hX, List.append_assoc], fun t ht => ?_⟩
        · show (giveAll mks h).get x = none
          rcases giveAll_get mks h x with ⟨i, b, c1, _⟩ | ⟨_, c2⟩
          · rw [← e3] at c1
            obtain ⟨b1, ⟨v, b2⟩, _⟩ := (T.mks ops.length (by simp) i x b).1 c1
            have e := T.mak_id (by simpa using b1) b2
            omega
          · rw [c2, ← e2]
            exact hXn.old x hx hg
        · rw [hits_append, Bool.or_eq_false_iff] at ht
          show AgreeO t _ ((giveAll mks h).get t.n)
          rw [a2 t ht.1, ← e2, ← g0]
          exact T.agree K ops.length (by omega) (by simp) fun k _ h2 h3 => w2 t ht.2 k h2 h3
      · cases hd
        rw [← e2]
        exact hXn

theorem exec_chg (K : KeepsF cf) {dk : Bool} : ∀ (n : Nat) (c : Code) (st : St) (ex : Ex) (st' : St), exec cx cf dk n c st = some (ex, st') → Chg st.h st'.h := by
  intro n
  induction n with
  | zero => intro c st ex st' h; cases h
  | succ n ih =>
    intro c st ex st' h
    cases c with
    | skip => simp only [exec] at h; cases h; exact .refl _
    | label l => simp only [exec] at h; cases h; exact .refl _
    | exit id => simp only [exec] at h; cases h; exact .refl _
    | ret => simp only [exec] at h; cases h; exact .refl _
    | region id ops d =>
      cases d with
      | false => simp only [exec] at h; exact opsE_chg K _ _ _ _ h
      | true => simp only [exec] at h; exact drawE_chg K h
    | seq x y =>
      simp only [exec] at h
      split at h
      · rename_i hx
        exact (ih _ _ _ _ hx).trans (ih _ _ _ _ h)
      · exact ih _ _ _ _ h
    | cond c x y =>
      simp only [exec] at h
      split at h
      · exact ih _ _ _ _ h
      · exact ih _ _ _ _ h
      · cases h
    | block id x =>
      simp only [exec] at h
      split at h
      · rename_i hx
        split at h
        · cases h; exact ih _ _ _ _ hx
        · cases h; exact ih _ _ _ _ hx
      · exact ih _ _ _ _ h
    | loop x =>
      simp only [exec] at h
      split at h
      · rename_i hx
        exact (ih _ _ _ _ hx).trans (ih _ _ _ _ h)
      · exact ih _ _ _ _ h
    | scope x => simp only [exec] at h; exact ih _ _ _ _ h
    | _ => simp only [exec] at h; cases h

theorem callD_chg (K : KeepsF cf) {n g : Nat} {args : List Value} {u u1 : FrameMode} {h h1 : Heap} {r : Fin} (hc : callD cx cf n g args u h = some (r, u1, h1)) : Chg h h1 := by
  unfold callD at hc
  split at hc
  · cases hc
  · split at hc
    · cases hc
    · rename_i hex
      have := exec_chg K _ _ _ _ _ hex
      split at hc
      · cases hc
      · split at hc
        · cases hc; exact this
        · cases hc
        · split at hc
          · cases hc; exact this
          · cases hc

theorem leave_chg {cd : Nat → List Value → FrameMode → Heap → Option (Fin × FrameMode × Heap)} (hcd : ∀ g args u h r u1 h1, cd g args u h = some (r, u1, h1) → Chg h h1) {fn : Func} {tm : Tr Value} :
    ∀ (ds : List Deferred) (u : FrameMode) (h : Heap) (r : Fin) (h1 : Heap), leave cx cd fn tm ds u h = some (r, h1) → Chg h h1
  | [], u, h, r, h1, hl => by
    cases u <;> simp only [leave] at hl
    · cases hl
    · split at hl
      · cases hl; exact .refl _
      · cases hl
    · cases hl; exact .refl _
  | d :: ds, u, h, r, h1, hl => by
    cases u <;> simp only [leave] at hl
    · cases hl
    all_goals
      split at hl
      · split at hl
        · rename_i hc
          exact (hcd _ _ _ _ _ _ _ hc).trans (leave_chg hcd ds _ _ _ _ hl)
        · rename_i hc
          exact (hcd _ _ _ _ _ _ _ hc).trans (leave_chg hcd ds _ _ _ _ hl)
        · cases hl
      · cases hl

/-- Functions that are not gone into keep what must be kept. -/
def ExtChg (cx : Cx) : Prop := ∀ f g, cx.ext f = some g → ∀ args h r h', g args h = some (r, h') → Chg h h'

theorem call_chg (E : ExtChg cx) : ∀ n, KeepsF (call cx n)
  | 0 => fun f args h r h' hc => by simp only [call] at hc; cases hc
  | n + 1 => fun f args h r h' hc => by
    have K := call_chg E n
    simp only [call] at hc
    split at hc
    · rename_i g hg
      exact E f g hg args h r h' hc
    · split at hc
      · cases hc
      · split at hc
        · cases hc
        · rename_i hex
          have h1 := exec_chg K _ _ _ _ _ hex
          have hcd : ∀ g args u h r u1 h1, callD cx (call cx n) n g args u h = some (r, u1, h1) → Chg h h1 := fun g args u h r u1 h1 hq => callD_chg K hq
          split at hc
          · exact h1.trans (leave_chg hcd _ _ _ _ _ hc)
          · cases hc
          · exact h1.trans (leave_chg hcd _ _ _ _ _ hc)

/-- What a call's evaluation tells is so. -/
theorem call_sound (O : Ok cx) (hB : Bd cx) (E : ExtOk cx) (E' : ExtChg cx) (n : Nat) : CallsOk cx (call cx n) :=
  call_run O hB E (fun n C => drawE_ok O C (call_chg E' n)) n

end
end Go.Em

namespace Go.Em
section
variable {α : Type} {p : Nat → α → Prop}

/-- Something holds of all that a table has, each at its number a * n + b. -/
def AllT (p : Nat → α → Prop) : Nat → Nat → Tr α → Prop
  | _, _, .nil => True
  | a, b, .node v l r => (∀ x, v = some x → p b x) ∧ AllT p (2 * a) (a + b) l ∧ AllT p (2 * a) (2 * a + b) r

theorem AllT.get : ∀ (t : Tr α) (a b : Nat), AllT p a b t → ∀ n x, t.get n = some x → p (a * n + b) x
  | .nil, a, b, _, n, x, h => by rw [Tr.get_nil] at h; cases h
  | .node v l r, a, b, ⟨h1, h2, h3⟩, n, x, h => by
    cases n with
    | zero =>
      rw [Tr.get_zero] at h
      simpa using h1 x h
    | succ n =>
      rw [Tr.get_succ] at h
      split at h
      · rename_i e
        have := AllT.get l (2 * a) (a + b) h2 (n / 2) x h
        have e2 : n = 2 * (n / 2) := by omega
        have e3 : 2 * a * (n / 2) + (a + b) = a * (n + 1) + b := by
          rw [Nat.mul_add, Nat.mul_comm 2 a, Nat.mul_assoc, ← e2]; omega
        rwa [e3] at this
      · rename_i e
        have := AllT.get r (2 * a) (2 * a + b) h3 (n / 2) x h
        have e2 : n = 2 * (n / 2) + 1 := by omega
        have e3 : 2 * a * (n / 2) + (2 * a + b) = a * (n + 1) + b := by
          have e4 : a * (n + 1) = a * (2 * (n / 2)) + a * 2 := by rw [← Nat.mul_add]; congr 1; omega
          rw [e4, Nat.mul_comm 2 a, Nat.mul_assoc]; omega
        rwa [e3] at this

theorem AllT.mk {a b : Nat} {v : Option α} {l r : Tr α} (h1 : ∀ x, v = some x → p b x) (h2 : AllT p (2 * a) (a + b) l) (h3 : AllT p (2 * a) (2 * a + b) r) : AllT p a b (.node v l r) := ⟨h1, h2, h3⟩
theorem AllT.none (a b : Nat) : AllT p a b (.nil : Tr α) := trivial
theorem AllT.one {b : Nat} {y : α} (h : p b y) : ∀ x, some y = some x → p b x := fun x e => by cases e; exact h
theorem AllT.zero (b : Nat) : ∀ x, (Option.none : Option α) = some x → p b x := fun x e => by cases e
end

def allFlat : List Value → Bool
  | [] => true
  | v :: l => match flat v with
    | true => allFlat l
    | false => false

def isAggV : Value → Bool
  | .agg _ => true
  | _ => false

def fieldsB (P : Program) : List Field → Bool
  | [] => true
  | f :: l => match (P.info? f.type).isSome, f.name == "_" with
    | true, false => fieldsB P l
    | _, _ => false

def tyB (P : Program) (t : Nat) (i : Ty) : Bool :=
  allFlat i.zero.cells.toList && (flat i.zero || isAggV i.zero) && Nat.beq i.zero.cells.size i.size && (match i.d with
    | .struct fs => fieldsB P fs.toList
    | _ => true) && !P.stoodInHeld t && (match aggD i.d with
    | true => !P.eqGuardType P.depth t
    | false => true)

structure TyOk (P : Program) (t : Nat) (i : Ty) : Prop where
  under : P.underlying t = some i.d
  info : ∃ x, P.info? t = some x ∧ x.size = i.size ∧ x.bytes = i.bytes ∧ x.zero = some i.zero
  chk : tyB P t i = true

structure FnOk (P : Program) (f : Nat) (x : Func × Code) : Prop where
  func : P.funcs[f]? = some x.1
  body : x.1.body = some x.2
  name : (x.1.name == "runtime.NumGoroutine") = false
  code : codeB x.1.ntmps x.2 = true

theorem allFlat_spec : ∀ (l : List Value), allFlat l = true → ∀ v ∈ l, flat v = true
  | [], _, v, h => by cases h
  | x :: l, h, v, hv => by
    simp only [allFlat] at h
    split at h
    · rcases List.mem_cons.1 hv with rfl | hv
      · assumption
      · exact allFlat_spec l h v hv
    · cases h

theorem fieldsB_spec {P : Program} : ∀ (l : List Field), fieldsB P l = true → ∀ f ∈ l, (P.info? f.type).isSome = true ∧ f.name ≠ "_"
  | [], _, f, h => by cases h
  | x :: l, h, f, hf => by
    simp only [fieldsB] at h
    split at h
    · rename_i h1 h2
      rcases List.mem_cons.1 hf with rfl | hf
      · exact ⟨h1, fun e => by rw [e] at h2; simp at h2⟩
      · exact fieldsB_spec l h f hf
    · cases h

/-- Tables that are right. -/
theorem ok_of {cx : Cx} (ht : ∀ t i, cx.ty t = some i → TyOk cx.P t i) (hf : ∀ f x, cx.fn f = some x → FnOk cx.P f x) : Ok cx ∧ Bd cx := by
  have chk : ∀ t i, cx.ty t = some i → allFlat i.zero.cells.toList = true ∧ (flat i.zero || isAggV i.zero) = true ∧ Nat.beq i.zero.cells.size i.size = true ∧ (match i.d with
    | .struct fs => fieldsB cx.P fs.toList
    | _ => true) = true ∧ cx.P.stoodInHeld t = false ∧ (match aggD i.d with
    | true => !cx.P.eqGuardType cx.P.depth t
    | false => true) = true := fun t i h => by
    have := (ht t i h).chk
    unfold tyB at this
    simp only [Bool.and_eq_true, Bool.not_eq_true'] at this
    obtain ⟨⟨⟨⟨⟨a, b⟩, c⟩, d⟩, e⟩, f⟩ := this
    exact ⟨a, b, c, d, e, f⟩
  refine ⟨⟨fun t i h => (ht t i h).under, fun t i h => (ht t i h).info, fun t i h => ?_, fun t i h => ?_, fun t i fs h hd f hf => ?_, fun t i fs h hd f hf => ?_, fun t i h => ?_, fun t i h ha => ?_, fun f x h => ?_⟩, fun f x h => (hf f x h).code⟩
  · obtain ⟨a, b, _⟩ := chk t i h
    refine ⟨allFlat_spec _ a, ?_⟩
    rw [Bool.or_eq_true] at b
    rcases b with b | b
    · exact .inl b
    · right
      cases hz : i.zero <;> rw [hz] at b <;> simp only [isAggV] at b <;> first | (cases b; done) | exact ⟨_, rfl⟩
  · exact Nat.eq_of_beq_eq_true (chk t i h).2.2.1
  · have := (chk t i h).2.2.2.1
    rw [hd] at this
    exact (fieldsB_spec _ this f hf).1
  · have := (chk t i h).2.2.2.1
    rw [hd] at this
    exact (fieldsB_spec _ this f hf).2
  · exact (chk t i h).2.2.2.2.1
  · have := (chk t i h).2.2.2.2.2
    rw [ha] at this
    simpa using this
  · exact ⟨(hf f x h).func, (hf f x h).body, (hf f x h).name⟩

end Go.Em
