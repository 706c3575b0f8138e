/-
  Calls.
-/
import Derived.Test.YtbfhilhkmicelaaGreatEm16
namespace Go.Em
section
variable {cx : Cx}

/-- One result. -/
def resVar (tmps : Array Value) : ResultVar → Sem Value
  | .tmp t => pure (tmps.getD t undef)
  | .cell a t => do loadVar t (← asAddr (tmps.getD a undef))

theorem resE_run (O : Ok cx) {m : Pm} {h : Heap} {w : World} (S : Sim m h w) {tm : Tr Value} {ts : Array Value} (T : Tm m tm ts) : ∀ (l : List ResultVar) (vs : List Value), resE cx tm h l = some vs →
    ∃ vs', (l.mapM (resVar ts)).run cx.P w = .ok vs' w ∧ Vs m vs vs'
  | [], vs, h => by
    cases h
    exact ⟨[], by simp, .nil⟩
  | .tmp t :: l, vs, h => by
    simp only [resE] at h
    split at h
    · rename_i v vs' hv hvs
      cases h
      obtain ⟨r, h1, h2⟩ := resE_run O S T l vs' hvs
      exact ⟨ts.getD t undef :: r, by simp [List.mapM_cons, resVar, h1], .cons (T t v hv) h2⟩
    · cases h
  | .cell c t :: l, vs, h => by
    simp only [resE] at h
    split at h
    · rename_i ad ha
      split at h
      · rename_i v vs' hv hvs
        cases h
        obtain ⟨r, h1, h2⟩ := resE_run O S T l vs' hvs
        obtain ⟨p, hp, hsp, v', h3, h4⟩ := loadT_run O S hv
        obtain ⟨q, hq, _, e⟩ := ptr_inv (T c _ ha)
        rw [hp] at hq; cases hq
        exact ⟨v' :: r, by simp only [List.mapM_cons, resVar, e, asAddr, Sem.run_bind, Sem.run_pure, Result.andThen_ok, h3, h1], .cons h4 h2⟩
      · cases h
    · cases h

theorem results_run (O : Ok cx) {m : Pm} {h : Heap} {w : World} (S : Sim m h w) {tm : Tr Value} {ts : Array Value} (T : Tm m tm ts) {fn : Func} {vs : List Value} (hr : resE cx tm h fn.results.toList = some vs) :
    ∃ v', (results fn ts).run cx.P w = .ok v' w ∧ V m (one vs) v' := by
  obtain ⟨r, h1, h2⟩ := resE_run O S T _ _ hr
  have he : results fn ts = (do
      let vs ← fn.results.mapM (resVar ts)
      pure (if h : vs.size = 1 then vs[0] else .tuple vs)) := by
    unfold results
    refine congrArg (fun f => fn.results.mapM f >>= fun vs => pure (if h : vs.size = 1 then vs[0] else Value.tuple vs)) ?_
    funext x
    cases x <;> rfl
  have hrun : (fn.results.mapM (resVar ts)).run cx.P w = .ok r.toArray w := by
    rw [Array.mapM_eq_mapM_toList, Sem.run_map, h1]
    rfl
  refine ⟨if h : r.toArray.size = 1 then r.toArray[0] else .tuple r.toArray, ?_, ?_⟩
  · rw [he, Sem.run_bind, hrun]
    rfl
  · cases h2 with
    | nil => exact tuple_iff.2 .nil
    | cons hv hl =>
      cases hl with
      | nil => simpa [one] using hv
      | cons hv' hl =>
        have := hl.length
        rw [dif_neg (by simp)]
        exact tuple_iff.2 (.cons hv (.cons hv' hl))

theorem argsT_get : ∀ (l : List Value) (i : Nat) (t : Tr Value) (k : Nat), (argsT i l t).get k = if i ≤ k ∧ k < i + l.length then l[k - i]? else t.get k
  | [], i, t, k => by rw [if_neg (by simp)]; rfl
  | v :: l, i, t, k => by
    simp only [argsT, argsT_get l, Tr.get_set, List.length_cons]
    by_cases h0 : k = i
    · subst h0
      rw [if_neg (by omega), if_pos rfl, if_pos (by omega)]
      simp
    · by_cases h1 : i + 1 ≤ k ∧ k < i + 1 + l.length
      · rw [if_pos h1, if_pos (by omega), show k - i = (k - (i + 1)) + 1 from by omega]
        simp
      · rw [if_neg h1, if_neg h0, if_neg (by omega)]

theorem argsT_Tm {m : Pm} {args : List Value} {args' rest : Array Value} (h : Vs m args args'.toList) : Tm m (argsT 0 args .nil) (args' ++ rest) := by
  intro t v hv
  rw [argsT_get, Tr.get_nil] at hv
  split at hv
  · rename_i hlt
    obtain ⟨v', h1, h2⟩ := h.get t v (by simpa using hv)
    have h3 : args'[t]? = some v' := by simpa using h1
    have hsz : t < args'.size := by
      rcases Nat.lt_or_ge t args'.size with l | l
      · exact l
      · rw [Array.getElem?_eq_none l] at h3; cases h3
    have h4 : (args' ++ rest)[t]? = some v' := by rw [Array.getElem?_append_left hsz, h3]
    rw [Array.getD_eq_getD_getElem?, h4]
    exact h2
  · cases hv

/-- The slots are in range. -/
def Bd (cx : Cx) : Prop := ∀ f x, cx.fn f = some x → codeB x.1.ntmps x.2 = true

theorem enter_Fr {m : Pm} {h : Heap} {w : World} (S : Sim m h w) {fn : Func} {args : List Value} {args' : Array Value} (hA : Vs m args args'.toList) (u : FrameMode) :
    Fr fn.ntmps m ⟨argsT 0 args .nil, [], u, h⟩ { tmps := args' ++ Array.replicate (fn.ntmps - args'.size) undef, defers := [] } w :=
  ⟨S, argsT_Tm hA, .nil, by simp; omega⟩

/-- A deferred call. -/
theorem callD_run (O : Ok cx) (hB : Bd cx) {cf : CallFn} (C : CallsOk cx cf) (D : DrawOk cx cf) {n g : Nat} {args : List Value} {u u1 : FrameMode} {h h1 : Heap} {r : Fin} (hc : callD cx cf n g args u h = some (r, u1, h1)) {m : Pm} {w : World} (S : Sim m h w)
    {args' : Array Value} (hA : Vs m args args'.toList) {um : FrameMode} (hu : Um m u um) :
    (∃ fn, cx.P.funcs[g]? = some fn ∧ fn.body.isNone = false ∧ (fn.name == "runtime.NumGoroutine") = false) ∧
    CallsD cx.P g args' um w fun e um' w' => ∃ m', Sim m' h1 w' ∧ Stp m h w m' h1 w' ∧ FinR m' r e ∧ Um m' u1 um' := by
  unfold callD at hc
  split at hc
  · cases hc
  · rename_i fn c hfn
    obtain ⟨hf, hb, hname⟩ := O.func g _ hfn
    simp only at hf hb hname
    refine ⟨⟨fn, hf, by rw [hb]; rfl, hname⟩, ?_⟩
    split at hc
    · cases hc
    · rename_i ex st hex
      refine callsD_of_wpS hf hb fun c₀ cs hc₀ => ?_
      intro b k hbk hbr
      obtain ⟨m', e, a', cs', w', hArr, hK⟩ := exec_run O C D (dk := true) (c₀ := c₀) (rest := cs) n c _ ex st hex (hB g _ hfn) m _ (c₀ :: cs) w (enter_Fr S hA u) (fun _ => ⟨c₀.mode, rfl, hc₀ ▸ hu⟩) b k (fun _ => ⟨hbk, hbr⟩)
      refine ⟨e, a', cs', w', ?_, starts_code hArr⟩
      obtain ⟨hF, hBl, _, hS, hE⟩ := hK
      obtain ⟨u', hcs, hUm⟩ := hBl rfl
      split at hc
      · cases hc
      · rename_i hdf
        have hdef : a'.defers = [] := by
          have := hF.ds
          rw [hdf] at this
          generalize a'.defers = l at this
          cases this
          rfl
        have fin : ∀ {vs : List Value}, resE cx st.tm st.h fn.results.toList = some vs → r = .ret (one vs) → u1 = st.u → h1 = st.h → a'.defers = [] ∧ ∃ u', cs' = { c₀ with mode := u' } :: cs ∧ ∃ v, (results fn a'.tmps).run cx.P w' = .ok v w' ∧
            ∃ m', Sim m' h1 w' ∧ Stp m h w m' h1 w' ∧ FinR m' r (.returned v) ∧ Um m' u1 u' := by
          intro vs hv h1 h2 h3
          subst h1; subst h2; subst h3
          obtain ⟨v', k1, k2⟩ := results_run O hF.sim hF.tm hv
          exact ⟨hdef, u', hcs, v', k1, m', hF.sim, hS, k2, hUm⟩
        cases hE with
        | pan hC =>
          simp only at hc
          cases hc
          exact ⟨hdef, u', hcs, m', hF.sim, hS, hC, hUm⟩
        | exit => simp only at hc; cases hc
        | normal =>
          simp only at hc
          split at hc
          · rename_i vs hv
            cases hc
            exact fin hv rfl rfl rfl
          · cases hc
        | ret =>
          simp only at hc
          split at hc
          · rename_i vs hv
            cases hc
            exact fin hv rfl rfl rfl
          · cases hc

theorem Um.settle {m : Pm} {u u' : FrameMode} (h : Um m u u') : Um m (Go.settle u) (Go.settle u') := by
  have dw : ∀ {l l' : List PanicEntry}, Cs m l l' → Cs m (l.dropWhile (!·.goexit)) (l'.dropWhile (!·.goexit)) := by
    intro l l' h
    induction h with
    | nil => exact .nil
    | cons hv hl ih =>
      rename_i v v' r g l l'
      cases g
      · simpa using ih
      · simpa using Cs.cons hv hl
  cases h with
  | run => exact .run
  | returning => exact .returning
  | panicking hc =>
    cases hc with
    | nil => exact .panicking .nil
    | cons hv hl =>
      rename_i v v' r g l l'
      cases r
      · exact .panicking (.cons hv hl)
      · have := dw hl
        simp only [Go.settle]
        generalize l.dropWhile (!·.goexit) = x at this ⊢
        generalize l'.dropWhile (!·.goexit) = y at this ⊢
        cases this with
        | nil => exact .returning
        | cons a b => exact .panicking (.cons a b)

theorem Um.raised {m : Pm} {u u' : FrameMode} {c c' : List PanicEntry} (h : Um m u u') (hc : Cs m c c') : Um m (Go.raised u c) (Go.raised u' c') := by
  have app : ∀ {l l' k k' : List PanicEntry}, Cs m l l' → Cs m k k' → Cs m (l ++ k) (l' ++ k') := by
    intro l l' k k' h1 h2
    induction h1 with
    | nil => exact h2
    | cons hv _ ih => exact .cons hv ih
  cases h with
  | run => exact .panicking hc
  | returning => exact .panicking hc
  | panicking ho => exact .panicking (app hc ho)

/-- A frame's deferred calls. -/
theorem leave_run (O : Ok cx) (hB : Bd cx) {cf : CallFn} (C : CallsOk cx cf) (D : DrawOk cx cf) {n : Nat} {fn : Func} {tm : Tr Value} {ts : Array Value} {r : Fin} {h1 : Heap} : ∀ (ds : List Deferred) (u : FrameMode) (h : Heap), leave cx (callD cx cf n) fn tm ds u h = some (r, h1) →
    ∀ (m : Pm) (w : World) (ds' : List Deferred) (u' : FrameMode), Sim m h w → Tm m tm ts → Ds m ds ds' → Um m u u' → ∀ (R : Ending → World → Prop), (∀ m' e w', Sim m' h1 w' → Stp m h w m' h1 w' → FinR m' r e → R e w') → Leaves cx.P fn ts R ds' u' w
  | [], u, h, hl, m, w, ds', u', S, T, hds, hu, R, hR => by
    cases hds
    cases hu with
    | run => simp only [leave] at hl; cases hl
    | returning =>
      simp only [leave] at hl
      split at hl
      · rename_i vs hv
        cases hl
        obtain ⟨v', k1, k2⟩ := results_run O S T hv
        exact ⟨v', k1, hR m _ w S (.refl _ _ _) k2⟩
      · cases hl
    | panicking hc =>
      simp only [leave] at hl
      cases hl
      exact hR m _ w S (.refl _ _ _) hc
  | d :: ds, u, h, hl, m, w, _, u', S, T, hds, hu, R, hR => by
    cases hds with
    | cons hd hds =>
      cases hd with
      | mk hcap hargs =>
        rename_i ds' g cap cap' args args'
        have hne : u ≠ .run := by
          intro e
          subst e
          simp only [leave] at hl
          cases hl
        have hne' : u' ≠ .run := by
          intro e
          subst e
          cases hu
          exact hne rfl
        have hl' : (match callD cx cf n g (args.toList ++ cap.toList) u h with
            | some (.ret _, u, h) => leave cx (callD cx cf n) fn tm ds (Go.settle u) h
            | some (.pan chain, u, h) => leave cx (callD cx cf n) fn tm ds (Go.raised u chain) h
            | none => none) = some (r, h1) := by
          cases u with
          | run => exact absurd rfl hne
          | returning =>
            simp only [leave] at hl
            exact (show _ = _ from hl)
          | panicking c =>
            simp only [leave] at hl
            exact (show _ = _ from hl)
        have hA : Vs m (args.toList ++ cap.toList) (args' ++ cap').toList := by simpa using hargs.append hcap
        split at hl'
        · rename_i v u2 h2 hcd
          obtain ⟨⟨f, hf, hbody, hname⟩, hcall⟩ := callD_run O hB C D hcd S hA hu
          refine ⟨hne', .func g, cap', g, args' ++ cap', rfl, ?_, hcall.mono fun e um' w' ⟨m', k1, k2, k3, k4⟩ => ?_⟩
          · simp only [invoke, callFunc, Sem.run_bind, run_program, Result.andThen_ok, hf, hname, hbody, Sem.run_pure, Bool.false_eq_true, if_false]
          · cases e with
            | returned v' => exact leave_run O hB C D ds _ _ hl' m' w' ds' _ k1 (T.mono k2.le) (hds.mono k2.le) k4.settle R fun m2 e w2 g1 g2 g3 => hR m2 e w2 g1 (k2.trans g2) g3
            | panicked c' => exact k3.elim
            | outgrown => exact k3.elim
        · rename_i c u2 h2 hcd
          obtain ⟨⟨f, hf, hbody, hname⟩, hcall⟩ := callD_run O hB C D hcd S hA hu
          refine ⟨hne', .func g, cap', g, args' ++ cap', rfl, ?_, hcall.mono fun e um' w' ⟨m', k1, k2, k3, k4⟩ => ?_⟩
          · simp only [invoke, callFunc, Sem.run_bind, run_program, Result.andThen_ok, hf, hname, hbody, Sem.run_pure, Bool.false_eq_true, if_false]
          · cases e with
            | returned v' => exact k3.elim
            | panicked c' => exact leave_run O hB C D ds _ _ hl' m' w' ds' _ k1 (T.mono k2.le) (hds.mono k2.le) (k4.raised k3) R fun m2 e w2 g1 g2 g3 => hR m2 e w2 g1 (k2.trans g2) g3
            | outgrown => exact k3.elim
        · cases hl'

/-- Functions that are not gone into. -/
def ExtOk (cx : Cx) : Prop := ∀ f g, cx.ext f = some g → ∀ args h r h', g args h = some (r, h') → CallR cx f args h r h'

/-- A call. -/
theorem call_run (O : Ok cx) (hB : Bd cx) (E : ExtOk cx) (D : ∀ n, CallsOk cx (call cx n) → DrawOk cx (call cx n)) : ∀ n, CallsOk cx (call cx n)
  | 0 => fun f args h r h' hc => by simp only [call] at hc; cases hc
  | n + 1 => fun f args h r h' hc => by
    have C := call_run O hB E D n
    simp only [call] at hc
    split at hc
    · rename_i g hg
      exact E f g hg args h r h' hc
    · split at hc
      · cases hc
      · rename_i fn c hfn
        obtain ⟨hf, hb, hname⟩ := O.func f _ hfn
        simp only at hf hb hname
        refine ⟨⟨fn, hf, by rw [hb]; rfl, hname⟩, fun m w args' S hA => ?_⟩
        split at hc
        · cases hc
        · rename_i ex st hex
          refine calls_of_wp_defers hf hb fun b k cs => ?_
          obtain ⟨m', e, a', cs', w', hArr, hK⟩ := exec_run O C (D _ C) (dk := false) (c₀ := default) (rest := []) n c _ ex st hex (hB f _ hfn) m _ cs w (enter_Fr S hA .run) (fun h => by cases h) b k (fun h => by cases h)
          obtain ⟨hF, _, hcs, hS, hE⟩ := hK
          have hcs := hcs rfl
          subst hcs
          refine ⟨e, a', w', ?_, starts_code hArr⟩
          have fin : ∀ {u u' : FrameMode}, Um m' u u' → leave cx (callD cx (call cx n) n) fn st.tm st.df u st.h = some (r, h') → Leaves cx.P fn a'.tmps (fun e w' => ∃ m', Sim m' h' w' ∧ Stp m h w m' h' w' ∧ FinR m' r e) a'.defers u' w' := by
            intro u u' hu hl
            exact leave_run O hB C (D _ C) _ _ _ hl m' w' _ _ hF.sim hF.tm hF.ds hu _ fun m2 e w2 g1 g2 g3 => ⟨m2, g1, hS.trans g2, g3⟩
          cases hE with
          | pan hC => exact fin (.panicking hC) hc
          | exit => simp only at hc; cases hc
          | normal => exact fin .returning hc
          | ret => exact fin .returning hc

end
end Go.Em
