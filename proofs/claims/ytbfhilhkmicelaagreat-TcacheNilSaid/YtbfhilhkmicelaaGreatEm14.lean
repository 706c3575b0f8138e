/-
  One operation.
-/
import Derived.Test.YtbfhilhkmicelaaGreatEm13
import Derived.Orders
namespace Go.Em
section
variable {cx : Cx}

theorem evO_Vo {m : Pm} {tm : Tr Value} {a : Act} (T : Tm m tm a.tmps) {x : Option Operand} {v : Option Value} (h : evO tm x = some v) : Vo m v (x.map a.eval) := by
  cases x with
  | none => cases h; exact .none
  | some x =>
    simp only [evO] at h
    split at h
    · rename_i u hu
      cases h
      exact .some (ev_V T hu)
    · cases h

theorem evs_Vs {m : Pm} {tm : Tr Value} {a : Act} (T : Tm m tm a.tmps) {l : Array Operand} {vs : List Value} (h : evs tm l.toList = some vs) : Vs m vs (l.map a.eval).toList := by
  simpa using evs_V T h

theorem evParts_Ps {m : Pm} {tm : Tr Value} {a : Act} (T : Tm m tm a.tmps) {l : Array (Nat × Operand)} {vs : List (Nat × Value)} (h : evParts tm l.toList = some vs) : Ps m vs (l.map fun (i, x) => (i, a.eval x)).toList := by
  simpa using evParts_V T h

theorem val_some {o : Option Value} {h h' : Heap} {out : Out} (hv : Em.val o h = some (out, h')) : ∃ v, o = some v ∧ out = .val v ∧ h' = h := by
  unfold Em.val at hv
  split at hv
  · cases hv; exact ⟨_, rfl, rfl, rfl⟩
  · cases hv

theorem skp_some {o : Option Heap} {h' : Heap} {out : Out} (hv : skp o = some (out, h')) : o = some h' ∧ out = .val undef := by
  unfold skp at hv
  split at hv
  · cases hv; exact ⟨rfl, rfl⟩
  · cases hv

/-- The chain of panics. -/
inductive Cs (m : Pm) : List PanicEntry → List PanicEntry → Prop
  | nil : Cs m [] []
  | cons {v v' : Value} {r g : Bool} {l l' : List PanicEntry} : V m v v' → Cs m l l' → Cs m (⟨v, r, g⟩ :: l) (⟨v', r, g⟩ :: l')

theorem Cs.mono {m m' : Pm} (hm : m.Le m') {l l' : List PanicEntry} (h : Cs m l l') : Cs m' l l' := by
  induction h with
  | nil => exact .nil
  | cons h _ ih => exact .cons (h.mono hm) ih

/-- How a call ends, in the model. -/
def FinR (m : Pm) : Fin → Ending → Prop
  | .ret v, .returned v' => V m v v'
  | .pan c, .panicked c' => Cs m c c'
  | _, _ => False

/-- What a call's ending tells of the model's call. -/
def CallR (cx : Cx) (f : Nat) (args : List Value) (h : Heap) (r : Fin) (h' : Heap) : Prop :=
  (∃ fn, cx.P.funcs[f]? = some fn ∧ fn.body.isNone = false ∧ (fn.name == "runtime.NumGoroutine") = false) ∧
  ∀ (m : Pm) (w : World) (args' : Array Value), Sim m h w → Vs m args args'.toList →
    Calls cx.P f args' w fun e w' => ∃ m', Sim m' h' w' ∧ Stp m h w m' h' w' ∧ FinR m' r e

def CallsOk (cx : Cx) (cf : CallFn) : Prop := ∀ f args h r h', cf f args h = some (r, h') → CallR cx f args h r h'

/-- Deferred calls. -/
inductive Dr (m : Pm) : Deferred → Deferred → Prop
  | mk {g : Nat} {cap cap' args args' : Array Value} : Vs m cap.toList cap'.toList → Vs m args.toList args'.toList → Dr m ⟨.fn (.func g) cap, args⟩ ⟨.fn (.func g) cap', args'⟩

inductive Ds (m : Pm) : List Deferred → List Deferred → Prop
  | nil : Ds m [] []
  | cons {d d' : Deferred} {l l' : List Deferred} : Dr m d d' → Ds m l l' → Ds m (d :: l) (d' :: l')

theorem Dr.mono {m m' : Pm} (hm : m.Le m') {d d' : Deferred} (h : Dr m d d') : Dr m' d d' := by
  cases h with
  | mk h1 h2 => exact .mk (h1.mono hm) (h2.mono hm)

theorem Ds.mono {m m' : Pm} (hm : m.Le m') {l l' : List Deferred} (h : Ds m l l') : Ds m' l l' := by
  induction h with
  | nil => exact .nil
  | cons h _ ih => exact .cons (h.mono hm) ih

theorem run_call_builtin {a : Act} {o : Oper} {c : Call} {b : Builtin} (ho : o.op = .call c) (hc : c.callee = .builtin b) : ∃ k : Array Bool, execOp a.eval o = builtin b c.argTypes o.type k (c.args.map a.eval) := by
  refine ⟨c.args.map fun | .const _ => true | _ => false, ?_⟩
  simp only [execOp, ho, resolve, hc, pure_bind, invoke]
  rfl

theorem args1 {m : Pm} {x : Value} {l : Array Value} (h : Vs m [x] l.toList) : ∃ x', l = #[x'] ∧ V m x x' := by
  obtain ⟨l⟩ := l
  cases h with
  | cons h1 h2 => cases h2; exact ⟨_, rfl, h1⟩

theorem args2 {m : Pm} {x y : Value} {l : Array Value} (h : Vs m [x, y] l.toList) : ∃ x' y', l = #[x', y'] ∧ V m x x' ∧ V m y y' := by
  obtain ⟨l⟩ := l
  cases h with
  | cons h1 h2 =>
    cases h2 with
    | cons h2 h3 => cases h3; exact ⟨_, _, rfl, h1, h2⟩

/-- An operation that only looks. -/
theorem opE_read (O : Ok cx) {cf : CallFn} {m : Pm} {h h' : Heap} {w : World} (S : Sim m h w) {tm : Tr Value} {a : Act} (T : Tm m tm a.tmps) {o : Oper} {out : Out} (hm : isMake o.op = false) (he : isEff o.op = false) (ho : isOdd o.op = false)
    (hr : opE cx cf tm h o.op = some (out, h')) : h' = h ∧ ∃ v v', out = .val v ∧ (execOp a.eval o).run cx.P w = .ok (.value v') w ∧ V m v v' := by
  have fin : ∀ {v : Value} {s : Sem Value}, (execOp a.eval o = do pure (.value (← s))) → Rd cx s w m v → ∃ v', (execOp a.eval o).run cx.P w = .ok (.value v') w ∧ V m v v' := by
    intro v s hs ⟨v', h1, h2⟩
    exact ⟨v', by rw [hs, Sem.run_bind, h1]; rfl, h2⟩
  have fin' : ∀ {v : Value} {s : Sem Value}, (execOp a.eval o = do pure (.value (← s))) → s.run cx.P w = .ok v w → flat v = true → ∃ v', (execOp a.eval o).run cx.P w = .ok (.value v') w ∧ V m v v' :=
    fun hs h1 h2 => fin hs ⟨_, h1, .flat h2⟩
  obtain ⟨dst, op, type, pos, after, guard⟩ := o
  simp only at hm he ho hr
  cases op <;> simp only [isMake, isEff, isOdd] at hm he ho <;> try (cases hm; done)
  all_goals try (cases he; done)
  all_goals try (cases ho; done)
  all_goals simp only [opE] at hr
  case move x =>
    obtain ⟨v, hv, rfl, rfl⟩ := val_some hr
    exact ⟨rfl, v, a.eval x, rfl, rfl, ev_V T hv⟩
  case assign x =>
    obtain ⟨v, hv, rfl, rfl⟩ := val_some hr
    exact ⟨rfl, v, a.eval x, rfl, rfl, ev_V T hv⟩
  case pick c x y =>
    split at hr
    · rename_i hc
      obtain ⟨v, hv, rfl, rfl⟩ := val_some hr
      have e := bool_inv (ev_V T hc)
      exact ⟨rfl, v, a.eval x, rfl, by simp [execOp, e, asBool], ev_V T hv⟩
    · rename_i hc
      obtain ⟨v, hv, rfl, rfl⟩ := val_some hr
      have e := bool_inv (ev_V T hc)
      exact ⟨rfl, v, a.eval y, rfl, by simp [execOp, e, asBool], ev_V T hv⟩
    · cases hr
  case build t ps =>
    split at hr
    · rename_i l hl
      obtain ⟨v, hv, rfl, rfl⟩ := val_some hr
      obtain ⟨v', h1, h2⟩ := buildE_run O (evParts_Ps T hl) hv w
      obtain ⟨u, g1, g2⟩ := fin (s := Instr.build t (ps.map fun (i, x) => (i, a.eval x))) rfl ⟨v', h1, h2⟩
      exact ⟨rfl, v, u, rfl, g1, g2⟩
    · cases hr
  case load t x =>
    split at hr
    · rename_i ad ha
      obtain ⟨v, hv, rfl, rfl⟩ := val_some hr
      obtain ⟨p, hp, hsp, hR⟩ := loadT_run O S hv
      obtain ⟨q, hq, _, e⟩ := ptr_inv (ev_V T ha)
      rw [hp] at hq; cases hq
      obtain ⟨u, g1, g2⟩ := fin (s := Instr.loadAt t (a.eval x)) rfl (by simpa [Instr.loadAt, e, Instr.sureAddr, Rd] using hR)
      exact ⟨rfl, v, u, rfl, g1, g2⟩
    · cases hr
  case nilCheck x =>
    split at hr
    · rename_i ad ha
      cases hr
      obtain ⟨q, hq, _, e⟩ := ptr_inv (ev_V T ha)
      exact ⟨rfl, _, _, rfl, by simp [execOp, e], e ▸ ev_V T ha⟩
    · rename_i f b c ha
      cases hr
      obtain ⟨b', c', e, _⟩ := func_inv (ev_V T ha)
      exact ⟨rfl, _, _, rfl, by simp [execOp, e], e ▸ ev_V T ha⟩
    · cases hr
  case binOp op t x y yt =>
    split at hr
    · rename_i u z hu hz
      split at hr
      · rename_i hg
        obtain ⟨v, hv, rfl, rfl⟩ := val_some hr
        obtain ⟨h1, h2, h3⟩ := binE_run O S (ev_V T hu) (ev_V T hz) hg hv
        refine ⟨rfl, v, v, rfl, ?_, .flat h3⟩
        simp only [execOp, Sem.run_bind, h1, h2, Result.andThen_ok, Sem.run_pure]
      · cases hr
    · cases hr
  case unOp op t x =>
    split at hr
    · rename_i u hu
      obtain ⟨v, hv, rfl, rfl⟩ := val_some hr
      obtain ⟨u', g1, g2⟩ := fin (s := Op.unary op (a.eval x)) rfl (unE_run (cx := cx) (ev_V T hu) hv w)
      exact ⟨rfl, v, u', rfl, g1, g2⟩
    · cases hr
  case convert s d x =>
    split at hr
    · rename_i u hu
      obtain ⟨v, hv, rfl, rfl⟩ := val_some hr
      obtain ⟨h1, h2⟩ := convertE_run O S (ev_V T hu) hv
      obtain ⟨u', g1, g2⟩ := fin' (s := convert s d (a.eval x)) rfl h1 h2
      exact ⟨rfl, v, u', rfl, g1, g2⟩
    · cases hr
  case makeInterface t x =>
    split at hr
    · rename_i i u hi hu
      have hun := O.run_under hi w
      generalize i.d = d at hr hun
      split at hr
      · cases hr
      · rename_i hni
        cases hr
        refine ⟨rfl, .iface t u, .iface t (a.eval x), rfl, ?_, .iface (ev_V T hu)⟩
        cases d <;> first | exact absurd rfl (hni _) | simp [execOp, Instr.makeInterface, hun]
    · cases hr
  case makeFunc fn b c =>
    split at hr
    · rename_i bv cv hb hc
      cases hr
      refine ⟨rfl, .func fn bv.toArray cv.toArray, .func fn (b.map a.eval) (c.map a.eval), rfl, ?_, func_mk ?_ ?_⟩
      · simp [execOp, Instr.makeFunc]
      · simpa using evs_V T hb
      · simpa using evs_V T hc
    · cases hr
  case slice t x lo hi mx =>
    split at hr
    · rename_i x0 lo0 hi0 mx0 h1 h2 h3 h4
      obtain ⟨v, hv, rfl, rfl⟩ := val_some hr
      obtain ⟨u', g1, g2⟩ := fin (s := Instr.sliceAt t (a.eval x) (lo.map a.eval) (hi.map a.eval) (mx.map a.eval)) rfl (sliceE_run O S (ev_V T h1) (evO_Vo T h2) (evO_Vo T h3) (evO_Vo T h4) hv)
      exact ⟨rfl, v, u', rfl, g1, g2⟩
    · cases hr
  case fieldAddr t x f =>
    split at hr
    · rename_i u hu
      obtain ⟨v, hv, rfl, rfl⟩ := val_some hr
      obtain ⟨u', g1, g2⟩ := fin (s := Instr.fieldAt t (a.eval x) f) rfl (fieldAddrE_run O (ev_V T hu) hv w)
      exact ⟨rfl, v, u', rfl, g1, g2⟩
    · cases hr
  case field t x f =>
    split at hr
    · rename_i u hu
      obtain ⟨v, hv, rfl, rfl⟩ := val_some hr
      obtain ⟨u', g1, g2⟩ := fin (s := Instr.field t (a.eval x) f) rfl (fieldE_run O (ev_V T hu) hv w)
      exact ⟨rfl, v, u', rfl, g1, g2⟩
    · cases hr
  case indexAddr t x i =>
    split at hr
    · rename_i u z hu hz
      obtain ⟨v, hv, rfl, rfl⟩ := val_some hr
      obtain ⟨u', g1, g2⟩ := fin (s := Instr.indexAt t (a.eval x) (a.eval i)) rfl (indexAddrE_run O (ev_V T hu) (ev_V T hz) hv w)
      exact ⟨rfl, v, u', rfl, g1, g2⟩
    · cases hr
  case index t x i =>
    split at hr
    · rename_i u z hu hz
      obtain ⟨v, hv, rfl, rfl⟩ := val_some hr
      obtain ⟨u', g1, g2⟩ := fin (s := Instr.index t (a.eval x) (a.eval i)) rfl (indexE_run O (ev_V T hu) (ev_V T hz) hv w)
      exact ⟨rfl, v, u', rfl, g1, g2⟩
    · cases hr
  case lookup t x i ok =>
    split at hr
    · rename_i u z hu hz
      obtain ⟨v, hv, rfl, rfl⟩ := val_some hr
      obtain ⟨u', g1, g2⟩ := fin (s := Instr.lookup t (a.eval x) (a.eval i) ok) rfl (lookupE_run O S (ev_V T hu) (ev_V T hz) hv)
      exact ⟨rfl, v, u', rfl, g1, g2⟩
    · cases hr
  case typeAssert x xt want ok =>
    split at hr
    · rename_i u hu
      obtain ⟨v, hv, rfl, rfl⟩ := val_some hr
      obtain ⟨u', g1, g2⟩ := fin (s := Instr.typeAssert (a.eval x) xt want ok) rfl (assertE_run O (ev_V T hu) hv w)
      exact ⟨rfl, v, u', rfl, g1, g2⟩
    · cases hr
  case extract t i =>
    split at hr
    · rename_i vs hu
      obtain ⟨v, hv, rfl, rfl⟩ := val_some hr
      obtain ⟨u', g1, g2⟩ := fin (s := Instr.extract (a.eval t) i) rfl (tupAt_run (cx := cx) (ev_V T hu) hv w)
      exact ⟨rfl, v, u', rfl, g1, g2⟩
    · cases hr
  case call c =>
    obtain ⟨cal, args, ats⟩ := c
    cases cal with
    | value f => simp only at he; cases he
    | invoke r n => simp only at he; cases he
    | builtin b =>
      simp only at hr he ho
      split at hr
      · rename_i av ha
        have hA := evs_Vs T ha
        obtain ⟨k, hk⟩ := run_call_builtin (a := a) (o := ⟨dst, .call ⟨.builtin b, args, ats⟩, type, pos, after, guard⟩) rfl rfl
        simp only at hk
        unfold builtinE at hr
        split at hr
        · rename_i x
          split at hr
          · rename_i t ht
            obtain ⟨v, hv, rfl, rfl⟩ := val_some hr
            obtain ⟨x', hx', hV⟩ := args1 hA
            have ht' : ats[0]? = some t := by
              rw [← Array.getElem?_toList, ht]; rfl
            obtain ⟨h1, h2⟩ := lenOp_run O S ht' hV hv type
            rw [← hx'] at h1
            obtain ⟨u', g1, g2⟩ := fin' (s := Builtin.len_ ats type (args.map a.eval)) hk h1 h2
            exact ⟨rfl, v, u', rfl, g1, g2⟩
          · cases hr
        all_goals first
          | (cases he; done)
          | (cases ho; done)
          | (cases hr; done)
          | skip
        · rename_i x l
          obtain ⟨v, hv, rfl, rfl⟩ := val_some hr
          generalize hl' : (args.map a.eval).toList = l' at hA
          cases hA with
          | cons hx hl =>
            obtain ⟨u', g1, g2⟩ := fin (s := Builtin.min_ ats type (args.map a.eval)) hk (by
              unfold Builtin.min_
              rw [hl']
              exact foldMin_run (cx := cx) (w := w) _ _ false _ _ v hx hl hv)
            exact ⟨rfl, v, u', rfl, g1, g2⟩
        · rename_i x l
          obtain ⟨v, hv, rfl, rfl⟩ := val_some hr
          generalize hl' : (args.map a.eval).toList = l' at hA
          cases hA with
          | cons hx hl =>
            obtain ⟨u', g1, g2⟩ := fin (s := Builtin.max_ ats type (args.map a.eval)) hk (by
              unfold Builtin.max_
              rw [hl']
              exact foldMin_run (cx := cx) (w := w) _ _ true _ _ v hx hl hv)
            exact ⟨rfl, v, u', rfl, g1, g2⟩
      · cases hr
  all_goals (simp only [makeE] at hr; cases hr)

/-- What an operation's outcome tells of the model's operation. -/
def OpR (cx : Cx) (o : Oper) (a : Act) (m : Pm) (h : Heap) (w : World) (h' : Heap) : Out → Prop
  | .val v => (∃ m' w' v', (execOp a.eval o).run cx.P w = .ok (.value v') w' ∧ Sim m' h' w' ∧ Stp m h w m' h' w' ∧ V m' v v') ∨
      (v = undef ∧ ∃ w', (execOp a.eval o).run cx.P w = .ok .skip w' ∧ Sim m h' w' ∧ Stp m h w m h' w') ∨
      (∃ g args', (execOp a.eval o).run cx.P w = .ok (.enter g args') w ∧ Calls cx.P g args' w fun e w' => ∃ m', Sim m' h' w' ∧ Stp m h w m' h' w' ∧ ∃ v', e = .returned v' ∧ V m' v v')
  | .pan c => (h' = h ∧ ∃ v v', c = [⟨v, false, false⟩] ∧ (execOp a.eval o).run cx.P w = .halt (.panic v') w ∧ V m v v') ∨
      (∃ g args', (execOp a.eval o).run cx.P w = .ok (.enter g args') w ∧ Calls cx.P g args' w fun e w' => ∃ m', Sim m' h' w' ∧ Stp m h w m' h' w' ∧ ∃ c', e = .panicked c' ∧ Cs m' c c')
  | .dfr d => h' = h ∧ ∃ d', (execOp a.eval o).run cx.P w = .ok (.defer d') w ∧ Dr m d d'
  | .rcv => h' = h ∧ (execOp a.eval o).run cx.P w = .ok .recover w

/-- An operation. -/
theorem opE_run (O : Ok cx) {cf : CallFn} (C : CallsOk cx cf) {m : Pm} {h h' : Heap} {w : World} (S : Sim m h w) {tm : Tr Value} {a : Act} (T : Tm m tm a.tmps) {o : Oper} {out : Out}
    (hr : opE cx cf tm h o.op = some (out, h')) : OpR cx o a m h w h' out := by
  cases hmk : isMake o.op with
  | true =>
    have hr' : ∃ v b, makeE cx tm h o.op = some (v, b) ∧ out = .val v ∧ h' = h.add b := by
      generalize o.op = op at hr hmk
      cases op <;> simp only [isMake] at hmk <;> try (cases hmk; done)
      all_goals
        simp only [opE] at hr
        split at hr
        · rename_i v b hb
          cases hr
          exact ⟨v, b, hb, rfl, rfl⟩
        · cases hr
    obtain ⟨v, b, hb, rfl, rfl⟩ := hr'
    obtain ⟨p, x, v', h1, h2, h3, h4⟩ := makeE_run O T hb w (S.fresh _ (Nat.le_refl _))
    obtain ⟨S', P'⟩ := S.new h2 h4
    exact .inl ⟨_, _, v', h1, S', P', h3⟩
  | false =>
    cases hef : isEff o.op with
    | false =>
      cases hod : isOdd o.op with
      | false =>
        obtain ⟨rfl, v, v', rfl, h1, h2⟩ := opE_read O S T hmk hef hod hr
        exact .inl ⟨m, w, v', h1, S, .refl _ _ _, h2⟩
      | true =>
        obtain ⟨dst, op, type, pos, after, guard⟩ := o
        simp only at hr hod
        cases op <;> simp only [isOdd] at hod <;> try (cases hod; done)
        case call c =>
          obtain ⟨cal, args, ats⟩ := c
          cases cal with
          | value f => cases hod
          | invoke r n => cases hod
          | builtin b =>
            cases b <;> simp only at hod <;> try (cases hod; done)
            simp only [opE] at hr
            split at hr
            · rename_i av ha
              obtain ⟨k, hk⟩ := run_call_builtin (a := a) (o := ⟨dst, .call ⟨.builtin .recover, args, ats⟩, type, pos, after, guard⟩) rfl rfl
              unfold builtinE at hr
              split at hr <;> first
                | contradiction
                | (cases hr; exact ⟨rfl, by rw [hk]; rfl⟩)
                | (cases hr; done)
            · cases hr
        case defer c =>
          simp only [opE] at hr
          split at hr
          · rename_i f hc
            split at hr
            · rename_i g first cap args hf ha
              cases hr
              obtain ⟨first', cap', e, h1, h2⟩ := func_inv (ev_V T hf)
              refine ⟨rfl, ⟨.fn (.func g) cap', first' ++ c.args.map a.eval⟩, ?_, .mk h2 ?_⟩
              · simp [execOp, resolve, hc, Deferred.ofValue, e]
              · simpa using h1.append (evs_V T ha)
            · cases hr
          · cases hr
    | true =>
      obtain ⟨dst, op, type, pos, after, guard⟩ := o
      simp only at hr hef
      cases op <;> simp only [isEff] at hef <;> try (cases hef; done)
      all_goals simp only [opE] at hr
      case store t ad x =>
        split at hr
        · rename_i ad' u ha hu
          obtain ⟨hs, rfl⟩ := skp_some hr
          obtain ⟨p, hp, hsp, w', h1, h2, h3⟩ := storeT_run O S (ev_V T hu) hs
          obtain ⟨q, hq, _, e⟩ := ptr_inv (ev_V T ha)
          rw [hp] at hq; cases hq
          exact .inr (.inl ⟨rfl, w', by simp [execOp, Instr.storeAt, e, Instr.sureAddr, h1], h2, h3⟩)
        · cases hr
      case insert t x k y =>
        split at hr
        · rename_i xv kv yv hx hk hy
          obtain ⟨hs, rfl⟩ := skp_some hr
          obtain ⟨w', h1, h2, h3⟩ := updateE_run O S (ev_V T hx) (ev_V T hk) (ev_V T hy) hs
          exact .inr (.inl ⟨rfl, w', by simp [execOp, h1], h2, h3⟩)
        · cases hr
      case mapUpdate t x k y =>
        split at hr
        · rename_i xv kv yv hx hk hy
          obtain ⟨hs, rfl⟩ := skp_some hr
          obtain ⟨w', h1, h2, h3⟩ := updateE_run O S (ev_V T hx) (ev_V T hk) (ev_V T hy) hs
          exact .inr (.inl ⟨rfl, w', by simp [execOp, h1], h2, h3⟩)
        · cases hr
      case panic x =>
        split at hr
        · rename_i t u hu
          cases hr
          obtain ⟨u', e, hV⟩ := iface_inv (ev_V T hu)
          exact .inl ⟨rfl, .iface t u, .iface t u', rfl, by simp [execOp, Instr.panic, e], .iface hV⟩
        · cases hr
      case call c =>
        obtain ⟨cal, args, ats⟩ := c
        cases cal with
        | invoke r n => cases hr
        | value f =>
          simp only at hr
          split at hr
          · rename_i fv av hf ha
            split at hr
            · rename_i g args' ht
              unfold target at ht
              split at ht
              · rename_i g' first cap
                cases ht
                obtain ⟨first', cap', e, hV1, hV2⟩ := func_inv (ev_V T hf)
                have hA := evs_Vs T ha
                have hargs : Vs m (first.toList ++ av ++ cap.toList) (first' ++ args.map a.eval ++ cap').toList := by
                  simpa using (hV1.append hA).append hV2
                split at hr
                · rename_i v h2 hcf
                  cases hr
                  obtain ⟨⟨fn, hfn, hbody, hname⟩, hcall⟩ := C _ _ _ _ _ hcf
                  refine .inr (.inr ⟨g, first' ++ args.map a.eval ++ cap', ?_, (hcall m w _ S hargs).mono fun e w' ⟨m', k1, k2, k3⟩ => ?_⟩)
                  · simp only [execOp, resolve, Sem.run_bind, Deferred.ofValue, e, invoke, callFunc, run_program, hfn, hname, hbody, Sem.run_pure, Result.andThen_ok, Bool.false_eq_true, if_false]
                  · cases e with
                    | returned v' => exact ⟨m', k1, k2, v', rfl, k3⟩
                    | panicked c' => exact k3.elim
                    | outgrown => exact k3.elim
                · rename_i c h2 hcf
                  cases hr
                  obtain ⟨⟨fn, hfn, hbody, hname⟩, hcall⟩ := C _ _ _ _ _ hcf
                  refine .inr ⟨g, first' ++ args.map a.eval ++ cap', ?_, (hcall m w _ S hargs).mono fun e w' ⟨m', k1, k2, k3⟩ => ?_⟩
                  · simp only [execOp, resolve, Sem.run_bind, Deferred.ofValue, e, invoke, callFunc, run_program, hfn, hname, hbody, Sem.run_pure, Result.andThen_ok, Bool.false_eq_true, if_false]
                  · cases e with
                    | returned v' => exact k3.elim
                    | panicked c' => exact ⟨m', k1, k2, c', rfl, k3⟩
                    | outgrown => exact k3.elim
                · cases hr
              · cases ht
            · cases hr
          · cases hr
        | builtin b =>
          simp only at hr
          split at hr
          · rename_i av ha
            have hA := evs_Vs T ha
            obtain ⟨k, hk⟩ := run_call_builtin (a := a) (o := ⟨dst, .call ⟨.builtin b, args, ats⟩, type, pos, after, guard⟩) rfl rfl
            simp only at hk
            have fin : ∀ {v v' : Value} {m' : Pm} {w' : World} {s : Sem Value}, builtin b ats type k (args.map a.eval) = (do pure (.value (← s))) → s.run cx.P w = .ok v' w' → Sim m' h' w' → Stp m h w m' h' w' → V m' v v' →
                OpR cx ⟨dst, .call ⟨.builtin b, args, ats⟩, type, pos, after, guard⟩ a m h w h' (.val v) := by
              intro v v' m' w' s hs hrun h1 h2 h3
              refine .inl ⟨m', w', v', ?_, h1, h2, h3⟩
              rw [hk, hs, Sem.run_bind, hrun]
              rfl
            unfold builtinE at hr
            split at hr
            all_goals first
              | (cases hef; done)
              | (cases hr; done)
              | skip
            · -- append
              rename_i s x
              split at hr
              · rename_i v h2 hap
                cases hr
                obtain ⟨s', x', e, hs, hx⟩ := args2 hA
                obtain ⟨m', w', v', g1, g2, g3, g4⟩ := appendE_run O S hs hx hap type
                exact fin (s := Builtin.append_ ats type (args.map a.eval)) rfl (by rw [e]; exact g1) g2 g3 g4
              · cases hr
            · -- copy
              rename_i d s
              obtain ⟨d', s', e, hd, hs⟩ := args2 hA
              split at hr
              · rename_i dt rest base dl dc hts
                have ht' : ats[0]? = some dt := by rw [← Array.getElem?_toList, hts]; rfl
                split at hr
                · rename_i i n hi hn
                  split at hr
                  · rename_i et hde
                    split at hr
                    · rename_i j hj
                      split at hr
                      · rename_i cs hcs
                        split at hr
                        · rename_i ad
                          split at hr
                          · rename_i h2 hst
                            cases hr
                            obtain ⟨w', g1, g2, g3⟩ := copyE_run O S ht' hi hde hj hd hs hn hcs hst type
                            exact fin (s := Builtin.copy_ ats type (args.map a.eval)) rfl (by rw [e]; exact g1) g2 g3 (V.int _ _ _)
                          · cases hr
                        · cases hr
                          obtain ⟨w', g1, g2, g3⟩ := copyE_run O S ht' hi hde hj hd hs hn hcs rfl type
                          exact fin (s := Builtin.copy_ ats type (args.map a.eval)) rfl (by rw [e]; exact g1) g2 g3 (V.int _ _ _)
                      · cases hr
                    · cases hr
                  · cases hr
                · cases hr
              · cases hr
            · -- delete
              rename_i x y
              obtain ⟨x', y', e, hx, hy⟩ := args2 hA
              split at hr
              · rename_i t rest hts
                have ht' : ats[0]? = some t := by rw [← Array.getElem?_toList, hts]; rfl
                split at hr
                · rename_i h2 hd
                  cases hr
                  obtain ⟨w', g1, g2, g3⟩ := deleteE_run O S ht' hx hy hd type
                  exact fin (s := Builtin.delete_ ats type (args.map a.eval)) rfl (by rw [e]; exact g1) g2 g3 (V.undef _)
                · cases hr
              · cases hr
            · -- clear
              rename_i x
              obtain ⟨x', e, hx⟩ := args1 hA
              split at hr
              · rename_i t rest hts
                have ht' : ats[0]? = some t := by rw [← Array.getElem?_toList, hts]; rfl
                split at hr
                · rename_i h2 hd
                  cases hr
                  obtain ⟨w', g1, g2, g3⟩ := clearE_run O S ht' hx hd type
                  exact fin (s := Builtin.clear_ ats type (args.map a.eval)) rfl (by rw [e]; exact g1) g2 g3 (V.undef _)
                · cases hr
              · cases hr
          · cases hr

end
end Go.Em
