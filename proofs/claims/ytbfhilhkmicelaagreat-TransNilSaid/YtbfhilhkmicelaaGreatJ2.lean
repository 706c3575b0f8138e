/-
  Statements as a whole, with their operands at hand; and that they come to what the evaluator's do.
-/
import Derived.Test.YtbfhilhkmicelaaGreatJ1
namespace Go.Em
section
variable (cx : Cx)

/-- Operations that look at no memory. -/
noncomputable def opP (o : Op) (E : Env) (tm : Tr Value) (k : Env → Value → Rz) : Rz := match o with
  | .move x => opd x E tm k
  | .assign x => opd x E tm k
  | .pick c a b => opd c E tm fun E c => opd a E tm fun E a => opd b E tm fun E b => pkJ c a b (k E)
  | .nilCheck x => opd x E tm fun E a => ptJ a (k E)
  | .binOp op t x y _ => match y with
    | .const (.pointer none) => match ptrS cx t, op with
      | true, .eql => opd x E tm fun E a => nilJ false a (k E)
      | true, .neq => opd x E tm fun E a => nilJ true a (k E)
      | _, _ => none
    | _ => opd x E tm fun E a => opd y E tm fun E b => binJ op a b (k E)
  | .unOp .not _ x => opd x E tm fun E a => notJ a (k E)
  | .convert s d x => match convS cx s d with
    | some kd => opd x E tm fun E a => cvJ kd a (k E)
    | none => none
  | .fieldAddr t x f => match offS cx t f with
    | some o => opd x E tm fun E a => faJ o a (k E)
    | none => none
  | .indexAddr t x i => opd x E tm fun E a => opd i E tm fun E i => iaJ (iaS cx t) a i (k E)
  | .extract t i => opd t E tm fun E a => tupJ i a (k E)
  | .call c => match c.callee with
    | .builtin b => match lenS cx b c.args.toList c.argTypes.toList with
      | some x => opd x E tm fun E a => lenJ a (k E)
      | none => none
    | _ => none
  | _ => none

variable {cx} {E : Env} {pl tm : Tr Value} {r : Tr Value × Heap}

theorem lenS_inv {b : Builtin} {l : List Operand} {ts : List Nat} {x : Operand} (hs : lenS cx b l ts = some x) : b = .len ∧ l = [x] ∧ ∃ t, ts = [t] ∧ isSlS cx t = true := by
  unfold lenS at hs
  split at hs
  · rename_i x' t
    cases ht : isSlS cx t with
    | false => rw [ht] at hs; cases hs
    | true => rw [ht] at hs; cases hs; exact ⟨rfl, rfl, t, rfl, ht⟩
  · cases hs

theorem lenJ_ok {t : Nat} (ht : isSlS cx t = true) {a : Value} {k : Value → Rz} (hr : lenJ a k = some r) : ∃ v, (∀ h : Heap, lenOp cx h t a = some v) ∧ k v = some r := by
  obtain ⟨v, hv, h1⟩ := kV_ok hr
  clear hr
  cases a
  case slice b n c =>
    have e : some (Value.int .i64 (Int.ofNat n)) = some v := hv
    cases e
    refine ⟨_, fun h => ?_, h1⟩
    unfold isSlS at ht
    simp only [lenOp]
    cases hi : cx.ty t with
    | none => rw [hi] at ht; cases ht
    | some i =>
      rw [hi] at ht
      cases hd : i.d <;> simp only [hd] at ht ⊢ <;> first | rfl | cases ht
  all_goals exact absurd (show (none : Option Value) = some v from hv) (by simp)

theorem opP_ok {o : Op} {k : Env → Value → Rz} (C : Con E pl tm) (h : opP cx o E tm k = some r) :
    ∃ E' v, Con E' pl tm ∧ (∀ (cf : CallFn) (hp : Heap), opE cx cf (mrg pl tm) hp o = some (.val v, hp)) ∧ k E' v = some r := by
  cases o <;> simp only [opP] at h <;> try (exact absurd h (by simp))
  case move x =>
    obtain ⟨E1, v, C1, hv, h1⟩ := opd_ok C h
    exact ⟨E1, v, C1, fun cf hp => by simp only [opE, hv, val], h1⟩
  case assign x =>
    obtain ⟨E1, v, C1, hv, h1⟩ := opd_ok C h
    exact ⟨E1, v, C1, fun cf hp => by simp only [opE, hv, val], h1⟩
  case pick c a b =>
    obtain ⟨E1, vc, C1, hc, h1⟩ := opd_ok C h
    obtain ⟨E2, va, C2, ha, h2⟩ := opd_ok C1 h1
    obtain ⟨E3, vb, C3, hb, h3⟩ := opd_ok C2 h2
    obtain ⟨x, hx, h4⟩ := kO_ok h3
    have ex := boolV_eq hx
    subst ex
    refine ⟨E3, _, C3, fun cf hp => ?_, h4⟩
    cases x
    · simp only [opE, hc, hb, val]
    · simp only [opE, hc, ha, val]
  case nilCheck x =>
    obtain ⟨E1, v, C1, hv, h1⟩ := opd_ok C h
    obtain ⟨a, ea, h2⟩ := kA_ok h1
    subst ea
    exact ⟨E1, _, C1, fun cf hp => by simp only [opE, hv], h2⟩
  case binOp op t x y u =>
    split at h
    · split at h
      · rename_i _ _ ht
        obtain ⟨E1, a, C1, hv, h1⟩ := opd_ok C h
        obtain ⟨v, hg, hb, h2⟩ := nilJ_ok h1 ht x (.const (.pointer none))
        refine ⟨E1, v, C1, fun cf hp => ?_, h2⟩
        have hb := hb hp
        have hy : ev (mrg pl tm) (.const (.pointer none)) = some (.pointer none) := rfl
        simp only [opE, hv, hy, hg]
        rw [hb]; rfl
      · rename_i _ _ ht
        obtain ⟨E1, a, C1, hv, h1⟩ := opd_ok C h
        obtain ⟨v, hg, hb, h2⟩ := nilJ_ok h1 ht x (.const (.pointer none))
        refine ⟨E1, v, C1, fun cf hp => ?_, h2⟩
        have hb := hb hp
        have hy : ev (mrg pl tm) (.const (.pointer none)) = some (.pointer none) := rfl
        simp only [opE, hv, hy, hg]
        rw [hb]; rfl
      · cases h
    · obtain ⟨E1, a, C1, ha, h1⟩ := opd_ok C h
      obtain ⟨E2, b, C2, hb, h2⟩ := opd_ok C1 h1
      obtain ⟨v, hg, hv, h3⟩ := binJ_ok h2 x y
      exact ⟨E2, v, C2, fun cf hp => by simp only [opE, ha, hb, hg, hv, val], h3⟩
  case unOp op t x =>
    cases op <;> simp only at h <;> try (exact absurd h (by simp))
    obtain ⟨E1, a, C1, ha, h1⟩ := opd_ok C h
    obtain ⟨v, hv, h2⟩ := notJ_ok h1
    exact ⟨E1, v, C1, fun cf hp => by simp only [opE, ha, hv, val], h2⟩
  case convert s d x =>
    cases hs : convS cx s d with
    | none => rw [hs] at h; cases h
    | some kd =>
      rw [hs] at h
      obtain ⟨E1, a, C1, ha, h1⟩ := opd_ok C h
      obtain ⟨v, hv, h2⟩ := cvJ_ok hs h1
      exact ⟨E1, v, C1, fun cf hp => by simp only [opE, ha, hv, val], h2⟩
  case fieldAddr t x f =>
    cases hs : offS cx t f with
    | none => rw [hs] at h; cases h
    | some o =>
      rw [hs] at h
      obtain ⟨E1, a, C1, ha, h1⟩ := opd_ok C h
      obtain ⟨v, hv, h2⟩ := faJ_ok hs h1
      exact ⟨E1, v, C1, fun cf hp => by simp only [opE, ha, hv, val], h2⟩
  case indexAddr t x i =>
    obtain ⟨E1, a, C1, ha, h1⟩ := opd_ok C h
    obtain ⟨E2, b, C2, hb, h2⟩ := opd_ok C1 h1
    obtain ⟨v, hv, h3⟩ := iaJ_ok h2
    exact ⟨E2, v, C2, fun cf hp => by simp only [opE, ha, hb, hv, val], h3⟩
  case extract t i =>
    obtain ⟨E1, a, C1, ha, h1⟩ := opd_ok C h
    obtain ⟨vs, v, ea, hv, h2⟩ := tupJ_ok h1
    subst ea
    exact ⟨E1, v, C1, fun cf hp => by simp only [opE, ha, hv, val], h2⟩
  case call c =>
    obtain ⟨ce, args, ts⟩ := c
    cases ce <;> simp only at h <;> try (exact absurd h (by simp))
    rename_i b
    cases hs : lenS cx b args.toList ts.toList with
    | none => rw [hs] at h; cases h
    | some x =>
      rw [hs] at h
      obtain ⟨hb, hl, t, ht, hsl⟩ := lenS_inv hs
      obtain ⟨E1, a, C1, ha, h1⟩ := opd_ok C h
      obtain ⟨v, hv, h2⟩ := lenJ_ok hsl h1
      refine ⟨E1, v, C1, fun cf hp => ?_, h2⟩
      subst hb
      simp only [opE, hl, ht, evs, ha, builtinE, hv, val]

variable (cx)

/-- The operations that are gone into. -/
noncomputable def opJ (cf : CallFn) (o : Op) (E : Env) (tm : Tr Value) (h : Heap) (k : Env → Value → Heap → Rz) : Rz := match o with
  | .load t a => match scalS cx t, aggS cx t with
    | true, _ => opd a E tm fun E a => ldJ h a (fun v => k E v h)
    | false, some n => opd a E tm fun E a => ldAJ n h a (fun v => k E v h)
    | false, none => none
  | .store t a x => match oneS cx t with
    | true => opd a E tm fun E a => opd x E tm fun E x => stJ h a x (fun h => k E undef h)
    | false => none
  | .alloc t => alJ (rowS cx t) h (k E)
  | .box t x => opd x E tm fun E x => alJ (some (mkRowG x.cells.toList x.cells.size t 0)) h (k E)
  | .lookup t m key false => match mapS cx t with
    | some z => opd m E tm fun E m => opd key E tm fun E key => lkJ z h m key (fun v => k E v h)
    | none => none
  | .call c => match c.callee with
    | .value (.func g) => opds tm c.args.toList E fun E vs => calJ cf g vs h (k E)
    | .builtin _ => opP cx o E tm fun E v => k E v h
    | _ => none
  | o => opP cx o E tm fun E v => k E v h

variable {cx}

theorem opJ_ok {cf : CallFn} {o : Op} {h : Heap} {k : Env → Value → Heap → Rz} (C : Con E pl tm) (hr : opJ cx cf o E tm h k = some r) :
    ∃ E' v h', Con E' pl tm ∧ opE cx cf (mrg pl tm) h o = some (.val v, h') ∧ k E' v h' = some r := by
  have gen : (opP cx o E tm fun E v => k E v h) = some r → ∃ E' v h', Con E' pl tm ∧ opE cx cf (mrg pl tm) h o = some (.val v, h') ∧ k E' v h' = some r := by
    intro hr
    obtain ⟨E1, v, C1, hv, h1⟩ := opP_ok C hr
    exact ⟨E1, v, h, C1, hv cf h, h1⟩
  cases o <;> simp only [opJ] at hr <;> try (exact gen hr)
  case load t a =>
    cases hs : scalS cx t with
    | true =>
      rw [hs] at hr
      obtain ⟨E1, v, C1, hv, h1⟩ := opd_ok C hr
      obtain ⟨ad, ea, h2⟩ := kA_ok h1
      obtain ⟨x, hx, h3⟩ := kV_ok h2
      subst ea
      refine ⟨E1, x, h, C1, ?_, h3⟩
      have : loadT cx h t ad = some x := by rw [← loadG_eq]; unfold loadG; rw [hs]; exact hx
      simp only [opE, hv, this, val]
    | false =>
      rw [hs] at hr
      cases hn : aggS cx t with
      | none => rw [hn] at hr; cases hr
      | some n =>
        rw [hn] at hr
        obtain ⟨E1, v, C1, hv, h1⟩ := opd_ok C hr
        obtain ⟨ad, ea, h2⟩ := kA_ok h1
        obtain ⟨x, hx, h3⟩ := kV_ok h2
        subst ea
        refine ⟨E1, x, h, C1, ?_, h3⟩
        have : loadT cx h t ad = some x := by rw [← loadG_eq]; unfold loadG; rw [hs, hn]; exact hx
        simp only [opE, hv, this, val]
  case store t a x =>
    cases hs : oneS cx t with
    | false => rw [hs] at hr; cases hr
    | true =>
      rw [hs] at hr
      obtain ⟨E1, va, C1, hv, h1⟩ := opd_ok C hr
      obtain ⟨E2, vx, C2, hx, h2⟩ := opd_ok C1 h1
      obtain ⟨ad, ea, h3⟩ := kA_ok h2
      subst ea
      cases hc : isCellG vx with
      | false => rw [hc] at h3; cases h3
      | true =>
        rw [hc] at h3
        obtain ⟨h', hst, h4⟩ := kO_ok h3
        refine ⟨E2, undef, h', C2, ?_, h4⟩
        have : storeT cx h t ad vx = some h' := by rw [← storeG_eq]; unfold storeG; rw [hs, hc]; exact hst
        simp only [opE, hv, hx, this, skp]
  case alloc t =>
    obtain ⟨b, hb, h1⟩ := alJ_ok hr
    refine ⟨E, _, _, C, ?_, h1⟩
    rw [← kAlloc_eq]
    unfold kAlloc
    rw [hb]
    exact addG_eq _ b h
  case box t x =>
    obtain ⟨E1, v, C1, hv, h1⟩ := opd_ok C hr
    obtain ⟨b, hb, h2⟩ := alJ_ok h1
    cases hb
    refine ⟨E1, _, _, C1, ?_, h2⟩
    rw [mkRowG_eq]
    simp only [opE, makeE, hv]
  case lookup t m key ok =>
    cases ok with
    | true => exact gen hr
    | false =>
      cases hs : mapS cx t with
      | none => simp only [hs] at hr; cases hr
      | some z =>
        simp only [hs] at hr
        obtain ⟨E1, vm, C1, hm, h1⟩ := opd_ok C hr
        obtain ⟨E2, vk, C2, hk, h2⟩ := opd_ok C1 h1
        obtain ⟨v, hv, h3⟩ := lkJ_ok hs h2
        exact ⟨E2, v, h, C2, by simp only [opE, hm, hk, hv, val], h3⟩
  case call c =>
    obtain ⟨ce, args, ts⟩ := c
    cases ce with
    | value f =>
      cases f with
      | func g =>
        obtain ⟨E1, vs, C1, hvs, h1⟩ := opds_ok C hr
        obtain ⟨v, h', hc, h2⟩ := calJ_ok h1
        refine ⟨E1, v, h', C1, ?_, h2⟩
        have e : (#[] : Array Value).toList ++ vs ++ (#[] : Array Value).toList = vs := by simp
        simp only [opE, ev, hvs, target]
        rw [e, hc]
      | _ => cases hr
    | invoke a b => cases hr
    | builtin b => exact gen hr

/-! ### Statements in the text's order -/
noncomputable def gdJ (g : Value) (want : Bool) (op : (Value → Heap → Rz) → Rz) (h : Heap) (k : Value → Heap → Rz) : Rz :=
  kO (boolV g) (fun b => @Bool.rec (fun _ => Rz) (k undef h) (op k) (eqB b want))

variable (cx)

noncomputable def cmpR (cf : CallFn) (all : List Oper) : List Oper → Env → Tr Value → Tr Value → Heap → Rz
  | [], _, pl, tm, h => some (mrg pl tm, h)
  | o :: l, E, pl, tm, h => match o.guard with
    | none => opJ cx cf o.op E tm h fun E v h => cmpR cf all l (bindE o.dst v E) (bindP o.dst v pl) tm h
    | some (j, want) => match guS all j with
      | none => none
      | some d => opd (.tmp d) E tm fun E1 g => gdJ g want (fun k => opJ cx cf o.op E1 tm h fun _ v h => k v h) h
          (fun v h => cmpR cf all l (bindE o.dst v E1) (bindP o.dst v pl) tm h)

variable {cx}

theorem cmpR_ok {cf : CallFn} {all : List Oper} : ∀ {l : List Oper} {E : Env} {pl tm : Tr Value} {h : Heap} {r : Tr Value × Heap}, Con E pl tm → cmpR cx cf all l E pl tm h = some r →
    ∀ df u, opsE cx cf false all l ⟨mrg pl tm, df, u, h⟩ = some (.normal, ⟨r.1, df, u, r.2⟩)
  | [], E, pl, tm, h, r, C, hr, df, u => by
    simp only [cmpR] at hr
    cases hr
    simp only [opsE]
  | o :: l, E, pl, tm, h, r, C, hr, df, u => by
    simp only [cmpR] at hr
    cases hg : o.guard with
    | none =>
      rw [hg] at hr
      obtain ⟨E1, v, h', C1, ho, h1⟩ := opJ_ok C hr
      have ih := cmpR_ok (C1.bind o.dst v) h1 df u
      have hw : wantE all (mrg pl tm) o = some true := by unfold wantE; rw [hg]
      simp only [opsE, hw, ho]
      rw [← bindP_eq]
      exact ih
    | some p =>
      obtain ⟨j, want⟩ := p
      rw [hg] at hr
      dsimp only at hr
      cases hgs : guS all j with
      | none => rw [hgs] at hr; cases hr
      | some d =>
        rw [hgs] at hr
        obtain ⟨E1, g, C1, hv, h1⟩ := opd_ok C hr
        obtain ⟨b, hb, h2⟩ := kO_ok h1
        have hw : wantE all (mrg pl tm) o = some (eqB b want) := by
          rw [← wantG_eq]
          unfold wantG
          rw [hg]
          show wantF all (mrg pl tm) j want = _
          unfold wantF
          rw [hgs]
          show @Option.rec Value (fun _ => Option Bool) none _ (gV (pathOf d) (mrg pl tm)) = _
          rw [gV_eq]
          have hv' : (mrg pl tm).get d = some g := hv
          rw [hv']
          show @Option.rec Bool (fun _ => Option Bool) (tupS g) (fun b => some (eqB b want)) (boolV g) = _
          rw [hb]
        cases he : eqB b want with
        | false =>
          rw [he] at h2 hw
          change cmpR cx cf all l (bindE o.dst undef E1) (bindP o.dst undef pl) tm h = some r at h2
          have ih := cmpR_ok (C1.bind o.dst undef) h2 df u
          simp only [opsE, hw]
          rw [← bindP_eq]
          exact ih
        | true =>
          rw [he] at h2 hw
          change (opJ cx cf o.op E1 tm h fun _ v h => cmpR cx cf all l (bindE o.dst v E1) (bindP o.dst v pl) tm h) = some r at h2
          obtain ⟨E2, v, h', _, ho, h3⟩ := opJ_ok C1 h2
          have ih := cmpR_ok (C1.bind o.dst v) h3 df u
          simp only [opsE, hw, ho]
          rw [← bindP_eq]
          exact ih

/-! ### Open statements -/
variable (cx)

noncomputable def ldD (t : Nat) (a : Operand) (E : Env) (tm : Tr Value) (h : Heap) (k : Env → Value → Rz) : Rz := match scalS cx t, aggS cx t with
    | true, _ => opd a E tm fun E a => ldJ h a (k E)
    | false, some n => opd a E tm fun E a => ldAJ n h a (k E)
    | false, none => none

noncomputable def cmpD (cf : CallFn) : List Oper → Env → Tr Value → Tr Value → Heap → Rz
  | [], _, pl, tm, h => some (mrg pl tm, h)
  | o :: l, E, pl, tm, h => match o.guard, clO o.op with
    | none, .eff => opJ cx cf o.op E tm ⟨Heap.tr h, Heap.nx h, []⟩ fun E v h1 => cmpD cf l (bindE o.dst v E) (bindP o.dst v pl) tm ⟨Heap.tr h1, Heap.nx h1, Heap.dt h1 ++ Heap.dt h⟩
    | none, .oth => match loadO o.op with
      | some p => ldD cx p.1 p.2 E tm h fun E v => cmpD cf l (bindE o.dst v E) (bindP o.dst v pl) tm h
      | none => opP cx o.op E tm fun E v => cmpD cf l (bindE o.dst v E) (bindP o.dst v pl) tm h
    | _, _ => none

variable {cx}

theorem ldD_ok {t : Nat} {a : Operand} {h : Heap} {k : Env → Value → Rz} (C : Con E pl tm) (hr : ldD cx t a E tm h k = some r) : ∃ E' v, Con E' pl tm ∧ othL cx t a (mrg pl tm) h = some v ∧ k E' v = some r := by
  unfold ldD at hr
  have fin : ∀ {ad : Addr} {x : Value}, ev (mrg pl tm) a = some (.pointer (some ad)) → loadG cx t h ad = some x → othL cx t a (mrg pl tm) h = some x := by
    intro ad x hv hx
    unfold othL
    rw [evG_eq, hv]
    exact hx
  cases hs : scalS cx t with
  | true =>
    rw [hs] at hr
    obtain ⟨E1, v, C1, hv, h1⟩ := opd_ok C hr
    obtain ⟨ad, ea, h2⟩ := kA_ok h1
    obtain ⟨x, hx, h3⟩ := kV_ok h2
    subst ea
    exact ⟨E1, x, C1, fin hv (by unfold loadG; rw [hs]; exact hx), h3⟩
  | false =>
    rw [hs] at hr
    cases hn : aggS cx t with
    | none => rw [hn] at hr; cases hr
    | some n =>
      rw [hn] at hr
      obtain ⟨E1, v, C1, hv, h1⟩ := opd_ok C hr
      obtain ⟨ad, ea, h2⟩ := kA_ok h1
      obtain ⟨x, hx, h3⟩ := kV_ok h2
      subst ea
      exact ⟨E1, x, C1, fin hv (by unfold loadG; rw [hs, hn]; exact hx), h3⟩

theorem cmpD_ok {cf : CallFn} {base : Nat} {all : List Oper} : ∀ {l : List Oper} {ms : List Nat} {i : Nat} {mt : Tr Nat} {E : Env} {pl tm : Tr Value} {h : Heap} {r : Tr Value × Heap}, Con E pl tm → masksS l i mt = some ms → cmpD cx cf l E pl tm h = some r →
    trG cx cf base all l ms i (mrg pl tm) h [] = some (r.1, r.2, [])
  | [], ms, i, mt, E, pl, tm, h, r, C, hm, hr => by
    simp only [cmpD] at hr
    cases hr
    rfl
  | o :: l, ms, i, mt, E, pl, tm, h, r, C, hm, hr => by
    simp only [masksS] at hm
    cases hk : maskE mt i o.after.toList with
    | none => rw [hk] at hm; cases hm
    | some mask =>
      rw [hk] at hm
      dsimp only at hm
      cases hrest : masksS l (i + 1) (mt.set i (some mask)) with
      | none => rw [hrest] at hm; cases hm
      | some ms1 =>
        rw [hrest] at hm
        cases hm
        simp only [cmpD] at hr
        show stK cx cf base all i o mask (trG cx cf base all l ms1 (i + 1)) (mrg pl tm) h [] = _
        unfold stK
        cases hg : o.guard with
        | some p => rw [hg] at hr; cases hr
        | none =>
          rw [hg] at hr
          have hw : wantG o all (mrg pl tm) = some true := by unfold wantG; rw [hg]
          rw [hw]
          show runK cx cf base i o mask (trG cx cf base all l ms1 (i + 1)) (mrg pl tm) h [] = _
          unfold runK
          cases hc : clO o.op with
          | mak => rw [hc] at hr; cases hr
          | eff =>
            rw [hc] at hr
            obtain ⟨E1, v, h1, C1, ho, h2⟩ := opJ_ok C hr
            show effK o.dst mask (trG cx cf base all l ms1 (i + 1)) (mrg pl tm) h [] (disp o.op cx cf (mrg pl tm) ⟨h.tr, h.nx, []⟩) = _
            rw [disp_eq, ho]
            show trG cx cf base all l ms1 (i + 1) (putG (mrg pl tm) o.dst v) ⟨h1.tr, h1.nx, h1.dt ++ h.dt⟩ [] = _
            rw [putG_eq, ← bindP_eq]
            exact cmpD_ok (C1.bind o.dst v) hrest h2
          | oth =>
            rw [hc] at hr
            show othK o.dst (trG cx cf base all l ms1 (i + 1)) (mrg pl tm) h [] (othG cx o.op (mrg pl tm) h) = _
            cases hl : loadO o.op with
            | some p =>
              rw [hl] at hr
              obtain ⟨E1, v, C1, hv, h2⟩ := ldD_ok C hr
              have : othG cx o.op (mrg pl tm) h = some v := by unfold othG; rw [hl]; exact hv
              rw [this]
              show trG cx cf base all l ms1 (i + 1) (putG (mrg pl tm) o.dst v) h [] = _
              rw [putG_eq, ← bindP_eq]
              exact cmpD_ok (C1.bind o.dst v) hrest h2
            | none =>
              rw [hl] at hr
              obtain ⟨E1, v, C1, hv, h2⟩ := opP_ok C hr
              have : othG cx o.op (mrg pl tm) h = some v := by
                unfold othG
                rw [hl]
                show othP cx o.op (mrg pl tm) h = some v
                unfold othP
                rw [disp_eq, hv]
              rw [this]
              show trG cx cf base all l ms1 (i + 1) (putG (mrg pl tm) o.dst v) h [] = _
              rw [putG_eq, ← bindP_eq]
              exact cmpD_ok (C1.bind o.dst v) hrest h2

end
end Go.Em
