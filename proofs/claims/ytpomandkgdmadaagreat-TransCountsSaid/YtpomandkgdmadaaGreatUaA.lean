/-
  Calls whose outside functions note assumptions in the list of what was written: where all that was noted holds, they are calls.
-/
import Derived.Test.YtpomandkgdmadaaGreatJj
import Derived.Test.YtpomandkgdmadaaGreatEnN
namespace Go.Em

/-- The sign of an assumption. -/
def asmN : Nat := 1606938044258990275541962092341162602522202993782792835301376
noncomputable def asmP (b : Bool) : Part := ⟨asmN, @Bool.rec (fun _ => Nat) 1 0 b, 0⟩
def Asm (dt : List Part) : Prop := ∀ p ∈ dt, p.n = asmN → p.off = 0

theorem Asm.right {a b : List Part} (h : Asm (a ++ b)) : Asm b := fun p hp => h p (List.mem_append.2 (.inr hp))
theorem Asm.left {a b : List Part} (h : Asm (a ++ b)) : Asm a := fun p hp => h p (List.mem_append.2 (.inl hp))
theorem Asm.of_chg {h h' : Heap} (c : Chg h h') (a : Asm h'.dt) : Asm h.dt := by
  obtain ⟨ws, e, _⟩ := c.dt
  rw [e] at a
  exact a.right

/-- One function's results are another one's, where what is noted holds. -/
def RelF (U S : CallFn) : Prop := ∀ f args h r h', U f args h = some (r, h') → Asm h'.dt → S f args h = some (r, h')

section
variable {cx : Cx} {U S : CallFn}

/-- An operation looks at no call, or it is a call. -/
theorem opE_alt (U S : CallFn) (tm : Tr Value) (h : Heap) (o : Op) : opE cx U tm h o = opE cx S tm h o ∨ ∃ g l, opE cx U tm h o = finC (U g l h) ∧ opE cx S tm h o = finC (S g l h) := by
  cases o <;> try exact .inl rfl
  rename_i c
  obtain ⟨ce, args, ts⟩ := c
  cases ce <;> try exact .inl rfl
  rename_i f
  simp only [opE]
  cases ev tm f with
  | none => exact .inl rfl
  | some fv =>
    cases evs tm args.toList with
    | none => exact .inl rfl
    | some vs =>
      dsimp only
      cases target fv vs with
      | none => exact .inl rfl
      | some p =>
        obtain ⟨g, l⟩ := p
        exact .inr ⟨g, l, (finC_eq _).symm, (finC_eq _).symm⟩

theorem finC_inv {r : Option (Fin × Heap)} {out : Out} {h' : Heap} (h : finC r = some (out, h')) : ∃ f, r = some (f, h') ∧ ((∃ v, out = .val v) ∨ ∃ c, out = .pan c) := by
  cases r with
  | none => cases h
  | some p =>
    obtain ⟨f, h1⟩ := p
    cases f with
    | ret v => cases h; exact ⟨_, rfl, .inl ⟨v, rfl⟩⟩
    | pan c => cases h; exact ⟨_, rfl, .inr ⟨c, rfl⟩⟩

theorem opE_rel (R : RelF U S) {tm : Tr Value} {h h' : Heap} {o : Op} {out : Out} (ho : opE cx U tm h o = some (out, h')) (ha : Asm h'.dt) : opE cx S tm h o = some (out, h') := by
  rcases opE_alt (cx := cx) U S tm h o with e | ⟨g, l, e1, e2⟩
  · rw [← e]; exact ho
  · rw [e1] at ho
    obtain ⟨f, hf, _⟩ := finC_inv ho
    rw [e2, R g l h f h' hf ha, ← hf]
    exact ho

/-- What is not a call's end needs no assumption. -/
theorem opE_rel' {tm : Tr Value} {h h' : Heap} {o : Op} {out : Out} (ho : opE cx U tm h o = some (out, h')) (hv : ∀ v, out ≠ .val v) (hp : ∀ c, out ≠ .pan c) : opE cx S tm h o = some (out, h') := by
  rcases opE_alt (cx := cx) U S tm h o with e | ⟨g, l, e1, e2⟩
  · rw [← e]; exact ho
  · rw [e1] at ho
    obtain ⟨f, _, ⟨v, e⟩ | ⟨c, e⟩⟩ := finC_inv ho
    · exact absurd e (hv v)
    · exact absurd e (hp c)

theorem opsE_rel (K : KeepsF U) (R : RelF U S) {dk : Bool} {all : List Oper} : ∀ (l : List Oper) (st : St) (ex : Ex) (st' : St), opsE cx U dk all l st = some (ex, st') → Asm st'.h.dt → opsE cx S dk all l st = some (ex, st')
  | [], st, ex, st', h, _ => by simpa only [opsE] using h
  | o :: l, st, ex, st', h, ha => by
    simp only [opsE] at h ⊢
    cases hw : wantE all st.tm o with
    | none => rw [hw] at h; cases h
    | some b =>
      rw [hw] at h
      cases b with
      | false => exact opsE_rel K R l _ ex st' h ha
      | true =>
        dsimp only at h ⊢
        cases ho : opE cx U st.tm st.h o.op with
        | none => rw [ho] at h; cases h
        | some p =>
          obtain ⟨out, h1⟩ := p
          rw [ho] at h
          cases out with
          | val v =>
            dsimp only at h
            have a1 : Asm h1.dt := Asm.of_chg (opsE_chg K l _ ex st' h) ha
            rw [opE_rel R ho a1]
            exact opsE_rel K R l _ ex st' h ha
          | pan c =>
            cases h
            rw [opE_rel R ho ha]
          | dfr d =>
            rw [opE_rel' (S := S) ho (fun v e => by cases e) (fun c e => by cases e)]
            exact opsE_rel K R l _ ex st' h ha
          | rcv =>
            rw [opE_rel' (S := S) ho (fun v e => by cases e) (fun c e => by cases e)]
            cases dk with
            | false => cases h
            | true => exact opsE_rel K R l _ ex st' h ha

/-! ### Open statements -/
def Kd.parts : Kd → Option (List Part)
  | .eff ws _ _ => some ws
  | .pan ws _ _ => some ws
  | _ => none
theorem kdE_congr {base i : Nat} {all : List Oper} {o : Oper} {mask : Nat} {dead : Option Nat} {tm : Tr Value} {h : Heap} {mks : List (Nat × Nat × Obj)}
    (he : opE cx U tm (release mask mks ⟨h.tr, h.nx, []⟩) o.op = opE cx S tm (release mask mks ⟨h.tr, h.nx, []⟩) o.op) : kdE cx U base i all o mask dead tm h mks = kdE cx S base i all o mask dead tm h mks := by
  unfold kdE
  rw [he]
theorem kdE_not {base i : Nat} {all : List Oper} {o : Oper} {mask : Nat} {dead : Option Nat} {tm : Tr Value} {h : Heap} {mks : List (Nat × Nat × Obj)}
    (he : isEff o.op = false) : kdE cx U base i all o mask dead tm h mks = kdE cx S base i all o mask dead tm h mks := by
  unfold kdE
  rw [he]
  cases isOdd o.op <;> cases isMake o.op <;> rfl
theorem kdE_rel (R : RelF U S) {base i : Nat} {all : List Oper} {o : Oper} {mask : Nat} {dead : Option Nat} {tm : Tr Value} {h : Heap} {mks : List (Nat × Nat × Obj)} {kd : Kd}
    (hk : kdE cx U base i all o mask dead tm h mks = some kd) (ha : ∀ ws, kd.parts = some ws → Asm ws) : kdE cx S base i all o mask dead tm h mks = some kd := by
  cases he : isEff o.op with
  | false => rw [← kdE_not (U := U) he]; exact hk
  | true =>
    cases hw : wantE all tm o with
    | none => simp only [kdE, hw] at hk ⊢; exact hk
    | some b =>
      cases b with
      | false => simp only [kdE, hw] at hk ⊢; exact hk
      | true =>
        cases ho : isOdd o.op with
        | true => simp only [kdE, hw, ho] at hk ⊢; exact hk
        | false =>
          cases hm : isMake o.op with
          | true => simp only [kdE, hw, ho, hm] at hk ⊢; exact hk
          | false =>
            cases dead with
            | some j => simp only [kdE, hw, ho, hm, he] at hk ⊢; exact hk
            | none =>
              simp only [kdE, hw, ho, hm, he] at hk ⊢
              cases hop : opE cx U tm (release mask mks ⟨h.tr, h.nx, []⟩) o.op with
              | none => rw [hop] at hk; cases hk
              | some p =>
                obtain ⟨out, h1⟩ := p
                rw [hop] at hk
                cases out with
                | val v =>
                  cases hk
                  rw [opE_rel R hop (ha _ rfl)]
                | pan c =>
                  cases hk
                  rw [opE_rel R hop (ha _ rfl)]
                | dfr d => cases hk
                | rcv => cases hk

theorem giveAll_asm {l : List (Nat × Nat × Obj)} {h : Heap} (a : Asm (giveAll l h).dt) : Asm h.dt := by
  obtain ⟨ws, e, _⟩ := giveAll_dt l h
  rw [e] at a
  exact a.right

theorem kdE_ws {cf : CallFn} {base i : Nat} {all : List Oper} {o : Oper} {mask : Nat} {dead : Option Nat} {tm : Tr Value} {h : Heap} {mks : List (Nat × Nat × Obj)} {kd : Kd}
    (hk : kdE cx cf base i all o mask dead tm h mks = some kd) : match kd with
      | .eff ws h1 _ => h1.dt = ws ++ h.dt
      | .pan ws h1 _ => h1.dt = ws ++ h.dt
      | _ => True := by
  unfold kdE at hk
  split at hk
  · cases hk; trivial
  · split at hk
    · cases hk
    · cases hk; trivial
    · split at hk
      · cases hk
      · split at hk
        · cases hk; trivial
        · cases hk
      · split at hk
        · cases hk
        · split at hk
          · cases hk; rfl
          · cases hk; rfl
          · cases hk
      · split at hk
        · cases hk; trivial
        · cases hk
        · split at hk
          · cases hk
          · split at hk
            · cases hk
            · split at hk
              · cases hk; trivial
              · cases hk
theorem kdE_eff_dt {cf : CallFn} {base i : Nat} {all : List Oper} {o : Oper} {mask : Nat} {dead : Option Nat} {tm : Tr Value} {h : Heap} {mks : List (Nat × Nat × Obj)} {ws : List Part} {h1 : Heap} {v : Value}
    (hk : kdE cx cf base i all o mask dead tm h mks = some (.eff ws h1 v)) : h1.dt = ws ++ h.dt := kdE_ws hk
theorem kdE_pan_dt {cf : CallFn} {base i : Nat} {all : List Oper} {o : Oper} {mask : Nat} {dead : Option Nat} {tm : Tr Value} {h : Heap} {mks : List (Nat × Nat × Obj)} {ws : List Part} {h1 : Heap} {c : List PanicEntry}
    (hk : kdE cx cf base i all o mask dead tm h mks = some (.pan ws h1 c)) : h1.dt = ws ++ h.dt := kdE_ws hk

/-- What was written grows. -/
theorem traceE_dt {cf : CallFn} {base : Nat} {all : List Oper} : ∀ {l : List Oper} {i : Nat} {ms : Tr Nat} {dead : Option Nat} {tm : Tr Value} {h : Heap} {mks : List (Nat × Nat × Obj)} {acc : List Sn} {r : List Sn × Tr Value × Heap × List (Nat × Nat × Obj)},
    traceE cx cf base all l i ms dead tm h mks acc = some r → ∃ ws, r.2.2.1.dt = ws ++ h.dt
  | [], i, ms, dead, tm, h, mks, acc, r, ht => by
    simp only [traceE] at ht
    cases ht
    exact ⟨[], rfl⟩
  | o :: l, i, ms, dead, tm, h, mks, acc, r, ht => by
    simp only [traceE] at ht
    split at ht
    · cases ht
    · split at ht
      · cases ht
      · rename_i mask _ kd hk
        cases kd with
        | eff ws h1 v =>
          obtain ⟨w, e⟩ := traceE_dt ht
          have e1 : h1.dt = ws ++ h.dt := kdE_eff_dt hk
          exact ⟨w ++ ws, by rw [e, e1, List.append_assoc]⟩
        | pan ws h1 c =>
          obtain ⟨w, e⟩ := traceE_dt ht
          have e1 : h1.dt = ws ++ h.dt := kdE_pan_dt hk
          exact ⟨w ++ ws, by rw [e, e1, List.append_assoc]⟩
        | no => exact traceE_dt ht
        | dead => exact traceE_dt ht
        | pur v => exact traceE_dt ht
        | lod t v => exact traceE_dt ht
        | mak n b v => exact traceE_dt ht

theorem traceE_rel (R : RelF U S) {base : Nat} {all : List Oper} : ∀ {l : List Oper} {i : Nat} {ms : Tr Nat} {dead : Option Nat} {tm : Tr Value} {h : Heap} {mks : List (Nat × Nat × Obj)} {acc : List Sn} {r : List Sn × Tr Value × Heap × List (Nat × Nat × Obj)},
    traceE cx U base all l i ms dead tm h mks acc = some r → Asm r.2.2.1.dt → traceE cx S base all l i ms dead tm h mks acc = some r
  | [], i, ms, dead, tm, h, mks, acc, r, ht, _ => by simpa only [traceE] using ht
  | o :: l, i, ms, dead, tm, h, mks, acc, r, ht, ha => by
    simp only [traceE] at ht ⊢
    cases hm : maskE ms i o.after.toList with
    | none => rw [hm] at ht; cases ht
    | some mask =>
      rw [hm] at ht
      dsimp only at ht ⊢
      cases hk : kdE cx U base i all o mask dead tm h mks with
      | none => rw [hk] at ht; cases ht
      | some kd =>
        rw [hk] at ht
        have hs : kdE cx S base i all o mask dead tm h mks = some kd := by
          refine kdE_rel R hk ?_
          intro ws hw
          cases kd with
          | eff ws1 h1 v =>
            cases hw
            obtain ⟨w, e⟩ := traceE_dt ht
            rw [e, kdE_eff_dt hk] at ha
            exact ha.right.left
          | pan ws1 h1 c =>
            cases hw
            obtain ⟨w, e⟩ := traceE_dt ht
            rw [e, kdE_pan_dt hk] at ha
            exact ha.right.left
          | _ => cases hw
        rw [hs]
        cases kd <;> exact traceE_rel R ht ha

theorem drawE_rel (R : RelF U S) {ops : List Oper} {st : St} {ex : Ex} {st' : St} (hd : drawE cx U ops st = some (ex, st')) (ha : Asm st'.h.dt) : drawE cx S ops st = some (ex, st') := by
  unfold drawE at hd ⊢
  cases ht : traceE cx U st.h.nx ops ops 0 .nil none st.tm ⟨st.h.tr, st.h.nx + ops.length, st.h.dt⟩ [] [] with
  | none => rw [ht] at hd; cases hd
  | some r =>
    obtain ⟨tr, tm, h, mks⟩ := r
    rw [ht] at hd
    dsimp only at hd
    have a : Asm h.dt := by
      split at hd
      · cases hd
      · cases hd
      · split at hd
        · cases hd; exact giveAll_asm ha
        · cases hd; exact ha
    rw [traceE_rel R ht a]
    exact hd

theorem exec_rel (K : KeepsF U) (R : RelF U S) {dk : Bool} : ∀ (n : Nat) (c : Code) (st : St) (ex : Ex) (st' : St), exec cx U dk n c st = some (ex, st') → Asm st'.h.dt → exec cx S dk n c st = some (ex, st') := by
  intro n
  induction n with
  | zero => intro c st ex st' h; cases h
  | succ n ih =>
    intro c st ex st' h ha
    have seq2 : ∀ (a b : Code), (match exec cx U dk n a st with
        | some (.normal, st) => exec cx U dk n b st
        | r => r) = some (ex, st') → (match exec cx S dk n a st with
        | some (.normal, st) => exec cx S dk n b st
        | r => r) = some (ex, st') := by
      intro a b h
      cases h1 : exec cx U dk n a st with
      | none => rw [h1] at h; cases h
      | some p =>
        obtain ⟨e, s⟩ := p
        rw [h1] at h
        cases e with
        | normal =>
          dsimp only at h
          rw [ih a st _ _ h1 (Asm.of_chg (exec_chg K n b s ex st' h) ha)]
          exact ih b s ex st' h ha
        | _ => cases h; rw [ih a st _ _ h1 ha]
    cases c with
    | region id ops draw =>
      cases draw with
      | false => simp only [exec] at h ⊢; exact opsE_rel K R _ st ex st' h ha
      | true => simp only [exec] at h ⊢; exact drawE_rel R h ha
    | seq a b => simp only [exec] at h ⊢; exact seq2 a b h
    | cond c a b =>
      simp only [exec] at h ⊢
      split at h
      · rename_i e; exact ih a st ex st' h ha
      · rename_i e; exact ih b st ex st' h ha
      · cases h
    | block id a =>
      simp only [exec] at h ⊢
      cases h1 : exec cx U dk n a st with
      | none => rw [h1] at h; cases h
      | some p =>
        obtain ⟨e, s⟩ := p
        rw [h1] at h
        have hh : s = st' := by
          cases e <;> first | (cases h; rfl) | (dsimp only at h; split at h <;> (cases h; rfl))
        subst hh
        rw [ih a st _ _ h1 ha]
        exact h
    | loop a => simp only [exec] at h ⊢; exact seq2 a (.loop a) h
    | scope a => simp only [exec] at h ⊢; exact ih a st ex st' h ha
    | _ => simp only [exec] at h ⊢; exact h

theorem callD_rel (K : KeepsF U) (R : RelF U S) {n g : Nat} {args : List Value} {u u1 : FrameMode} {h h1 : Heap} {r : Fin} (hc : callD cx U n g args u h = some (r, u1, h1)) (ha : Asm h1.dt) : callD cx S n g args u h = some (r, u1, h1) := by
  unfold callD at hc ⊢
  cases hf : cx.fn g with
  | none => rw [hf] at hc; cases hc
  | some x =>
    obtain ⟨fn, c⟩ := x
    rw [hf] at hc
    dsimp only at hc ⊢
    cases hex : exec cx U true n c ⟨argsT 0 args .nil, [], u, h⟩ with
    | none => rw [hex] at hc; cases hc
    | some p =>
      obtain ⟨ex, st⟩ := p
      rw [hex] at hc
      dsimp only at hc
      have e : st.h = h1 := by
        split at hc
        · cases hc
        · split at hc
          · cases hc; rfl
          · cases hc
          · split at hc
            · cases hc; rfl
            · cases hc
      rw [exec_rel K R n c _ ex st hex (by rw [e]; exact ha)]
      exact hc

theorem leave_rel {cU cS : Nat → List Value → FrameMode → Heap → Option (Fin × FrameMode × Heap)} (hcd : ∀ g args u h r u1 h1, cU g args u h = some (r, u1, h1) → Chg h h1)
    (hrel : ∀ g args u h r u1 h1, cU g args u h = some (r, u1, h1) → Asm h1.dt → cS g args u h = some (r, u1, h1)) {fn : Func} {tm : Tr Value} :
    ∀ (ds : List Deferred) (u : FrameMode) (h : Heap) (r : Fin) (h1 : Heap), leave cx cU fn tm ds u h = some (r, h1) → Asm h1.dt → leave cx cS fn tm ds u h = some (r, h1)
  | [], u, h, r, h1, hl, _ => by
    cases u <;> simpa only [leave] using hl
  | d :: ds, u, h, r, h1, hl, ha => by
    cases u with
    | run => simp only [leave] at hl; cases hl
    | returning =>
      simp only [leave] at hl ⊢
      split at hl
      · rename_i g cap ht
        cases hc : cU g (d.args.toList ++ cap.toList) .returning h with
        | none => rw [hc] at hl; cases hl
        | some p =>
          obtain ⟨f, u2, h2⟩ := p
          rw [hc] at hl
          cases f with
          | ret v =>
            dsimp only at hl
            rw [hrel _ _ _ _ _ _ _ hc (Asm.of_chg (leave_chg hcd ds _ _ _ _ hl) ha)]
            exact leave_rel hcd hrel ds _ _ _ _ hl ha
          | pan c =>
            dsimp only at hl
            rw [hrel _ _ _ _ _ _ _ hc (Asm.of_chg (leave_chg hcd ds _ _ _ _ hl) ha)]
            exact leave_rel hcd hrel ds _ _ _ _ hl ha
      · cases hl
    | panicking ch =>
      simp only [leave] at hl ⊢
      split at hl
      · rename_i g cap ht
        cases hc : cU g (d.args.toList ++ cap.toList) (.panicking ch) h with
        | none => rw [hc] at hl; cases hl
        | some p =>
          obtain ⟨f, u2, h2⟩ := p
          rw [hc] at hl
          cases f with
          | ret v =>
            dsimp only at hl
            rw [hrel _ _ _ _ _ _ _ hc (Asm.of_chg (leave_chg hcd ds _ _ _ _ hl) ha)]
            exact leave_rel hcd hrel ds _ _ _ _ hl ha
          | pan c =>
            dsimp only at hl
            rw [hrel _ _ _ _ _ _ _ hc (Asm.of_chg (leave_chg hcd ds _ _ _ _ hl) ha)]
            exact leave_rel hcd hrel ds _ _ _ _ hl ha
      · cases hl

end

abbrev ExtF := Nat → Option (List Value → Heap → Option (Fin × Heap))

/-- A call, some functions not gone into. -/
noncomputable def callU (cx : Cx) (e : ExtF) : Nat → CallFn
  | 0, _, _, _ => none
  | n + 1, f, args, h => match e f with
    | some g => g args h
    | none => match cx.fn f with
      | none => none
      | some (fn, c) => match exec cx (callU cx e n) false n c ⟨argsT 0 args .nil, [], .run, h⟩ with
        | none => none
        | some (ex, st) => match ex with
          | .pan chain => leave cx (callD cx (callU cx e n) n) fn st.tm st.df (.panicking chain) st.h
          | .exit _ => none
          | _ => leave cx (callD cx (callU cx e n) n) fn st.tm st.df .returning st.h

theorem callU_chg {cx : Cx} {e : ExtF} (E : ∀ f g, e f = some g → ∀ args h r h', g args h = some (r, h') → Chg h h') : ∀ n, KeepsF (callU cx e n)
  | 0 => fun f args h r h' hc => by simp only [callU] at hc; cases hc
  | n + 1 => fun f args h r h' hc => by
    have K := callU_chg (cx := cx) E n
    simp only [callU] at hc
    split at hc
    · rename_i g hg
      exact E f g hg args h r h' hc
    · split at hc
      · cases hc
      · split at hc
        · cases hc
        · rename_i hex
          have h1 := exec_chg K _ _ _ _ _ hex
          have hcd : ∀ g args u h r u1 h1, callD cx (callU cx e n) n g args u h = some (r, u1, h1) → Chg h h1 := fun g args u h r u1 h1 hq => callD_chg K hq
          split at hc
          · exact h1.trans (leave_chg hcd _ _ _ _ _ hc)
          · cases hc
          · exact h1.trans (leave_chg hcd _ _ _ _ _ hc)

/-- Where what is noted holds, the calls come to the same. -/
theorem callU_rel {cx : Cx} {e : ExtF} (E : ∀ f g, e f = some g → ∀ args h r h', g args h = some (r, h') → Chg h h')
    (some_ok : ∀ f g, e f = some g → ∃ g', cx.ext f = some g' ∧ ∀ args h r h', g args h = some (r, h') → Asm h'.dt → g' args h = some (r, h'))
    (none_ok : ∀ f, e f = none → cx.ext f = none) : ∀ n, RelF (callU cx e n) (call cx n)
  | 0 => fun f args h r h' hc _ => by simp only [callU] at hc; cases hc
  | n + 1 => fun f args h r h' hc ha => by
    have K := callU_chg (cx := cx) E n
    have R := callU_rel E some_ok none_ok n
    simp only [callU] at hc
    simp only [call]
    cases he : e f with
    | some g =>
      rw [he] at hc
      obtain ⟨g', hg', hr⟩ := some_ok f g he
      rw [hg']
      exact hr args h r h' hc ha
    | none =>
      rw [he] at hc
      rw [none_ok f he]
      dsimp only at hc ⊢
      cases hf : cx.fn f with
      | none => rw [hf] at hc; cases hc
      | some x =>
        obtain ⟨fn, c⟩ := x
        rw [hf] at hc
        dsimp only at hc ⊢
        cases hex : exec cx (callU cx e n) false n c ⟨argsT 0 args .nil, [], .run, h⟩ with
        | none => rw [hex] at hc; cases hc
        | some p =>
          obtain ⟨ex, st⟩ := p
          rw [hex] at hc
          dsimp only at hc
          have hcd : ∀ g args u h r u1 h1, callD cx (callU cx e n) n g args u h = some (r, u1, h1) → Chg h h1 := fun g args u h r u1 h1 hq => callD_chg K hq
          have hrel : ∀ g args u h r u1 h1, callD cx (callU cx e n) n g args u h = some (r, u1, h1) → Asm h1.dt → callD cx (call cx n) n g args u h = some (r, u1, h1) := fun g args u h r u1 h1 hq => callD_rel K R hq
          cases ex with
          | pan chain =>
            dsimp only at hc
            rw [exec_rel K R n c _ _ st hex (Asm.of_chg (leave_chg hcd _ _ _ _ _ hc) ha)]
            exact leave_rel hcd hrel _ _ _ _ _ hc ha
          | exit id => cases hc
          | normal =>
            dsimp only at hc
            rw [exec_rel K R n c _ _ st hex (Asm.of_chg (leave_chg hcd _ _ _ _ _ hc) ha)]
            exact leave_rel hcd hrel _ _ _ _ _ hc ha
          | ret =>
            dsimp only at hc
            rw [exec_rel K R n c _ _ st hex (Asm.of_chg (leave_chg hcd _ _ _ _ _ hc) ha)]
            exact leave_rel hcd hrel _ _ _ _ _ hc ha

/-! ### The quick form -/
noncomputable def callHU1 (cx : Cx) (e : ExtF) (jt : Tr FT) (cf : CallFn) (n f : Nat) (args : List Value) (h : Heap) : Option (Fin × Heap) :=
  @Option.rec _ (fun _ => Option (Fin × Heap)) (@Option.rec _ (fun _ => Option (Fin × Heap)) none (callH2 cx cf (tabH jt f) n args h) (cx.fn f)) (fun g => g args h) (e f)
noncomputable def callHU (cx : Cx) (e : ExtF) (jt : Tr FT) : Nat → CallFn :=
  @Nat.rec (fun _ => CallFn) (fun _ _ _ => none) (fun n ih => callHU1 cx e jt ih n)

theorem callHU_eq {cx : Cx} {e : ExtF} {jt : Tr FT} (HJ : ∀ f R, jt.get f = some R → JOk cx f R) : ∀ (n f : Nat) (args : List Value) (h : Heap), callHU cx e jt n f args h = callU cx e n f args h := by
  intro n
  induction n with
  | zero => intro f args h; simp only [callU]; rfl
  | succ n ih =>
    intro f args h
    show callHU1 cx e jt (callHU cx e jt n) n f args h = _
    have ih' : callHU cx e jt n = callU cx e n := by funext f args h; exact ih f args h
    rw [ih']
    unfold callHU1
    simp only [callU]
    cases e f with
    | some g => rfl
    | none =>
      cases hx : cx.fn f with
      | none => rfl
      | some x =>
        obtain ⟨fn, c⟩ := x
        show callH2 cx (callU cx e n) (tabH jt f) n args h (fn, c) = _
        unfold callH2
        rw [execH_eq]
        · simp only [argsG_eq]
          cases exec cx (callU cx e n) false n c ⟨argsT 0 args .nil, [], .run, h⟩ with
          | none => rfl
          | some p =>
            obtain ⟨ex, s⟩ := p
            cases ex with
            | normal => exact leaveG_eq cx (callU cx e n) n fn s.tm s.h s.df
            | ret => exact leaveG_eq cx (callU cx e n) n fn s.tm s.h s.df
            | _ => rfl
        · intro p hp fast hl
          unfold tabH at hl
          cases hj : jt.get f with
          | none => rw [hj] at hl; cases hl
          | some Rt =>
            rw [hj] at hl
            obtain ⟨sup, x', hx', hR, hn⟩ := HJ f Rt hj
            rw [hx] at hx'
            cases hx'
            have hl' : lkF p.1 Rt = some fast := hl
            rw [hR] at hl'
            exact compT_ok hn p hp fast hl'

end Go.Em

/-
  A function's run along a way that is told ahead; what that way assumes is noted.
-/
namespace Go.Em

/-- What is told ahead: which way a test of a slot goes. -/
abbrev Way := Nat → Option Bool

noncomputable def getB (tm : Tr Value) (d : Nat) : Option Bool := @Option.rec Value (fun _ => Option Bool) none boolV (gV (pathOf d) tm)
theorem getB_ok {tm : Tr Value} {d : Nat} {b : Bool} (h : getB tm d = some b) : tm.get d = some (.bool b) := by
  unfold getB at h
  rw [gV_eq] at h
  cases ht : tm.get d with
  | none => rw [ht] at h; cases h
  | some v => rw [ht] at h; rw [boolV_eq h]
noncomputable def pickC (x : Bool) (a b : Code) : Code := @Bool.rec (fun _ => Code) b a x

section
variable (cx : Cx) (cf : CallFn) (A : Way)

/-- Is an operation wanted, and what that assumes? -/
noncomputable def wantA (all : List Oper) (tm : Tr Value) (o : Oper) : Option (Bool × List Bool) := match o.guard with
  | none => some (true, [])
  | some (j, want) => match guS all j with
    | none => none
    | some d => match A d with
      | some x => match getB tm d with
        | some b => some (eqB x want, [eqB b x])
        | none => none
      | none => match wantE all tm o with
        | some b => some (b, [])
        | none => none

/-- A choice's slot, if it is told which way it goes. -/
noncomputable def pkS : Op → Option (Nat × Bool × Operand × Operand)
  | .pick (.tmp t) a b => match A t with
    | some x => some (t, x, a, b)
    | none => none
  | _ => none

/-- An operation; a choice that is told goes that way. -/
noncomputable def opA (tm : Tr Value) (h : Heap) (o : Op) : Option (Out × Heap × List Bool) := match pkS A o with
  | some (t, x, a, b) => match getB tm t with
    | some y => match evG (@Bool.rec (fun _ => Operand) b a x) tm with
      | some v => some (.val v, h, [eqB y x])
      | none => none
    | none => none
  | none => match disp o cx cf tm h with
    | some (out, h) => some (out, h, [])
    | none => none

noncomputable def opsA (all : List Oper) : List Oper → St → Option (Ex × St × List Bool)
  | [], st => some (.normal, st, [])
  | o :: l, st => match wantA A all st.tm o with
    | none => none
    | some (false, bs) => match opsA all l { st with tm := putT st.tm o.dst undef } with
      | some (ex, st, bs') => some (ex, st, bs ++ bs')
      | none => none
    | some (true, bs) => match opA cx cf A st.tm st.h o.op with
      | some (.val v, h', b1) => match opsA all l { st with tm := putT st.tm o.dst v, h := h' } with
        | some (ex, st, bs') => some (ex, st, (bs ++ b1) ++ bs')
        | none => none
      | _ => none

noncomputable def execA : Nat → Code → St → Option (Ex × St × List Bool)
  | 0, _, _ => none
  | n + 1, c, st => match c with
    | .skip => some (.normal, st, [])
    | .label _ => some (.normal, st, [])
    | .region _ ops false => opsA cx cf A ops.toList ops.toList st
    | .region _ ops true => match drawG cx cf ops.toList st with
      | some (ex, st) => some (ex, st, [])
      | none => none
    | .seq a b => match execA n a st with
      | some (.normal, st, bs) => match execA n b st with
        | some (ex, st, bs') => some (ex, st, bs ++ bs')
        | none => none
      | r => r
    | .cond (.tmp t) a b => match A t with
      | some x => match getB st.tm t with
        | some y => match execA n (pickC x a b) st with
          | some (ex, st, bs) => some (ex, st, eqB y x :: bs)
          | none => none
        | none => none
      | none => match getB st.tm t with
        | some y => execA n (pickC y a b) st
        | none => none
    | .block id a => match execA n a st with
      | some (.exit id', st, bs) => match Nat.beq id' id with
        | true => some (.normal, st, bs)
        | false => some (.exit id', st, bs)
      | r => r
    | .loop a => match execA n a st with
      | some (.normal, st, bs) => match execA n (.loop a) st with
        | some (ex, st, bs') => some (ex, st, bs ++ bs')
        | none => none
      | r => r
    | .scope a => execA n a st
    | .exit id => some (.exit id, st, [])
    | .ret => some (.ret, st, [])
    | _ => none

def allT (bs : List Bool) : Prop := ∀ b ∈ bs, b = true
theorem allT.left {a b : List Bool} (h : allT (a ++ b)) : allT a := fun x hx => h x (List.mem_append.2 (.inl hx))
theorem allT.right {a b : List Bool} (h : allT (a ++ b)) : allT b := fun x hx => h x (List.mem_append.2 (.inr hx))

variable {cx cf A}

theorem wantA_ok {all : List Oper} {tm : Tr Value} {o : Oper} {b : Bool} {bs : List Bool} (h : wantA A all tm o = some (b, bs)) (ha : allT bs) : wantE all tm o = some b := by
  unfold wantA at h
  cases hg : o.guard with
  | none => rw [hg] at h; cases h; unfold wantE; rw [hg]
  | some p =>
    obtain ⟨j, want⟩ := p
    rw [hg] at h
    dsimp only at h
    cases hs : guS all j with
    | none => rw [hs] at h; cases h
    | some d =>
      rw [hs] at h
      dsimp only at h
      cases hA : A d with
      | none =>
        rw [hA] at h
        dsimp only at h
        cases hw : wantE all tm o with
        | none => rw [hw] at h; cases h
        | some b' => rw [hw] at h; cases h; rfl
      | some x =>
        rw [hA] at h
        dsimp only at h
        cases ht : getB tm d with
        | none => rw [ht] at h; cases h
        | some y =>
          rw [ht] at h
          cases h
          have hy : eqB y x = true := ha _ (by simp)
          have hyx : y = x := by rw [eqB_eq] at hy; simpa using hy
          rw [← wantG_eq]
          unfold wantG
          rw [hg]
          show wantF all tm j want = some (eqB x want)
          unfold wantF
          rw [hs]
          show @Option.rec Value (fun _ => Option Bool) none _ (gV (pathOf d) tm) = _
          rw [gV_eq, getB_ok ht]
          show some (eqB y want) = some (eqB x want)
          rw [hyx]

theorem pkS_inv {o : Op} {t : Nat} {x : Bool} {a b : Operand} (h : pkS A o = some (t, x, a, b)) : o = .pick (.tmp t) a b := by
  unfold pkS at h
  split at h
  · split at h
    · cases h; rfl
    · cases h
  · cases h
theorem opA_ok {tm : Tr Value} {h : Heap} {o : Op} {v : Value} {h' : Heap} {bs : List Bool} (ho : opA cx cf A tm h o = some (.val v, h', bs)) (ha : allT bs) : opE cx cf tm h o = some (.val v, h') := by
  unfold opA at ho
  cases hp : pkS A o with
  | none =>
    rw [hp] at ho
    dsimp only at ho
    rw [disp_eq] at ho
    cases hd : opE cx cf tm h o with
    | none => rw [hd] at ho; cases ho
    | some p => obtain ⟨out, h1⟩ := p; rw [hd] at ho; cases ho; rfl
  | some q =>
    obtain ⟨t, x, a, b⟩ := q
    have e := pkS_inv hp
    subst e
    rw [hp] at ho
    dsimp only at ho
    cases hy : getB tm t with
    | none => rw [hy] at ho; cases ho
    | some y =>
      rw [hy] at ho
      dsimp only at ho
      rw [evG_eq] at ho
      cases hv : ev tm (@Bool.rec (fun _ => Operand) b a x) with
      | none => rw [hv] at ho; cases ho
      | some w =>
        rw [hv] at ho
        cases ho
        have h1 : eqB y x = true := ha _ (by simp)
        have h2 : y = x := by rw [eqB_eq] at h1; simpa using h1
        subst h2
        have h3 : ev tm (.tmp t) = some (.bool y) := getB_ok hy
        simp only [opE, h3]
        cases y with
        | true => exact congrArg (fun o => val o h) hv
        | false => exact congrArg (fun o => val o h) hv
theorem opA_chg' {tm : Tr Value} {h : Heap} {o : Op} {v : Value} {h' : Heap} {bs : List Bool} (ho : opA cx cf A tm h o = some (.val v, h', bs)) : h' = h ∨ opE cx cf tm h o = some (.val v, h') := by
  unfold opA at ho
  cases hp : pkS A o with
  | none =>
    rw [hp] at ho
    dsimp only at ho
    rw [disp_eq] at ho
    cases hd : opE cx cf tm h o with
    | none => rw [hd] at ho; cases ho
    | some p => obtain ⟨out, h1⟩ := p; rw [hd] at ho; cases ho; exact .inr rfl
  | some q =>
    obtain ⟨t, x, a, b⟩ := q
    rw [hp] at ho
    dsimp only at ho
    cases hy : getB tm t with
    | none => rw [hy] at ho; cases ho
    | some y =>
      rw [hy] at ho
      dsimp only at ho
      cases hv : evG (@Bool.rec (fun _ => Operand) b a x) tm with
      | none => rw [hv] at ho; cases ho
      | some w => rw [hv] at ho; cases ho; exact .inl rfl

theorem opsA_ok {all : List Oper} : ∀ {l : List Oper} {st : St} {ex : Ex} {st' : St} {bs : List Bool}, opsA cx cf A all l st = some (ex, st', bs) → allT bs → opsE cx cf false all l st = some (ex, st')
  | [], st, ex, st', bs, h, _ => by
    simp only [opsA] at h
    cases h
    simp only [opsE]
  | o :: l, st, ex, st', bs, h, ha => by
    simp only [opsA] at h
    cases hw : wantA A all st.tm o with
    | none => rw [hw] at h; cases h
    | some p =>
      obtain ⟨b, b1⟩ := p
      rw [hw] at h
      cases b with
      | false =>
        dsimp only at h
        cases hr : opsA cx cf A all l { st with tm := putT st.tm o.dst undef } with
        | none => rw [hr] at h; cases h
        | some q =>
          obtain ⟨e2, s2, b2⟩ := q
          rw [hr] at h
          cases h
          simp only [opsE, wantA_ok hw ha.left]
          exact opsA_ok hr ha.right
      | true =>
        dsimp only at h
        cases ho : opA cx cf A st.tm st.h o.op with
        | none => rw [ho] at h; cases h
        | some q =>
          obtain ⟨out, h1, b3⟩ := q
          rw [ho] at h
          cases out with
          | pan c => cases h
          | dfr d => cases h
          | rcv => cases h
          | val v =>
          dsimp only at h
          cases hr : opsA cx cf A all l { st with tm := putT st.tm o.dst v, h := h1 } with
          | none => rw [hr] at h; cases h
          | some q =>
            obtain ⟨e2, s2, b2⟩ := q
            rw [hr] at h
            cases h
            simp only [opsE, wantA_ok hw ha.left.left, opA_ok ho ha.left.right]
            exact opsA_ok hr ha.right

theorem seqA {n : Nat} {a b : Code} {st : St} {ex : Ex} {st' : St} {bs : List Bool} (h : (match execA cx cf A n a st with
      | some (.normal, st, bs) => match execA cx cf A n b st with
        | some (ex, st, bs') => some (ex, st, bs ++ bs')
        | none => none
      | r => r) = some (ex, st', bs)) :
    (∃ s1 b1 b2, execA cx cf A n a st = some (.normal, s1, b1) ∧ execA cx cf A n b s1 = some (ex, st', b2) ∧ bs = b1 ++ b2) ∨ (execA cx cf A n a st = some (ex, st', bs) ∧ ex ≠ .normal) := by
  cases h1 : execA cx cf A n a st with
  | none => rw [h1] at h; cases h
  | some p =>
    obtain ⟨e, s, b1⟩ := p
    rw [h1] at h
    cases e with
    | normal =>
      dsimp only at h
      cases h2 : execA cx cf A n b s with
      | none => rw [h2] at h; cases h
      | some q =>
        obtain ⟨e2, s2, b2⟩ := q
        rw [h2] at h
        cases h
        exact .inl ⟨s, b1, b2, rfl, h2, rfl⟩
    | _ => cases h; exact .inr ⟨rfl, by intro e; cases e⟩

theorem execA_ok : ∀ (n : Nat) (c : Code) (st : St) (ex : Ex) (st' : St) (bs : List Bool), execA cx cf A n c st = some (ex, st', bs) → allT bs → exec cx cf false n c st = some (ex, st') := by
  intro n
  induction n with
  | zero => intro c st ex st' bs h; simp only [execA] at h; cases h
  | succ n ih =>
    intro c st ex st' bs h ha
    cases c with
    | region id ops draw =>
      cases draw with
      | false => simp only [execA] at h; simp only [exec]; exact opsA_ok h ha
      | true =>
        simp only [execA, drawG_eq] at h
        simp only [exec]
        cases hd : drawE cx cf ops.toList st with
        | none => rw [hd] at h; cases h
        | some p => obtain ⟨e, s⟩ := p; rw [hd] at h; cases h; rfl
    | seq a b =>
      simp only [execA] at h
      simp only [exec]
      rcases seqA h with ⟨s1, b1, b2, h1, h2, rfl⟩ | ⟨h1, hn⟩
      · rw [ih a st _ _ _ h1 ha.left]; exact ih b s1 _ _ _ h2 ha.right
      · rw [ih a st _ _ _ h1 ha]; cases ex <;> first | rfl | exact absurd rfl hn
    | loop a =>
      simp only [execA] at h
      simp only [exec]
      rcases seqA h with ⟨s1, b1, b2, h1, h2, rfl⟩ | ⟨h1, hn⟩
      · rw [ih a st _ _ _ h1 ha.left]; exact ih (.loop a) s1 _ _ _ h2 ha.right
      · rw [ih a st _ _ _ h1 ha]; cases ex <;> first | rfl | exact absurd rfl hn
    | cond c a b =>
      cases c with
      | tmp t =>
        simp only [execA] at h
        simp only [exec, ev]
        cases hA : A t with
        | none =>
          rw [hA] at h
          dsimp only at h
          cases ht : getB st.tm t with
          | none => rw [ht] at h; cases h
          | some y =>
            rw [ht] at h
            rw [getB_ok ht]
            cases y with
            | true => exact ih a st _ _ _ h ha
            | false => exact ih b st _ _ _ h ha
        | some x =>
          rw [hA] at h
          dsimp only at h
          cases ht : getB st.tm t with
          | none => rw [ht] at h; cases h
          | some y =>
            rw [ht] at h
            rw [getB_ok ht]
            dsimp only at h
            cases hr : execA cx cf A n (pickC x a b) st with
            | none => rw [hr] at h; cases h
            | some q =>
              obtain ⟨e2, s2, b2⟩ := q
              rw [hr] at h
              cases h
              have hy : eqB y x = true := ha _ (by simp)
              have hyx : y = x := by rw [eqB_eq] at hy; simpa using hy
              have ha2 : allT b2 := fun z hz => ha z (by simp [hz])
              subst hyx
              have := ih _ st _ _ _ hr ha2
              cases y <;> exact this
      | _ => simp only [execA] at h; cases h
    | block id a =>
      simp only [execA] at h
      simp only [exec]
      cases h1 : execA cx cf A n a st with
      | none => rw [h1] at h; cases h
      | some p =>
        obtain ⟨e, s, b1⟩ := p
        rw [h1] at h
        cases e with
        | exit id' =>
          dsimp only at h
          cases hb : Nat.beq id' id with
          | true =>
            rw [hb] at h; cases h
            rw [ih a st _ _ _ h1 ha]
            dsimp only
            rw [hb]
          | false =>
            rw [hb] at h; cases h
            rw [ih a st _ _ _ h1 ha]
            dsimp only
            rw [hb]
        | _ => cases h; rw [ih a st _ _ _ h1 ha]
    | scope a => simp only [execA] at h; simp only [exec]; exact ih a st _ _ _ h ha
    | skip => simp only [execA] at h; cases h; simp only [exec]
    | label l => simp only [execA] at h; cases h; simp only [exec]
    | exit id => simp only [execA] at h; cases h; simp only [exec]
    | ret => simp only [execA] at h; cases h; simp only [exec]
    | _ => simp only [execA] at h; cases h
end
end Go.Em

/-
  Functions run along a way that is told ahead, as outside functions of a call.
-/
namespace Go.Em

section
variable {cx : Cx} {cf : CallFn} {A : Way}

theorem opA_chg (K : KeepsF cf) {tm : Tr Value} {h : Heap} {o : Op} {v : Value} {h' : Heap} {bs : List Bool} (ho : opA cx cf A tm h o = some (.val v, h', bs)) : Chg h h' := by
  rcases opA_chg' ho with rfl | h1
  · exact .refl _
  · exact opE_chg K h1

theorem opsA_chg (K : KeepsF cf) {all : List Oper} : ∀ {l : List Oper} {st : St} {ex : Ex} {st' : St} {bs : List Bool}, opsA cx cf A all l st = some (ex, st', bs) → Chg st.h st'.h
  | [], st, ex, st', bs, h => by
    simp only [opsA] at h
    cases h
    exact .refl _
  | o :: l, st, ex, st', bs, h => by
    simp only [opsA] at h
    cases hw : wantA A all st.tm o with
    | none => rw [hw] at h; cases h
    | some p =>
      obtain ⟨b, b1⟩ := p
      rw [hw] at h
      cases b with
      | false =>
        dsimp only at h
        cases hr : opsA cx cf A all l { st with tm := putT st.tm o.dst undef } with
        | none => rw [hr] at h; cases h
        | some q =>
          obtain ⟨e2, s2, b2⟩ := q
          rw [hr] at h
          cases h
          have c2 := opsA_chg K hr
          exact c2
      | true =>
        dsimp only at h
        cases ho : opA cx cf A st.tm st.h o.op with
        | none => rw [ho] at h; cases h
        | some q =>
          obtain ⟨out, h1, b3⟩ := q
          rw [ho] at h
          cases out with
          | pan c => cases h
          | dfr d => cases h
          | rcv => cases h
          | val v =>
          dsimp only at h
          cases hr : opsA cx cf A all l { st with tm := putT st.tm o.dst v, h := h1 } with
          | none => rw [hr] at h; cases h
          | some q =>
            obtain ⟨e2, s2, b2⟩ := q
            rw [hr] at h
            cases h
            have c2 := opsA_chg K hr
            exact (opA_chg K ho).trans c2

theorem execA_chg (K : KeepsF cf) : ∀ (n : Nat) (c : Code) (st : St) (ex : Ex) (st' : St) (bs : List Bool), execA cx cf A n c st = some (ex, st', bs) → Chg st.h st'.h := by
  intro n
  induction n with
  | zero => intro c st ex st' bs h; simp only [execA] at h; cases h
  | succ n ih =>
    intro c st ex st' bs h
    cases c with
    | region id ops draw =>
      cases draw with
      | false => simp only [execA] at h; exact opsA_chg K h
      | true =>
        simp only [execA, drawG_eq] at h
        cases hd : drawE cx cf ops.toList st with
        | none => rw [hd] at h; cases h
        | some p => obtain ⟨e, s⟩ := p; rw [hd] at h; cases h; exact drawE_chg K hd
    | seq a b =>
      simp only [execA] at h
      rcases seqA h with ⟨s1, b1, b2, h1, h2, rfl⟩ | ⟨h1, hn⟩
      · exact (ih a st _ _ _ h1).trans (ih b s1 _ _ _ h2)
      · exact ih a st _ _ _ h1
    | loop a =>
      simp only [execA] at h
      rcases seqA h with ⟨s1, b1, b2, h1, h2, rfl⟩ | ⟨h1, hn⟩
      · exact (ih a st _ _ _ h1).trans (ih (.loop a) s1 _ _ _ h2)
      · exact ih a st _ _ _ h1
    | cond c a b =>
      cases c with
      | tmp t =>
        simp only [execA] at h
        cases hA : A t with
        | none =>
          rw [hA] at h
          dsimp only at h
          cases ht : getB st.tm t with
          | none => rw [ht] at h; cases h
          | some y => rw [ht] at h; exact ih _ st _ _ _ h
        | some x =>
          rw [hA] at h
          dsimp only at h
          cases ht : getB st.tm t with
          | none => rw [ht] at h; cases h
          | some y =>
            rw [ht] at h
            dsimp only at h
            cases hr : execA cx cf A n (pickC x a b) st with
            | none => rw [hr] at h; cases h
            | some q =>
              obtain ⟨e2, s2, b2⟩ := q
              rw [hr] at h
              cases h
              exact ih _ st _ _ _ hr
      | _ => simp only [execA] at h; cases h
    | block id a =>
      simp only [execA] at h
      cases h1 : execA cx cf A n a st with
      | none => rw [h1] at h; cases h
      | some p =>
        obtain ⟨e, s, b1⟩ := p
        rw [h1] at h
        have := ih a st _ _ _ h1
        cases e with
        | exit id' =>
          dsimp only at h
          cases hb : Nat.beq id' id with
          | true => rw [hb] at h; cases h; exact this
          | false => rw [hb] at h; cases h; exact this
        | _ => cases h; exact this
    | scope a => simp only [execA] at h; exact ih a st _ _ _ h
    | skip => simp only [execA] at h; cases h; exact .refl _
    | label l => simp only [execA] at h; cases h; exact .refl _
    | exit id => simp only [execA] at h; cases h; exact .refl _
    | ret => simp only [execA] at h; cases h; exact .refl _
    | _ => simp only [execA] at h; cases h
end

section
variable {cx : Cx} {U S : CallFn} {A : Way}

theorem opA_rel (R : RelF U S) {tm : Tr Value} {h : Heap} {o : Op} {out : Out} {h' : Heap} {bs : List Bool} (ho : opA cx U A tm h o = some (out, h', bs)) (ha : Asm h'.dt) : opA cx S A tm h o = some (out, h', bs) := by
  unfold opA at ho ⊢
  cases hp : pkS A o with
  | some q => rw [hp] at ho; exact ho
  | none =>
    rw [hp] at ho
    dsimp only at ho ⊢
    rw [disp_eq] at ho ⊢
    cases hd : opE cx U tm h o with
    | none => rw [hd] at ho; cases ho
    | some p =>
      obtain ⟨out1, h1⟩ := p
      rw [hd] at ho
      cases ho
      rw [opE_rel R hd ha]

theorem opsA_rel (K : KeepsF U) (R : RelF U S) {all : List Oper} : ∀ {l : List Oper} {st : St} {ex : Ex} {st' : St} {bs : List Bool}, opsA cx U A all l st = some (ex, st', bs) → Asm st'.h.dt → opsA cx S A all l st = some (ex, st', bs)
  | [], st, ex, st', bs, h, _ => by simpa only [opsA] using h
  | o :: l, st, ex, st', bs, h, ha => by
    simp only [opsA] at h ⊢
    cases hw : wantA A all st.tm o with
    | none => rw [hw] at h; cases h
    | some p =>
      obtain ⟨b, b1⟩ := p
      rw [hw] at h
      cases b with
      | false =>
        dsimp only at h ⊢
        cases hr : opsA cx U A all l { st with tm := putT st.tm o.dst undef } with
        | none => rw [hr] at h; cases h
        | some q =>
          obtain ⟨e2, s2, b2⟩ := q
          rw [hr] at h
          cases h
          rw [opsA_rel K R hr ha]
      | true =>
        dsimp only at h ⊢
        cases ho : opA cx U A st.tm st.h o.op with
        | none => rw [ho] at h; cases h
        | some q =>
          obtain ⟨out, h1, b3⟩ := q
          rw [ho] at h
          cases out with
          | pan c => cases h
          | dfr d => cases h
          | rcv => cases h
          | val v =>
          dsimp only at h
          cases hr : opsA cx U A all l { st with tm := putT st.tm o.dst v, h := h1 } with
          | none => rw [hr] at h; cases h
          | some q =>
            obtain ⟨e2, s2, b2⟩ := q
            rw [hr] at h
            cases h
            have c2 := opsA_chg K hr
            rw [opA_rel R ho (Asm.of_chg c2 ha)]
            dsimp only
            rw [opsA_rel K R hr ha]

theorem execA_rel (K : KeepsF U) (R : RelF U S) : ∀ (n : Nat) (c : Code) (st : St) (ex : Ex) (st' : St) (bs : List Bool), execA cx U A n c st = some (ex, st', bs) → Asm st'.h.dt → execA cx S A n c st = some (ex, st', bs) := by
  intro n
  induction n with
  | zero => intro c st ex st' bs h; simp only [execA] at h; cases h
  | succ n ih =>
    intro c st ex st' bs h ha
    have seq2 : ∀ (a b : Code), (match execA cx U A n a st with
        | some (.normal, st, bs) => match execA cx U A n b st with
          | some (ex, st, bs') => some (ex, st, bs ++ bs')
          | none => none
        | r => r) = some (ex, st', bs) → (match execA cx S A n a st with
        | some (.normal, st, bs) => match execA cx S A n b st with
          | some (ex, st, bs') => some (ex, st, bs ++ bs')
          | none => none
        | r => r) = some (ex, st', bs) := by
      intro a b h
      rcases seqA h with ⟨s1, b1, b2, h1, h2, rfl⟩ | ⟨h1, hn⟩
      · rw [ih a st _ _ _ h1 (Asm.of_chg (execA_chg K n b s1 _ _ _ h2) ha)]
        dsimp only
        rw [ih b s1 _ _ _ h2 ha]
      · rw [ih a st _ _ _ h1 ha]
        cases ex <;> first | rfl | exact absurd rfl hn
    cases c with
    | region id ops draw =>
      cases draw with
      | false => simp only [execA] at h ⊢; exact opsA_rel K R h ha
      | true =>
        simp only [execA, drawG_eq] at h ⊢
        cases hd : drawE cx U ops.toList st with
        | none => rw [hd] at h; cases h
        | some p => obtain ⟨e, s⟩ := p; rw [hd] at h; cases h; rw [drawE_rel R hd ha]
    | seq a b => simp only [execA] at h ⊢; exact seq2 a b h
    | loop a => simp only [execA] at h ⊢; exact seq2 a (.loop a) h
    | cond c a b =>
      cases c with
      | tmp t =>
        simp only [execA] at h ⊢
        cases hA : A t with
        | none =>
          rw [hA] at h
          dsimp only at h ⊢
          cases ht : getB st.tm t with
          | none => rw [ht] at h; cases h
          | some y => rw [ht] at h; exact ih _ st _ _ _ h ha
        | some x =>
          rw [hA] at h
          dsimp only at h ⊢
          cases ht : getB st.tm t with
          | none => rw [ht] at h; cases h
          | some y =>
            rw [ht] at h
            dsimp only at h ⊢
            cases hr : execA cx U A n (pickC x a b) st with
            | none => rw [hr] at h; cases h
            | some q =>
              obtain ⟨e2, s2, b2⟩ := q
              rw [hr] at h
              cases h
              rw [ih _ st _ _ _ hr ha]
      | _ => simp only [execA] at h; cases h
    | block id a =>
      simp only [execA] at h ⊢
      cases h1 : execA cx U A n a st with
      | none => rw [h1] at h; cases h
      | some p =>
        obtain ⟨e, s, b1⟩ := p
        rw [h1] at h
        have hh : s = st' := by
          cases e <;> first | (cases h; rfl) | (dsimp only at h; split at h <;> (cases h; rfl))
        subst hh
        rw [ih a st _ _ _ h1 ha]
        exact h
    | scope a => simp only [execA] at h ⊢; exact ih a st _ _ _ h ha
    | skip => simp only [execA] at h ⊢; exact h
    | label l => simp only [execA] at h ⊢; exact h
    | exit id => simp only [execA] at h ⊢; exact h
    | ret => simp only [execA] at h ⊢; exact h
    | _ => simp only [execA] at h; cases h
end

/-- Notes what was assumed. -/
noncomputable def logH (bs : List Bool) (h : Heap) : Heap := ⟨h.tr, h.nx, bs.map asmP ++ h.dt⟩
noncomputable def allB : List Bool → Bool
  | [] => true
  | b :: l => and b (allB l)
theorem allB_iff : ∀ {bs : List Bool}, allB bs = true ↔ allT bs
  | [] => by simp [allB, allT]
  | b :: l => by
    have ih := allB_iff (bs := l)
    simp only [allB, allT, List.mem_cons, forall_eq_or_imp] at ih ⊢
    rw [Bool.and_eq_true, ih]
theorem asm_log {bs : List Bool} {h : Heap} (a : Asm (logH bs h).dt) : allT bs := by
  intro b hb
  have := a (asmP b) (List.mem_append.2 (.inl (List.mem_map.2 ⟨b, hb, rfl⟩))) rfl
  cases b with
  | true => rfl
  | false => cases this
theorem chg_log (bs : List Bool) {h h1 : Heap} (c : Chg h h1) : Chg h (logH bs h1) := by
  obtain ⟨n, o, ws, e, ag⟩ := c
  refine ⟨n, o, bs.map asmP ++ ws, by simp [logH, e], fun t ht => ?_⟩
  rw [hits_append, Bool.or_eq_false_iff] at ht
  exact ag t ht.2

/-- How such a function's run ends. -/
noncomputable def finA (cx : Cx) (fn : Func) (r : Option (Ex × St × List Bool)) : Option (Value × List Bool × Heap) := match r with
  | some (ex, st, bs) => match ex, st.df with
    | .normal, [] => match resE cx st.tm st.h fn.results.toList with
      | some vs => some (one vs, bs, st.h)
      | none => none
    | .ret, [] => match resE cx st.tm st.h fn.results.toList with
      | some vs => some (one vs, bs, st.h)
      | none => none
    | _, _ => none
  | none => none

section
variable (cx : Cx) (N : Nat) (A : Way) (x : Func × Code)
noncomputable def runA' (cf : CallFn) (args : List Value) (h : Heap) : Option (Value × List Bool × Heap) := finA cx x.1 (execA cx cf A N x.2 ⟨argsT 0 args .nil, [], .run, h⟩)
/-- Goes the way that is told, and notes what it assumes. -/
noncomputable def gU (cf : CallFn) (args : List Value) (h : Heap) : Option (Fin × Heap) := match runA' cx N A x cf args h with
  | some (v, bs, h1) => some (.ret v, logH bs h1)
  | none => none
/-- Goes the way that is told only if it is the right one. -/
noncomputable def gS (cf : CallFn) (args : List Value) (h : Heap) : Option (Fin × Heap) := match runA' cx N A x cf args h with
  | some (v, bs, h1) => match allB bs with
    | true => some (.ret v, logH bs h1)
    | false => none
  | none => none
variable {cx N A x}

theorem runA_inv {cf : CallFn} {args : List Value} {h : Heap} {v : Value} {bs : List Bool} {h1 : Heap} (hr : runA' cx N A x cf args h = some (v, bs, h1)) :
    ∃ ex st vs, execA cx cf A N x.2 ⟨argsT 0 args .nil, [], .run, h⟩ = some (ex, st, bs) ∧ (ex = .normal ∨ ex = .ret) ∧ st.df = [] ∧ resE cx st.tm st.h x.1.results.toList = some vs ∧ v = one vs ∧ h1 = st.h := by
  unfold runA' finA at hr
  cases he : execA cx cf A N x.2 ⟨argsT 0 args .nil, [], .run, h⟩ with
  | none => rw [he] at hr; cases hr
  | some p =>
    obtain ⟨ex, st, b⟩ := p
    rw [he] at hr
    dsimp only at hr
    cases hd : st.df with
    | cons d l => rw [hd] at hr; cases ex <;> cases hr
    | nil =>
      rw [hd] at hr
      cases hv : resE cx st.tm st.h x.1.results.toList with
      | none => rw [hv] at hr; cases ex <;> cases hr
      | some vs =>
        rw [hv] at hr
        cases ex with
        | normal => cases hr; exact ⟨.normal, st, vs, rfl, .inl rfl, hd, hv, rfl, rfl⟩
        | ret => cases hr; exact ⟨.ret, st, vs, rfl, .inr rfl, hd, hv, rfl, rfl⟩
        | _ => cases hr

theorem gU_chg {cf : CallFn} (K : KeepsF cf) {args : List Value} {h : Heap} {r : Fin} {h' : Heap} (hr : gU cx N A x cf args h = some (r, h')) : Chg h h' := by
  unfold gU at hr
  cases he : runA' cx N A x cf args h with
  | none => rw [he] at hr; cases hr
  | some p =>
    obtain ⟨v, bs, h1⟩ := p
    rw [he] at hr
    cases hr
    obtain ⟨ex, st, vs, hx, _, _, _, _, rfl⟩ := runA_inv he
    exact chg_log bs (execA_chg K N x.2 _ _ _ _ hx)

theorem gS_chg {cf : CallFn} (K : KeepsF cf) {args : List Value} {h : Heap} {r : Fin} {h' : Heap} (hr : gS cx N A x cf args h = some (r, h')) : Chg h h' := by
  unfold gS at hr
  cases he : runA' cx N A x cf args h with
  | none => rw [he] at hr; cases hr
  | some p =>
    obtain ⟨v, bs, h1⟩ := p
    rw [he] at hr
    dsimp only at hr
    cases hb : allB bs with
    | false => rw [hb] at hr; cases hr
    | true =>
      rw [hb] at hr
      cases hr
      obtain ⟨ex, st, vs, hx, _, _, _, _, rfl⟩ := runA_inv he
      exact chg_log bs (execA_chg K N x.2 _ _ _ _ hx)

theorem gU_rel {U S : CallFn} (K : KeepsF U) (R : RelF U S) {args : List Value} {h : Heap} {r : Fin} {h' : Heap} (hr : gU cx N A x U args h = some (r, h')) (ha : Asm h'.dt) : gS cx N A x S args h = some (r, h') := by
  unfold gU at hr
  unfold gS
  cases he : runA' cx N A x U args h with
  | none => rw [he] at hr; cases hr
  | some p =>
    obtain ⟨v, bs, h1⟩ := p
    rw [he] at hr
    cases hr
    obtain ⟨ex, st, vs, hx, h2, h3, h4, rfl, rfl⟩ := runA_inv he
    have e2 := execA_rel K R N x.2 _ _ _ _ hx (Asm.right ha)
    have e3 : runA' cx N A x S args h = some (one vs, bs, st.h) := by
      unfold runA' finA
      rw [e2]
      rcases h2 with rfl | rfl
      · simp only [h3, h4]
      · simp only [h3, h4]
    rw [e3]
    dsimp only
    rw [allB_iff.2 (asm_log ha)]

theorem CallR_dt {f : Nat} {args : List Value} {h : Heap} {r : Fin} {h1 h2 : Heap} (c : CallR cx f args h r h1) (e1 : h2.tr = h1.tr) (e2 : h2.nx = h1.nx) : CallR cx f args h r h2 := by
  refine ⟨c.1, fun m w args' S hA => (c.2 m w args' S hA).mono ?_⟩
  rintro e w' ⟨m', S', P', F⟩
  have hg : ∀ i, h2.get i = h1.get i := fun i => by unfold Heap.get; rw [e1]
  refine ⟨m', ⟨fun i hi => S'.fresh i (by rw [← e2]; exact hi), fun i o hi => S'.live i o (by rw [← hg]; exact hi), fun i j oi oj pi pj hi hj => S'.inj i j oi oj pi pj (by rw [← hg]; exact hi) (by rw [← hg]; exact hj)⟩, ?_, F⟩
  refine P'.sub (fun i o hi => by rw [← hg]; exact hi) (by rw [e2]; exact Nat.le_refl _)

/-- What the right way comes to is the call. -/
theorem gS_ok (O : Ok cx ∧ Bd cx) (E : ExtOk cx ∧ ExtChg cx) {f : Nat} (hf : cx.fn f = some x) (he : cx.ext f = none) {args : List Value} {h : Heap} {r : Fin} {h' : Heap}
    (hr : gS cx N A x (call cx N) args h = some (r, h')) : CallR cx f args h r h' := by
  unfold gS at hr
  cases hx : runA' cx N A x (call cx N) args h with
  | none => rw [hx] at hr; cases hr
  | some p =>
    obtain ⟨v, bs, h1⟩ := p
    rw [hx] at hr
    dsimp only at hr
    cases hb : allB bs with
    | false => rw [hb] at hr; cases hr
    | true =>
      rw [hb] at hr
      cases hr
      obtain ⟨ex, st, vs, hex, hn, hd, hv, rfl, rfl⟩ := runA_inv hx
      have h2 := execA_ok N x.2 _ _ _ _ hex (allB_iff.1 hb)
      have h3 : call cx (N + 1) f args h = some (.ret (one vs), st.h) := by
        simp only [call, he, hf, h2]
        rcases hn with rfl | rfl
        · simp only [hd, leave, hv]
        · simp only [hd, leave, hv]
      exact CallR_dt (call_sound O.1 O.2 E.1 E.2 (N + 1) f args h _ _ h3) rfl rfl
/-- A truth value is told ahead. -/
noncomputable def rU (x : Bool) (cf : CallFn) (f : Nat) (args : List Value) (h : Heap) : Option (Fin × Heap) := match cf f args h with
  | some (.ret v, h1) => match boolV v with
    | some y => some (.ret (.bool x), logH [eqB y x] h1)
    | none => none
  | _ => none
noncomputable def rS (x : Bool) (cf : CallFn) (f : Nat) (args : List Value) (h : Heap) : Option (Fin × Heap) := match cf f args h with
  | some (.ret v, h1) => match boolV v with
    | some y => match eqB y x with
      | true => some (.ret (.bool x), logH [eqB y x] h1)
      | false => none
    | none => none
  | _ => none
theorem rU_inv {x : Bool} {cf : CallFn} {f : Nat} {args : List Value} {h : Heap} {r : Fin} {h' : Heap} (hr : rU x cf f args h = some (r, h')) : ∃ y h1, cf f args h = some (.ret (.bool y), h1) ∧ r = .ret (.bool x) ∧ h' = logH [eqB y x] h1 := by
  unfold rU at hr
  cases hc : cf f args h with
  | none => rw [hc] at hr; cases hr
  | some p =>
    obtain ⟨g, h1⟩ := p
    rw [hc] at hr
    cases g with
    | pan c => cases hr
    | ret v =>
      dsimp only at hr
      cases hb : boolV v with
      | none => rw [hb] at hr; cases hr
      | some y =>
        rw [hb] at hr
        cases hr
        rw [boolV_eq hb]
        exact ⟨y, h1, rfl, rfl, rfl⟩
theorem rU_rel {x : Bool} {U S : CallFn} (R : RelF U S) {f : Nat} {args : List Value} {h : Heap} {r : Fin} {h' : Heap} (hr : rU x U f args h = some (r, h')) (ha : Asm h'.dt) : rS x S f args h = some (r, h') := by
  obtain ⟨y, h1, hc, rfl, rfl⟩ := rU_inv hr
  have hy : eqB y x = true := asm_log ha _ (by simp)
  unfold rS
  rw [R _ _ _ _ _ hc (Asm.right ha)]
  show (match eqB y x with
    | true => some (Fin.ret (.bool x), logH [eqB y x] h1)
    | false => none) = _
  rw [hy]
theorem rU_chg {x : Bool} {cf : CallFn} (K : KeepsF cf) {f : Nat} {args : List Value} {h : Heap} {r : Fin} {h' : Heap} (hr : rU x cf f args h = some (r, h')) : Chg h h' := by
  obtain ⟨y, h1, hc, rfl, rfl⟩ := rU_inv hr
  exact chg_log _ (K _ _ _ _ _ hc)
theorem rS_inv {x : Bool} {cf : CallFn} {f : Nat} {args : List Value} {h : Heap} {r : Fin} {h' : Heap} (hr : rS x cf f args h = some (r, h')) : ∃ h1, cf f args h = some (.ret (.bool x), h1) ∧ r = .ret (.bool x) ∧ h'.tr = h1.tr ∧ h'.nx = h1.nx ∧ ∃ bs, h' = logH bs h1 := by
  unfold rS at hr
  cases hc : cf f args h with
  | none => rw [hc] at hr; cases hr
  | some p =>
    obtain ⟨g, h1⟩ := p
    rw [hc] at hr
    cases g with
    | pan c => cases hr
    | ret v =>
      dsimp only at hr
      cases hb : boolV v with
      | none => rw [hb] at hr; cases hr
      | some y =>
        rw [hb] at hr
        dsimp only at hr
        cases he : eqB y x with
        | false => rw [he] at hr; cases hr
        | true =>
          rw [he] at hr
          cases hr
          have : y = x := by rw [eqB_eq] at he; simpa using he
          subst this
          rw [boolV_eq hb]
          exact ⟨h1, rfl, rfl, rfl, rfl, _, rfl⟩
theorem rS_ok (O : Ok cx ∧ Bd cx) (E : ExtOk cx ∧ ExtChg cx) {f : Nat} {y : Bool} {args : List Value} {h : Heap} {r : Fin} {h' : Heap} (hr : rS y (call cx N) f args h = some (r, h')) : CallR cx f args h r h' := by
  obtain ⟨h1, hc, rfl, e1, e2, _⟩ := rS_inv hr
  exact CallR_dt (call_sound O.1 O.2 E.1 E.2 N f args h _ _ hc) e1 e2
theorem rS_chg {x : Bool} {cf : CallFn} (K : KeepsF cf) {f : Nat} {args : List Value} {h : Heap} {r : Fin} {h' : Heap} (hr : rS x cf f args h = some (r, h')) : Chg h h' := by
  obtain ⟨h1, hc, rfl, _, _, bs, rfl⟩ := rS_inv hr
  exact chg_log _ (K _ _ _ _ _ hc)
end
end Go.Em

/-
  Memory behind a call, told in the form of the memory ahead of it: the same blocks, other integers and truth values.
-/
namespace Go.Em

/-- A value without its integers and truth values. -/
def SkV : Value → Value → Prop
  | .int k _, .int k' _ => k = k'
  | .bool _, .bool _ => True
  | v, u => v = u

inductive SkL : List Value → List Value → Prop
  | nil : SkL [] []
  | cons {v u : Value} {l l' : List Value} : SkV v u → SkL l l' → SkL (v :: l) (u :: l')

/-- Of two values that are alike but for their integers, if one is known in a smaller map, the other one is. -/
theorem V.sk {m0 m' : Pm} (hm : m0.Le m') {u y v x : Value} (hs : SkV v u) (h0 : V m0 u y) (h1 : V m' v x) : V m0 v x := by
  have same : ∀ {u y x : Value}, V m0 u y → V m' u x → V m0 u x := by
    intro u y x h0
    induction h0 generalizing x with
    | flat hf => intro h1; rw [flat_inv hf h1]; exact .flat hf
    | ptr hp =>
      intro h1
      obtain ⟨p, h2, _, rfl⟩ := ptr_inv h1
      have e := hm _ _ hp
      rw [e] at h2; cases h2
      exact .ptr hp
    | sl hp hc =>
      intro h1
      cases h1 with
      | flat hf => cases hf
      | sl h2 _ => have e := hm _ _ hp; rw [e] at h2; cases h2; exact .sl hp hc
      | slu h2 _ => exact absurd rfl hc
    | slu hp hc =>
      intro h1
      cases h1 with
      | flat hf => cases hf
      | sl h2 h3 => exact absurd rfl h3
      | slu h2 _ => have e := hm _ _ hp; rw [e] at h2; cases h2; exact .slu hp hc
    | map hp =>
      intro h1
      cases h1 with
      | flat hf => cases hf
      | map h2 => have e := hm _ _ hp; rw [e] at h2; cases h2; exact .map hp
    | chan hp =>
      intro h1
      cases h1 with
      | flat hf => cases hf
      | chan h2 => have e := hm _ _ hp; rw [e] at h2; cases h2; exact .chan hp
    | func a1 a2 _ _ i1 i2 =>
      intro h1
      cases h1 with
      | flat hf => cases hf
      | func b1 b2 b3 b4 => exact .func b1 b2 (fun i hi => i1 i hi (b3 i hi)) (fun i hi => i2 i hi (b4 i hi))
    | iface _ ih =>
      intro h1
      cases h1 with
      | flat hf => cases hf
      | iface h2 => exact .iface (ih h2)
    | agg a1 _ ih =>
      intro h1
      cases h1 with
      | flat hf => cases hf
      | agg b1 b2 => exact .agg b1 (fun i hi => ih i hi (b2 i hi))
    | tuple a1 _ ih =>
      intro h1
      cases h1 with
      | flat hf => cases hf
      | tuple b1 b2 => exact .tuple b1 (fun i hi => ih i hi (b2 i hi))
  unfold SkV at hs
  split at hs
  · rw [int_inv h1]; exact V.int _ _ _
  · rw [bool_inv h1]; exact V.bool _ _
  · subst hs; exact same h0 h1

/-- Entries of maps. -/
inductive SkE : List MapEntry → List MapEntry → Prop
  | nil : SkE [] []
  | cons {k k' v v' : Value} {b : Nat} {l l' : List MapEntry} : SkV k k' → SkV v v' → SkE l l' → SkE (⟨k, v, b⟩ :: l) (⟨k', v', b⟩ :: l')

/-- Two blocks that are alike but for integers and truth values. -/
inductive SkO : Obj → Obj → Prop
  | row {size : Nat} {base base' : Nat → Value} {tr tr' : Tr Value} {elem esz : Nat} {ro : Bool} : (∀ j, j < size → SkV (rowAt base tr j) (rowAt base' tr' j)) → SkO (.row size base tr elem esz ro) (.row size base' tr' elem esz ro)
  | map {es es' : List MapEntry} {c c' : Nat} : SkE es es' → SkO (.map es c) (.map es' c')
  | chan {cap : Nat} {l l' : List Value} : SkL l l' → SkO (.chan cap l) (.chan cap l')

theorem Es.sk {m0 m' : Pm} (hm : m0.Le m') : ∀ {es es0 : List MapEntry} {xs ys : List MapEntry}, SkE es es0 → Es m0 es0 ys → Es m' es xs → Es m0 es xs
  | _, _, _, _, .nil, _, h1 => by cases h1; exact .nil
  | _, _, _, _, .cons a b c, .cons a0 b0 c0, .cons a1 b1 c1 => .cons (a0.sk hm a a1 |> fun h => h) (V.sk hm b b0 b1) (Es.sk hm c c0 c1)

theorem Vs.sk {m0 m' : Pm} (hm : m0.Le m') : ∀ {l l0 xs ys : List Value}, SkL l l0 → Vs m0 l0 ys → Vs m' l xs → Vs m0 l xs
  | _, _, _, _, .nil, _, h1 => by cases h1; exact .nil
  | _, _, _, _, .cons a c, .cons a0 c0, .cons a1 c1 => .cons (V.sk hm a a0 a1) (Vs.sk hm c c0 c1)

/-- The memory behind a step in the form of the memory ahead of it. -/
theorem Sim.fold {m0 m' : Pm} {h0 h1 hn : Heap} {w w' : World} (S0 : Sim m0 h0 w) (S1 : Sim m' h1 w') (P : Stp m0 h0 w m' h1 w') (hg : ∀ i o, hn.get i = some o → h1.get i = some o) (hnx : hn.nx = h0.nx)
    (hk : ∀ i o, hn.get i = some o → ∃ o0, h0.get i = some o0 ∧ SkO o o0) : Sim m0 hn w' := by
  refine ⟨fun i hi => S0.fresh i (by rw [← hnx]; exact hi), ?_, ?_⟩
  · intro i o hi
    obtain ⟨o0, h2, hs⟩ := hk i o hi
    obtain ⟨p0, hp0, ho0⟩ := S0.live i o0 h2
    obtain ⟨p, hp, ho⟩ := S1.live i o (hg i o hi)
    have e := P.le i p0 hp0
    rw [e] at hp
    cases hp
    refine ⟨p0, hp0, ?_⟩
    cases hs with
    | row hc =>
      obtain ⟨c0, e0, f0, _, _, _, _, _, g0⟩ := ho0
      obtain ⟨c, e1, fz, k1, k2, k3, k4, k5, g1⟩ := ho
      refine ⟨c, e1, fz, k1, k2, k3, k4, k5, fun j hj => ?_⟩
      obtain ⟨y, _, hy⟩ := g0 j hj
      obtain ⟨x, hx, hv⟩ := g1 j hj
      exact ⟨x, hx, V.sk P.le (hc j hj) hy hv⟩
    | map he =>
      obtain ⟨es0, _, q0⟩ := ho0
      obtain ⟨es1, k1, q1⟩ := ho
      exact ⟨es1, k1, Es.sk P.le he q0 q1⟩
    | chan he =>
      obtain ⟨b0, s0, r0, _, q0⟩ := ho0
      obtain ⟨b1, s1, r1, k1, q1⟩ := ho
      exact ⟨b1, s1, r1, k1, Vs.sk P.le he q0 q1⟩
  · intro i j oi oj pi pj hi hj hmi hmj
    exact S1.inj i j oi oj pi pj (hg i oi hi) (hg j oj hj) (P.le i pi hmi) (P.le j pj hmj)

end Go.Em

/-
  Memory laid out as lists of cells, some of them integers that are not told; calls from such memory to such memory.
-/
namespace Go.Em

/-- A cell: a value, or an integer of a kind that is told elsewhere. -/
inductive Ce where
  | v (x : Value)
  | p (k : IntKind) (i : Nat)
/-- A block: its cells, or a map; or any block as it is. -/
inductive Sh where
  | row (cs : List Ce) (esz : Nat)
  | map (es : List MapEntry) (clock : Nat)
  | chan (cap : Nat) (buf : List Value)
  | obj (o : Obj)
/-- The same, filled. -/
inductive Lo where
  | row (cs : List Value) (esz : Nat)
  | map (es : List MapEntry) (clock : Nat)
  | chan (cap : Nat) (buf : List Value)
  | obj (o : Obj)

noncomputable def fillC (x : Nat → Int) (c : Ce) : Value := @Ce.rec (fun _ => Value) (fun v => v) (fun k i => .int k (x i)) c
noncomputable def fillL (x : Nat → Int) : List Ce → List Value := @List.rec Ce (fun _ => List Value) [] (fun c _ ih => fillC x c :: ih)
noncomputable def fillS (x : Nat → Int) (s : Sh) : Lo := @Sh.rec (fun _ => Lo) (fun cs z => .row (fillL x cs) z) (fun es c => .map es c) (fun c b => .chan c b) (fun o => .obj o) s
noncomputable def fillH (x : Nat → Int) : List (Nat × Sh) → List (Nat × Lo) := @List.rec (Nat × Sh) (fun _ => List (Nat × Lo)) [] (fun p _ ih => (p.1, fillS x p.2) :: ih)

noncomputable def lenG (l : List Value) : Nat := @List.rec Value (fun _ => Nat) 0 (fun _ _ ih => Nat.succ ih) l
theorem lenG_eq : ∀ l, lenG l = l.length
  | [] => rfl
  | _ :: l => by show lenG l + 1 = _; rw [lenG_eq l]; rfl
noncomputable def objL (l : Lo) : Obj := @Lo.rec (fun _ => Obj) (fun cs z => .row (lenG cs) (lgetG cs) .nil 0 z false) (fun es c => .map es c) (fun c b => .chan c b) (fun o => o) l
noncomputable def trL : List (Nat × Lo) → Tr Obj := @List.rec (Nat × Lo) (fun _ => Tr Obj) .nil (fun p _ ih => sO (pathOf p.1) (some (objL p.2)) ih)
/-- The memory. -/
noncomputable def litH (L : List (Nat × Lo)) (nx : Nat) : Heap := ⟨trL L, nx, []⟩

theorem trL_get : ∀ (L : List (Nat × Lo)) (i : Nat) (o : Obj), (trL L).get i = some o → ∃ l, (i, l) ∈ L ∧ o = objL l
  | [], i, o, h => by cases h
  | (j, l) :: L, i, o, h => by
    change (sO (pathOf j) (some (objL l)) (trL L)).get i = some o at h
    rw [sO_eq, Tr.get_set] at h
    split at h
    · rename_i e
      cases h
      exact ⟨l, by rw [e]; simp, rfl⟩
    · obtain ⟨l', h1, h2⟩ := trL_get L i o h
      exact ⟨l', by simp [h1], h2⟩

/-- One block's cells are another one's. -/
def SubO (o o1 : Obj) : Prop := (∀ (m : Pm) (p : Pl) (w : World), ObjR m p w o1 → ObjR m p w o) ∧ (roO o = false → roO o1 = false)

/-- What a block holds, in the form of a list. -/
noncomputable def grabO1 (l : Lo) (o : Option Obj) : Option Lo := @Option.rec Obj (fun _ => Option Lo) none
  (fun o => @Obj.rec (fun _ => Option Lo)
    (fun size base tr _ esz ro => @Lo.rec (fun _ => Option Lo) (fun cs z => @Bool.rec (fun _ => Option Lo) (@Bool.rec (fun _ => Option Lo) none (@Bool.rec (fun _ => Option Lo) (@Bool.rec (fun _ => Option Lo) none (some (.row (cellsG base tr (lenG cs) 0) z)) (Nat.beq esz z)) (some (.row (cellsG base tr (lenG cs) 0) z)) (Nat.beq z 0)) (Nat.ble (lenG cs) size)) none ro) (fun _ _ => none) (fun _ _ => none) (fun _ => none) l)
    (fun es c => @Lo.rec (fun _ => Option Lo) (fun _ _ => none) (fun _ _ => some (.map es c)) (fun _ _ => none) (fun _ => none) l)
    (fun c b => @Lo.rec (fun _ => Option Lo) (fun _ _ => none) (fun _ _ => none) (fun _ _ => some (.chan c b)) (fun _ => none) l) o) o
noncomputable def isObj (l : Lo) : Bool := @Lo.rec (fun _ => Bool) (fun _ _ => false) (fun _ _ => false) (fun _ _ => false) (fun _ => true) l
noncomputable def anyO (o : Option Obj) : Option Lo := @Option.rec Obj (fun _ => Option Lo) none (fun o => some (.obj o)) o
noncomputable def grabO (l : Lo) (o : Option Obj) : Option Lo := @Bool.rec (fun _ => Option Lo) (grabO1 l o) (anyO o) (isObj l)
noncomputable def grab (t : Tr Obj) : List (Nat × Lo) → Option (List (Nat × Lo)) := @List.rec (Nat × Lo) (fun _ => Option (List (Nat × Lo))) (some [])
  (fun p _ ih => @Option.rec Lo (fun _ => Option (List (Nat × Lo))) none (fun l => @Option.rec (List (Nat × Lo)) (fun _ => Option (List (Nat × Lo))) none (fun r => some ((p.1, l) :: r)) ih) (grabO p.2 (gO (pathOf p.1) t)))

theorem cellsG_len (base : Nat → Value) (tr : Tr Value) : ∀ (n i : Nat), (cellsG base tr n i).length = n
  | 0, _ => rfl
  | n + 1, i => by show (cellsG base tr n (i + 1)).length + 1 = _; rw [cellsG_len base tr n]
theorem cellsG_get (base : Nat → Value) (tr : Tr Value) : ∀ (n i j : Nat), j < n → lget (cellsG base tr n i) j = rowAt base tr (i + j)
  | 0, _, _, h => by omega
  | n + 1, i, 0, _ => by
    show lget (rowG base tr i :: cellsG base tr n (i + 1)) 0 = _
    rw [rowG_eq]; simp [lget]
  | n + 1, i, j + 1, h => by
    show lget (rowG base tr i :: cellsG base tr n (i + 1)) (j + 1) = _
    simp only [lget]
    rw [cellsG_get base tr n (i + 1) j (by omega)]
    congr 1; omega

theorem grabO1_sub {l l' : Lo} {o : Option Obj} (h : grabO1 l o = some l') : ∃ o1, o = some o1 ∧ SubO (objL l') o1 := by
  cases o with
  | none => cases h
  | some o =>
    refine ⟨o, rfl, ?_⟩
    cases o with
    | row size base tr elem esz ro =>
      cases l with
      | map es c => cases h
      | chan c b => cases h
      | obj o => cases h
      | row cs z =>
        cases ro with
        | true => cases h
        | false =>
          change @Bool.rec (fun _ => Option Lo) none (@Bool.rec (fun _ => Option Lo) (@Bool.rec (fun _ => Option Lo) none (some (.row (cellsG base tr (lenG cs) 0) z)) (Nat.beq esz z)) (some (.row (cellsG base tr (lenG cs) 0) z)) (Nat.beq z 0)) (Nat.ble (lenG cs) size) = some l' at h
          cases hs : Nat.ble (lenG cs) size with
          | false => rw [hs] at h; cases h
          | true =>
            rw [hs] at h
            have hz : l' = .row (cellsG base tr (lenG cs) 0) z ∧ (z ≠ 0 → esz = z) := by
              cases h0 : Nat.beq z 0 with
              | true =>
                rw [h0] at h
                have e : some (Lo.row (cellsG base tr (lenG cs) 0) z) = some l' := h
                cases e
                exact ⟨rfl, fun hz => absurd (Nat.eq_of_beq_eq_true h0) hz⟩
              | false =>
                rw [h0] at h
                cases h1 : Nat.beq esz z with
                | false => rw [h1] at h; cases h
                | true =>
                  rw [h1] at h
                  have e : some (Lo.row (cellsG base tr (lenG cs) 0) z) = some l' := h
                  cases e
                  exact ⟨rfl, fun _ => Nat.eq_of_beq_eq_true h1⟩
            obtain ⟨rfl, he⟩ := hz
            have hle := Nat.le_of_ble_eq_true hs
            refine ⟨?_, fun _ => rfl⟩
            intro m p w ho
            obtain ⟨c, e1, fz, k1, k2, k3, k4, k5, g1⟩ := ho
            show ObjR m p w (.row (lenG (cellsG base tr (lenG cs) 0)) (lgetG (cellsG base tr (lenG cs) 0)) .nil 0 z false)
            rw [lenG_eq, cellsG_len]
            refine ⟨c, e1, fz, k1, k2, fun hz => by rw [k3 (by rw [he hz]; exact hz), he hz], Nat.le_trans hle k4, k5, fun j hj => ?_⟩
            obtain ⟨x, hx, hv⟩ := g1 j (Nat.lt_of_lt_of_le hj hle)
            refine ⟨x, hx, ?_⟩
            show V m (lgetG (cellsG base tr (lenG cs) 0) j) x
            rw [lgetG_eq, cellsG_get base tr (lenG cs) 0 j hj, Nat.zero_add]
            exact hv
    | map es c =>
      cases l with
      | row cs z => cases h
      | chan c b => cases h
      | obj o => cases h
      | map es0 c0 =>
        have e : some (Lo.map es c) = some l' := h
        cases e
        exact ⟨fun m p w ho => ho, fun _ => rfl⟩
    | chan c b =>
      cases l with
      | row cs z => cases h
      | map es0 c0 => cases h
      | obj o => cases h
      | chan c0 b0 =>
        have e : some (Lo.chan c b) = some l' := h
        cases e
        exact ⟨fun m p w ho => ho, fun _ => rfl⟩

theorem grabO_sub {l l' : Lo} {o : Option Obj} (h : grabO l o = some l') : ∃ o1, o = some o1 ∧ SubO (objL l') o1 := by
  cases l with
  | obj o0 =>
    cases o with
    | none => cases h
    | some o1 =>
      have e : some (Lo.obj o1) = some l' := h
      cases e
      exact ⟨o1, rfl, fun m p w ho => ho, fun h => h⟩
  | row cs z => exact grabO1_sub (l := .row cs z) h
  | map es c => exact grabO1_sub (l := .map es c) h
  | chan c b => exact grabO1_sub (l := .chan c b) h

theorem grab_sub {t : Tr Obj} : ∀ {L L' : List (Nat × Lo)}, grab t L = some L' → (∀ i l, (i, l) ∈ L' → ∃ o1, t.get i = some o1 ∧ SubO (objL l) o1)
  | [], L', h, i, l, hm => by
    have e : some ([] : List (Nat × Lo)) = some L' := h
    cases e; cases hm
  | (j, l0) :: L, L', h, i, l, hm => by
    change @Option.rec Lo (fun _ => Option (List (Nat × Lo))) none (fun l => @Option.rec (List (Nat × Lo)) (fun _ => Option (List (Nat × Lo))) none (fun r => some ((j, l) :: r)) (grab t L)) (grabO l0 (gO (pathOf j) t)) = some L' at h
    rw [gO_eq] at h
    cases hg : grabO l0 (t.get j) with
    | none => rw [hg] at h; cases h
    | some l1 =>
      rw [hg] at h
      cases hr : grab t L with
      | none => rw [hr] at h; cases h
      | some r =>
        rw [hr] at h
        have e : some ((j, l1) :: r) = some L' := h
        cases e
        rcases List.mem_cons.1 hm with e | hm
        · cases e; exact grabO_sub hg
        · exact grab_sub hr i l hm

/-- A cell, n times. -/
noncomputable def reps (n : Nat) (c : Ce) (l : List Ce) : List Ce := @Nat.rec (fun _ => List Ce) l (fun _ ih => c :: ih) n
/-- Integers one after the other. -/
noncomputable def pv : List Int → Nat → Int := @List.rec Int (fun _ => Nat → Int) (fun _ => 0) (fun a _ ih i => @Nat.rec (fun _ => Int) a (fun j _ => ih j) i)

/-! ### Two fillings of one form -/
theorem SkV.refl (v : Value) : SkV v v := by cases v <;> simp [SkV]
theorem fill_sk (x y : Nat → Int) (c : Ce) : SkV (fillC x c) (fillC y c) := by
  cases c with
  | v a => exact SkV.refl a
  | p k i => rfl
theorem fillL_get (x : Nat → Int) : ∀ (cs : List Ce) (j : Nat), lget (fillL x cs) j = (match cs[j]? with
  | some c => fillC x c
  | none => undef)
  | [], j => by
    show lget [] j = _
    simp [lget]
  | c :: cs, 0 => by
    show lget (fillC x c :: fillL x cs) 0 = _
    simp [lget]
  | c :: cs, j + 1 => by
    show lget (fillC x c :: fillL x cs) (j + 1) = _
    simp only [lget]
    rw [fillL_get x cs j]; simp
theorem fillL_len (x : Nat → Int) : ∀ cs, lenG (fillL x cs) = cs.length
  | [] => rfl
  | c :: cs => by show lenG (fillL x cs) + 1 = _; rw [fillL_len x cs]; rfl
theorem SkE.refl : ∀ es, SkE es es
  | [] => .nil
  | ⟨k, v, _⟩ :: l => .cons (SkV.refl k) (SkV.refl v) (SkE.refl l)
theorem SkL.refl : ∀ l, SkL l l
  | [] => .nil
  | v :: l => .cons (SkV.refl v) (SkL.refl l)
theorem SkO.refl (o : Obj) : SkO o o := by
  cases o with
  | row => exact .row fun j _ => SkV.refl _
  | map => exact .map (SkE.refl _)
  | chan => exact .chan (SkL.refl _)
theorem SkO.ro {o o' : Obj} (h : SkO o o') : roO o = roO o' := by cases h <;> rfl
theorem fillS_sk (x y : Nat → Int) (s : Sh) : SkO (objL (fillS x s)) (objL (fillS y s)) := by
  cases s with
  | row cs z =>
    show SkO (.row (lenG (fillL x cs)) (lgetG (fillL x cs)) .nil 0 z false) (.row (lenG (fillL y cs)) (lgetG (fillL y cs)) .nil 0 z false)
    rw [fillL_len, fillL_len]
    refine .row fun j hj => ?_
    show SkV (lgetG (fillL x cs) j) (lgetG (fillL y cs) j)
    rw [lgetG_eq, lgetG_eq, fillL_get, fillL_get]
    cases cs[j]? with
    | none => exact SkV.refl _
    | some c => exact fill_sk x y c
  | map es c => exact .map (SkE.refl es)
  | chan c b => exact .chan (SkL.refl b)
  | obj o => exact SkO.refl o
theorem fillH_get (x y : Nat → Int) : ∀ (S : List (Nat × Sh)) (i : Nat) (o : Obj), (trL (fillH x S)).get i = some o → ∃ o0, (trL (fillH y S)).get i = some o0 ∧ SkO o o0
  | [], i, o, h => by cases h
  | (j, s) :: S, i, o, h => by
    change (sO (pathOf j) (some (objL (fillS x s))) (trL (fillH x S))).get i = some o at h
    show ∃ o0, (sO (pathOf j) (some (objL (fillS y s))) (trL (fillH y S))).get i = some o0 ∧ SkO o o0
    rw [sO_eq, Tr.get_set] at h ⊢
    split at h
    · rename_i e
      cases h
      rw [if_pos e]
      exact ⟨_, rfl, fillS_sk x y s⟩
    · rename_i e
      rw [if_neg e]
      exact fillH_get x y S i o h

/-- From what is known of a memory to what is told of it. -/
theorem Sim.grab {m : Pm} {H : Heap} {w : World} (S : Sim m H w) {L L' : List (Nat × Lo)} (hg : Em.grab H.tr L = some L') : Sim m (litH L' H.nx) w := by
  have sub := grab_sub hg
  have key : ∀ i o, (litH L' H.nx).get i = some o → ∃ o1, H.get i = some o1 ∧ SubO o o1 := by
    intro i o hi
    obtain ⟨l, hm, rfl⟩ := trL_get L' i o hi
    exact sub i l hm
  refine ⟨S.fresh, ?_, ?_⟩
  · intro i o hi
    obtain ⟨o1, h1, hs⟩ := key i o hi
    obtain ⟨p, hp, ho⟩ := S.live i o1 h1
    exact ⟨p, hp, hs.1 m p w ho⟩
  · intro i j oi oj pi pj hi hj hmi hmj
    obtain ⟨o1, h1, _⟩ := key i oi hi
    obtain ⟨o2, h2, _⟩ := key j oj hj
    exact S.inj i j o1 o2 pi pj h1 h2 hmi hmj

/-- A call from a memory of a form to a memory of that form. -/
theorem lit_step {cx : Cx} {f : Nat} {args : List Value} {r : Fin} {H1 : Heap} {S : List (Nat × Sh)} {K : Nat} {x x' : Nat → Int} (C : CallR cx f args (litH (fillH x S) K) r H1)
    (hg : Em.grab H1.tr (fillH x S) = some (fillH x' S)) {m : Pm} {w : World} {args' : Array Value} (hS : Sim m (litH (fillH x S) K) w) (hA : Vs m args args'.toList) :
    Calls cx.P f args' w fun e w' => Sim m (litH (fillH x' S) K) w' ∧ ∃ m', m.Le m' ∧ FinR m' r e ∧ Stp m (litH (fillH x S) K) w m' H1 w' := by
  refine (C.2 m w args' hS hA).mono ?_
  rintro e w' ⟨m', S1, P, F⟩
  refine ⟨?_, m', P.le, F, P⟩
  have S2 := S1.grab hg
  refine hS.fold (h1 := litH (fillH x' S) H1.nx) S2 ⟨P.le, P.ids, P.nx, P.size, ?_, ?_, P.tape, P.os, P.output⟩ (fun i o hi => hi) rfl ?_
  · intro z b hb ho
    obtain ⟨i, o, p, h1, hz, h2, h3⟩ := ho
    obtain ⟨l, hm, rfl⟩ := trL_get _ i o h1
    obtain ⟨o1, h4, h5⟩ := grab_sub hg i l hm
    exact P.own z b hb ⟨i, o1, p, h4, fun e => h5.2 (hz e), h2, h3⟩
  · exact P.keep
  · intro i o hi
    exact fillH_get x' x S i o hi

end Go.Em

/-
  What a piece of code does, told of what is known of slots and memory; pieces put together.
-/
namespace Go.Em

/-- What a piece of code does, from what is known of slots and memory to what is known behind it. -/
def RunR (cx : Cx) (N : Nat) (c : Code) (st : St) (ex : Ex) (st' : St) : Prop :=
  ∀ (m : Pm) (a : Act) (cs : List Frame) (w : World), Fr N m st a w → ∀ (b : Frame) (k : List Item),
    ∃ m' e a' w', Arrives cx.P (lone (b.at a (starts c k)) cs w) b k cs e a' w' ∧ Fr N m' st' a' w' ∧ Stp m st.h w m' st'.h w' ∧ ExR m' ex e

/-- What is known of the one is known of the other. -/
structure Weak (st st1 : St) : Prop where
  fr : ∀ N m a w, Fr N m st a w → Fr N m st1 a w
  own : ∀ z m b, Own z m st1.h b → Own z m st.h b
  nx : st.h.nx ≤ st1.h.nx

theorem Weak.refl (st : St) : Weak st st := ⟨fun _ _ _ _ h => h, fun _ _ _ h => h, Nat.le_refl _⟩

section
variable {cx : Cx} {N : Nat} {c : Code} {st st1 st' st2 : St} {ex : Ex}

theorem RunR.of_exec (O : Ok cx ∧ Bd cx) {cf : CallFn} (C : CallsOk cx cf) (D : DrawOk cx cf) {n : Nat} (h : exec cx cf false n c st = some (ex, st')) (hB : codeB N c = true) : RunR cx N c st ex st' := by
  intro m a cs w F b k
  obtain ⟨m', e, a', cs', w', hA, hK⟩ := exec_run O.1 C D (dk := false) (c₀ := default) (rest := []) n c st ex st' h hB m a cs w F (fun h => by cases h) b k (fun h => by cases h)
  have := hK.same rfl
  subst this
  exact ⟨m', e, a', w', hA, hK.fr, hK.stp, hK.ex⟩

theorem RunR.from (W : Weak st st1) (R : RunR cx N c st1 ex st') : RunR cx N c st ex st' := by
  intro m a cs w F b k
  obtain ⟨m', e, a', w', hA, hF, P, hE⟩ := R m a cs w (W.fr _ _ _ _ F) b k
  exact ⟨m', e, a', w', hA, hF, ⟨P.le, fun i p hi => P.ids i p (Nat.lt_of_lt_of_le hi W.nx), Nat.le_trans W.nx P.nx, P.size, fun z b hb ho => W.own _ _ _ (P.own z b hb ho),
    fun b hb hn => P.keep b hb (fun ho => hn (W.own _ _ _ ho)), P.tape, P.os, P.output⟩, hE⟩

theorem RunR.weak (R : RunR cx N c st ex st1) (W : Weak st1 st') : RunR cx N c st ex st' := by
  intro m a cs w F b k
  obtain ⟨m', e, a', w', hA, hF, P, hE⟩ := R m a cs w F b k
  exact ⟨m', e, a', w', hA, W.fr _ _ _ _ hF, ⟨P.le, P.ids, Nat.le_trans P.nx W.nx, P.size, fun z b hb ho => P.own z b hb (W.own _ _ _ ho), P.keep, P.tape, P.os, P.output⟩, hE⟩

theorem RunR.seq {x y : Code} (R1 : RunR cx N x st .normal st1) (R2 : RunR cx N y st1 ex st') : RunR cx N (.seq x y) st ex st' := by
  intro m a cs w F b k
  obtain ⟨m1, e1, a1, w1, hA1, F1, P1, E1⟩ := R1 m a cs w F b (.code y :: k)
  cases E1
  obtain ⟨m', e, a', w', hA, F2, P2, E2⟩ := R2 m1 a1 cs w1 F1 b k
  exact ⟨m', e, a', w', .of_steps (.head step_seq (starts_code (e := .normal) hA1)) (starts_code hA), F2, P1.trans P2, E2⟩

theorem RunR.seq_out {x y : Code} (R1 : RunR cx N x st ex st1) (hne : ex ≠ .normal) : RunR cx N (.seq x y) st ex st1 := by
  intro m a cs w F b k
  obtain ⟨m1, e1, a1, w1, hA1, F1, P1, E1⟩ := R1 m a cs w F b (.code y :: k)
  refine ⟨m1, e1, a1, w1, .of_steps (.one step_seq) (.pass (x := .code y) rfl (fun _ _ => .inl ?_) (starts_code hA1)), F1, P1, E1⟩
  intro he
  subst he
  cases E1
  exact hne rfl

theorem RunR.cond {o : Operand} {x y : Code} {t : Bool} (hc : ev st.tm o = some (.bool t)) (R : RunR cx N (@Bool.rec (fun _ => Code) y x t) st ex st') : RunR cx N (.cond o x y) st ex st' := by
  intro m a cs w F b k
  cases t with
  | true =>
    obtain ⟨m', e, a', w', hA, F2, P2, E2⟩ := R m a cs w F b k
    exact ⟨m', e, a', w', .of_steps (.one (step_cond (t := true) (bool_inv (ev_V F.tm hc)))) (starts_code hA), F2, P2, E2⟩
  | false =>
    obtain ⟨m', e, a', w', hA, F2, P2, E2⟩ := R m a cs w F b k
    exact ⟨m', e, a', w', .of_steps (.one (step_cond (t := false) (bool_inv (ev_V F.tm hc)))) (starts_code hA), F2, P2, E2⟩

theorem RunR.block {id : Nat} {x : Code} (R : RunR cx N x st .normal st') : RunR cx N (.block id x) st .normal st' := by
  intro m a cs w F b k
  obtain ⟨m1, e1, a1, w1, hA1, F1, P1, E1⟩ := R m a cs w F b (.inBlock id :: k)
  cases E1
  exact ⟨m1, .normal, a1, w1, .head step_block (Steps.trans (starts_code (e := .normal) hA1) (.one step_inBlock)), F1, P1, .normal⟩

theorem RunR.block_exit {id : Nat} {x : Code} (R : RunR cx N x st (.exit id) st') : RunR cx N (.block id x) st .normal st' := by
  intro m a cs w F b k
  obtain ⟨m1, e1, a1, w1, hA1, F1, P1, E1⟩ := R m a cs w F b (.inBlock id :: k)
  cases E1
  exact ⟨m1, .normal, a1, w1, .head step_block ((starts_code hA1) k (by simp [exitTo])), F1, P1, .normal⟩

theorem RunR.block_out {id id' : Nat} {x : Code} (R : RunR cx N x st (.exit id') st') (hne : (id == id') = false) : RunR cx N (.block id x) st (.exit id') st' := by
  intro m a cs w F b k
  obtain ⟨m1, e1, a1, w1, hA1, F1, P1, E1⟩ := R m a cs w F b (.inBlock id :: k)
  cases E1
  exact ⟨m1, .exit id', a1, w1, fun k' hk => .head step_block ((starts_code hA1) k' (by simp [exitTo, hne, hk])), F1, P1, .exit⟩

theorem RunR.block_ret {id : Nat} {x : Code} (R : RunR cx N x st .ret st') : RunR cx N (.block id x) st .ret st' := by
  intro m a cs w F b k
  obtain ⟨m1, e1, a1, w1, hA1, F1, P1, E1⟩ := R m a cs w F b (.inBlock id :: k)
  cases E1
  exact ⟨m1, .ret, a1, w1, .of_steps (.one step_block) (starts_code hA1), F1, P1, .ret⟩

theorem RunR.loop_next {x : Code} (R1 : RunR cx N x st .normal st1) (R2 : RunR cx N (.loop x) st1 ex st') : RunR cx N (.loop x) st ex st' := by
  intro m a cs w F b k
  obtain ⟨m1, e1, a1, w1, hA1, F1, P1, E1⟩ := R1 m a cs w F b (.inLoop x :: k)
  cases E1
  obtain ⟨m', e, a', w', hA, F2, P2, E2⟩ := R2 m1 a1 cs w1 F1 b k
  exact ⟨m', e, a', w', .of_steps (Steps.trans (starts_code (e := .normal) hA1) (.one step_inLoop)) hA, F2, P1.trans P2, E2⟩

theorem RunR.loop_out {x : Code} (R1 : RunR cx N x st ex st1) (hne : ex ≠ .normal) : RunR cx N (.loop x) st ex st1 := by
  intro m a cs w F b k
  obtain ⟨m1, e1, a1, w1, hA1, F1, P1, E1⟩ := R1 m a cs w F b (.inLoop x :: k)
  refine ⟨m1, e1, a1, w1, .pass (x := .inLoop x) rfl (fun _ _ => .inl ?_) (starts_code hA1), F1, P1, E1⟩
  intro he
  subst he
  cases E1
  exact hne rfl

theorem RunR.scope {x : Code} (R : RunR cx N x st .normal st') : RunR cx N (.scope x) st .normal st' := by
  intro m a cs w F b k
  obtain ⟨m1, e1, a1, w1, hA1, F1, P1, E1⟩ := R m a cs w F b (.inScope x :: k)
  cases E1
  exact ⟨m1, .normal, a1, w1, .head step_scope (Steps.trans (starts_code (e := .normal) hA1) (.one step_inScope)), F1, P1, .normal⟩

theorem RunR.scope_exit {x : Code} {id : Nat} (R : RunR cx N x st (.exit id) st') : RunR cx N (.scope x) st (.exit id) st' := by
  intro m a cs w F b k
  obtain ⟨m1, e1, a1, w1, hA1, F1, P1, E1⟩ := R m a cs w F b (.inScope x :: k)
  cases E1
  exact ⟨m1, .exit _, a1, w1, fun k' hk => .head step_scope ((starts_code hA1) k' (by simp [exitTo, hk])), F1, P1, .exit⟩

theorem RunR.exit (id : Nat) (st : St) : RunR cx N (.exit id) st (.exit id) st := by
  intro m a cs w F b k
  exact ⟨m, .exit id, a, w, fun _ hk => .one (step_exit hk), F, .refl _ _ _, .exit⟩
theorem RunR.ret (st : St) : RunR cx N .ret st .ret st := by
  intro m a cs w F b k
  exact ⟨m, .ret, a, w, ⟨_, .one step_ret⟩, F, .refl _ _ _, .ret⟩
theorem RunR.skip (st : St) : RunR cx N .skip st .normal st := by
  intro m a cs w F b k
  exact ⟨m, .normal, a, w, .one step_skip, F, .refl _ _ _, .normal⟩
theorem RunR.label (l : Nat) (st : St) : RunR cx N (.label l) st .normal st := by
  intro m a cs w F b k
  exact ⟨m, .normal, a, w, .one step_label, F, .refl _ _ _, .normal⟩

noncomputable def noCallF : CallFn := fun _ _ _ => none
theorem noCallF_ok : CallsOk cx noCallF := fun _ _ _ _ _ h => by cases h
theorem noCallF_keeps : KeepsF noCallF := fun _ _ _ _ _ h => by cases h

/-- A function's statements' run is the call. -/
theorem CallR.of_run (O : Ok cx ∧ Bd cx) {f : Nat} {fn : Func} {args : List Value} {h : Heap} {vs : List Value} (hf : cx.fn f = some (fn, c)) (R : RunR cx fn.ntmps c ⟨argsT 0 args .nil, [], .run, h⟩ ex st')
    (hd : st'.df = []) (hex : ex = .normal ∨ ex = .ret) (hr : resE cx st'.tm st'.h fn.results.toList = some vs) : CallR cx f args h (.ret (one vs)) st'.h := by
  obtain ⟨hf1, hb, hname⟩ := O.1.func f _ hf
  simp only at hf1 hb hname
  refine ⟨⟨fn, hf1, by rw [hb]; rfl, hname⟩, fun m w args' S hA => ?_⟩
  refine calls_of_wp_defers hf1 hb fun b k cs => ?_
  obtain ⟨m', e, a', w', hArr, hF, hS, hE⟩ := R m _ cs w (enter_Fr S hA .run) b k
  refine ⟨e, a', w', ?_, starts_code hArr⟩
  have hl : leave cx (callD cx noCallF 0) fn st'.tm st'.df .returning st'.h = some (.ret (one vs), st'.h) := by
    rw [hd]; simp only [leave, hr]
  have fin : Leaves cx.P fn a'.tmps (fun e w' => ∃ m', Sim m' st'.h w' ∧ Stp m h w m' st'.h w' ∧ FinR m' (.ret (one vs)) e) a'.defers .returning w' :=
    leave_run O.1 O.2 noCallF_ok (drawE_ok O.1 noCallF_ok noCallF_keeps) _ _ _ hl m' w' _ _ hF.sim hF.tm hF.ds .returning _ fun m2 e w2 g1 g2 g3 => ⟨m2, g1, hS.trans g2, g3⟩
  rcases hex with rfl | rfl
  · cases hE; exact fin
  · cases hE; exact fin

end

/-! ### Slots told in a list -/
noncomputable def tmL : List (Nat × Value) → Tr Value := @List.rec (Nat × Value) (fun _ => Tr Value) .nil (fun p _ ih => sV (pathOf p.1) (some p.2) ih)
theorem tmL_get : ∀ (L : List (Nat × Value)) (t : Nat) (v : Value), (tmL L).get t = some v → (t, v) ∈ L
  | [], t, v, h => by cases h
  | (j, x) :: L, t, v, h => by
    change (sV (pathOf j) (some x) (tmL L)).get t = some v at h
    rw [sV_eq, Tr.get_set] at h
    split at h
    · rename_i e; cases h; rw [e]; simp
    · have := tmL_get L t v h; simp [this]
/-- What some slots hold. -/
noncomputable def grabT (tm : Tr Value) : List Nat → Option (List (Nat × Value)) := @List.rec Nat (fun _ => Option (List (Nat × Value))) (some [])
  (fun t _ ih => @Option.rec Value (fun _ => Option (List (Nat × Value))) none (fun v => @Option.rec (List (Nat × Value)) (fun _ => Option (List (Nat × Value))) none (fun l => some ((t, v) :: l)) ih) (gV (pathOf t) tm))
theorem grabT_get {tm : Tr Value} : ∀ {ts : List Nat} {L : List (Nat × Value)}, grabT tm ts = some L → ∀ t v, (t, v) ∈ L → tm.get t = some v
  | [], L, h, t, v, hm => by
    have e : some ([] : List (Nat × Value)) = some L := h
    cases e; cases hm
  | j :: ts, L, h, t, v, hm => by
    change @Option.rec Value (fun _ => Option (List (Nat × Value))) none (fun v => @Option.rec (List (Nat × Value)) (fun _ => Option (List (Nat × Value))) none (fun l => some ((j, v) :: l)) (grabT tm ts)) (gV (pathOf j) tm) = some L at h
    rw [gV_eq] at h
    cases hg : tm.get j with
    | none => rw [hg] at h; cases h
    | some x =>
      rw [hg] at h
      cases hr : grabT tm ts with
      | none => rw [hr] at h; cases h
      | some l =>
        rw [hr] at h
        have e : some ((j, x) :: l) = some L := h
        cases e
        rcases List.mem_cons.1 hm with e | hm
        · cases e; exact hg
        · exact grabT_get hr t v hm
noncomputable def stL (L : List (Nat × Value)) (h : Heap) : St := ⟨tmL L, [], .run, h⟩

theorem Weak.slots {st : St} {ts : List Nat} {L : List (Nat × Value)} (hg : grabT st.tm ts = some L) (hd : st.df = []) : Weak st (stL L st.h) :=
  ⟨fun N m a w F => ⟨F.sim, fun t v h => F.tm t v (grabT_get hg t v (tmL_get L t v h)), by have d := F.ds; rw [hd] at d; exact d, F.size⟩, fun _ _ _ h => h, Nat.le_refl _⟩

/-- What a run comes to: some of the slots, and the memory. -/
noncomputable def outR (ts : List Nat) (r : Option (Ex × St)) : Option (Ex × List (Nat × Value) × Heap) := match r with
  | some (ex, ⟨tm, [], _, h⟩) => match grabT tm ts with
    | some L => some (ex, L, h)
    | none => none
  | _ => none
theorem outR_inv {ts : List Nat} {r : Option (Ex × St)} {ex : Ex} {L : List (Nat × Value)} {h : Heap} (e : outR ts r = some (ex, L, h)) : ∃ st, r = some (ex, st) ∧ Weak st (stL L h) := by
  cases r with
  | none => cases e
  | some p =>
    obtain ⟨ex1, tm, df, u, h1⟩ := p
    cases df with
    | cons d l => cases e
    | nil =>
      simp only [outR] at e
      cases hg : grabT tm ts with
      | none => rw [hg] at e; cases e
      | some L1 =>
        rw [hg] at e
        cases e
        exact ⟨_, rfl, Weak.slots (st := ⟨tm, [], u, h⟩) hg rfl⟩

section
variable {cx : Cx} {N : Nat} {c : Code} {st : St} {ex : Ex}

/-- A piece of code by a run. -/
theorem RunR.run (O : Ok cx ∧ Bd cx) {cf : CallFn} (C : CallsOk cx cf) (K : KeepsF cf) {n : Nat} {ts : List Nat} {L : List (Nat × Value)} {h : Heap} (e : outR ts (exec cx cf false n c st) = some (ex, L, h)) (hB : codeB N c = true) :
    RunR cx N c st ex (stL L h) := by
  obtain ⟨st', hx, W⟩ := outR_inv e
  exact (RunR.of_exec O C (drawE_ok O.1 C K) hx hB).weak W
/-- A piece of code without calls. -/
theorem RunR.plain (O : Ok cx ∧ Bd cx) {n : Nat} {ts : List Nat} {L : List (Nat × Value)} {h : Heap} (e : outR ts (exec cx noCallF false n c st) = some (ex, L, h)) (hB : codeB N c = true) :
    RunR cx N c st ex (stL L h) := RunR.run O noCallF_ok noCallF_keeps e hB

/-- Operations in order, where no more is known of the calls than that they are calls. -/
theorem RunR.ops (O : Ok cx ∧ Bd cx) {cf : CallFn} (C : CallsOk cx cf) {id : Nat} {ops : Array Oper} {st' : St} (e : opsE cx cf false ops.toList ops.toList st = some (ex, st')) (hB : dstsB N ops.toList = true) :
    RunR cx N (.region id ops false) st ex st' := by
  intro m a cs w F b k
  have hlen : List.range ops.size = List.range' 0 ops.toList.length := by rw [List.range_eq_range']; simp
  have := opsE_run O.1 C (N := N) (ops := ops) ops.toList 0 st ex st' rfl hB e m a w F (fun e a' w' => ∃ m', Fr N m' st' a' w' ∧ Stp m st.h w m' st'.h w' ∧ ExR m' ex e) fun m' e a' w' g1 g2 g3 => ⟨m', g1, g2, g3⟩
  rw [← hlen] at this
  obtain ⟨e, a', w', ⟨m', hF, hS, hE⟩, hA⟩ := wp_region (id := id) this b k cs
  exact ⟨m', e, a', w', hA, hF, hS, hE⟩
end

/-! ### Memory -/
theorem Weak.grab {tm : Tr Value} {df : List Deferred} {u : FrameMode} {h : Heap} {L L' : List (Nat × Lo)} {nx : Nat} {dt : List Part} (hg : Em.grab h.tr L = some L') (hn : nx = h.nx) : Weak ⟨tm, df, u, h⟩ ⟨tm, df, u, ⟨trL L', nx, dt⟩⟩ := by
  subst hn
  have hc : ∀ i, (⟨trL L', h.nx, dt⟩ : Heap).get i = (litH L' h.nx).get i := fun _ => rfl
  refine ⟨fun N m a w F => ⟨(F.sim.grab hg).congr (fun _ => rfl) rfl, F.tm, F.ds, F.size⟩, fun z m b ho => ?_, Nat.le_refl _⟩
  obtain ⟨i, o, p, h1, hz, h2, h3⟩ := ho
  obtain ⟨l, hm, rfl⟩ := trL_get _ i o h1
  obtain ⟨o1, h4, h5⟩ := grab_sub hg i l hm
  exact ⟨i, o1, p, h4, fun e => h5.2 (hz e), h2, h3⟩

end Go.Em
