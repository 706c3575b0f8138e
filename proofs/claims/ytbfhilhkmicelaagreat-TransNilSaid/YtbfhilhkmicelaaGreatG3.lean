/-
  Quick forms of the evaluator's code and calls.
-/
import Derived.Test.YtbfhilhkmicelaaGreatG2
namespace Go.Em

abbrev Rq := Option (Ex × St)
abbrev Kq := Tr Value → List Deferred → FrameMode → Heap → Rq

noncomputable def rcvQ (dst : Option Nat) (k : Kq) (dk : Bool) (tm : Tr Value) (df : List Deferred) (u : FrameMode) (h : Heap) : Rq :=
  @Bool.rec (fun _ => Rq) none (k (putG tm dst (recE u).1) df (recE u).2 h) dk
noncomputable def aftQ (dst : Option Nat) (k : Kq) (dk : Bool) (tm : Tr Value) (df : List Deferred) (u : FrameMode) (h : Heap) (r : R1) : Rq :=
  @Option.rec (Out × Heap) (fun _ => Rq) none (fun p => @Prod.rec Out Heap (fun _ => Rq) (fun out h' => @Out.rec (fun _ => Rq) (fun v => k (putG tm dst v) df u h')
    (fun c => some (.pan c, ⟨tm, df, u, h'⟩)) (fun d => k (putG tm dst undef) (d :: df) u h) (rcvQ dst k dk tm df u h) out) p) r
noncomputable def runQ (cx : Cx) (cf : CallFn) (dk : Bool) (o : Oper) (k : Kq) (tm : Tr Value) (df : List Deferred) (u : FrameMode) (h : Heap) : Rq :=
  aftQ o.dst k dk tm df u h (disp o.op cx cf tm h)
noncomputable def stepQ (cx : Cx) (cf : CallFn) (dk : Bool) (all : List Oper) (o : Oper) (k : Kq) (tm : Tr Value) (df : List Deferred) (u : FrameMode) (h : Heap) : Rq :=
  @Option.rec (Nat × Bool) (fun _ => Rq) (runQ cx cf dk o k tm df u h)
    (fun p => @Option.rec Bool (fun _ => Rq) none (fun b => @Bool.rec (fun _ => Rq) (k (putG tm o.dst undef) df u h) (runQ cx cf dk o k tm df u h) b) (wantF all tm p.1 p.2)) o.guard
noncomputable def opsG (cx : Cx) (cf : CallFn) (dk : Bool) (all : List Oper) : List Oper → Kq :=
  @List.rec Oper (fun _ => Kq) (fun tm df u h => some (.normal, ⟨tm, df, u, h⟩)) (fun o _ ih => stepQ cx cf dk all o ih)

theorem runQ_eq (cx : Cx) (cf : CallFn) (dk : Bool) (all : List Oper) (o : Oper) (l : List Oper) (k : Kq) (hk : ∀ tm df u h, k tm df u h = opsE cx cf dk all l ⟨tm, df, u, h⟩)
    (tm : Tr Value) (df : List Deferred) (u : FrameMode) (h : Heap) (hw : wantE all tm o = some true) : runQ cx cf dk o k tm df u h = opsE cx cf dk all (o :: l) ⟨tm, df, u, h⟩ := by
  simp only [opsE, hw]
  unfold runQ aftQ
  rw [disp_eq]
  cases hr : opE cx cf tm h o.op with
  | none => rfl
  | some p =>
    obtain ⟨out, h'⟩ := p
    cases out with
    | val v =>
      show k (putG tm o.dst v) df u h' = _
      rw [hk, putG_eq]
    | pan c => rfl
    | dfr d =>
      show k (putG tm o.dst undef) (d :: df) u h = _
      rw [hk, putG_eq]
    | rcv =>
      show @Bool.rec (fun _ => Rq) none (k (putG tm o.dst (recE u).1) df (recE u).2 h) dk = _
      cases dk with
      | false => rfl
      | true =>
        show k (putG tm o.dst (recE u).1) df (recE u).2 h = _
        rw [hk, putG_eq]

theorem opsG_eq (cx : Cx) (cf : CallFn) (dk : Bool) (all : List Oper) : ∀ (l : List Oper) (tm : Tr Value) (df : List Deferred) (u : FrameMode) (h : Heap),
    opsG cx cf dk all l tm df u h = opsE cx cf dk all l ⟨tm, df, u, h⟩
  | [], tm, df, u, h => by simp [opsE]; rfl
  | o :: l, tm, df, u, h => by
    have ih := opsG_eq cx cf dk all l
    show stepQ cx cf dk all o (opsG cx cf dk all l) tm df u h = _
    have hw := wantG_eq o all tm
    unfold wantG at hw
    unfold stepQ
    cases hg : o.guard with
    | none =>
      rw [hg] at hw
      exact runQ_eq cx cf dk all o l _ ih tm df u h hw.symm
    | some p =>
      rw [hg] at hw
      change wantF all tm p.1 p.2 = _ at hw
      show @Option.rec Bool (fun _ => Rq) none (fun b => @Bool.rec (fun _ => Rq) (opsG cx cf dk all l (putG tm o.dst undef) df u h) (runQ cx cf dk o (opsG cx cf dk all l) tm df u h) b) (wantF all tm p.1 p.2) = _
      rw [hw]
      cases hb : wantE all tm o with
      | none => simp only [opsE, hb]
      | some b =>
        cases b with
        | false =>
          show opsG cx cf dk all l (putG tm o.dst undef) df u h = _
          rw [ih, putG_eq]
          simp only [opsE, hb]
        | true => exact runQ_eq cx cf dk all o l _ ih tm df u h hb

/-! ### Code -/
abbrev Rx := Code → Kq
abbrev Cc := Rx → Cx → CallFn → Bool → Kq

noncomputable def bndQ (o : Rq) (f : Ex → St → Rq) : Rq := @Option.rec (Ex × St) (fun _ => Rq) none (fun p => @Prod.rec Ex St (fun _ => Rq) f p) o
noncomputable def onQ (k : Kq) : St → Rq := @St.rec (fun _ => Rq) k
noncomputable def seqQ (k : Kq) (ex : Ex) (st : St) : Rq := @Ex.rec (fun _ => Rq) (onQ k st) (fun id => some (.exit id, st)) (some (.ret, st)) (fun c => some (.pan c, st)) ex
noncomputable def blkQ (id : Nat) (ex : Ex) (st : St) : Rq :=
  @Ex.rec (fun _ => Rq) (some (.normal, st)) (fun id' => @Bool.rec (fun _ => Rq) (some (.exit id', st)) (some (.normal, st)) (Nat.beq id' id)) (some (.ret, st)) (fun c => some (.pan c, st)) ex
noncomputable def cOk (e : Ex) (_ : Rx) (_ : Cx) (_ : CallFn) (_ : Bool) (tm : Tr Value) (df : List Deferred) (u : FrameMode) (h : Heap) : Rq := some (e, ⟨tm, df, u, h⟩)
noncomputable def cNo (_ : Rx) (_ : Cx) (_ : CallFn) (_ : Bool) (_ : Tr Value) (_ : List Deferred) (_ : FrameMode) (_ : Heap) : Rq := none
noncomputable def cReg (_ : Nat) (ops : Array Oper) (draw : Bool) (_ : Rx) (cx : Cx) (cf : CallFn) (dk : Bool) (tm : Tr Value) (df : List Deferred) (u : FrameMode) (h : Heap) : Rq :=
  @Bool.rec (fun _ => Rq) (opsG cx cf dk ops.toList ops.toList tm df u h) (drawG cx cf ops.toList ⟨tm, df, u, h⟩) draw
noncomputable def cSeq (a b : Code) (r : Rx) (_ : Cx) (_ : CallFn) (_ : Bool) (tm : Tr Value) (df : List Deferred) (u : FrameMode) (h : Heap) : Rq := bndQ (r a tm df u h) (seqQ (r b))
noncomputable def cCond (c : Operand) (a b : Code) (r : Rx) (_ : Cx) (_ : CallFn) (_ : Bool) (tm : Tr Value) (df : List Deferred) (u : FrameMode) (h : Heap) : Rq :=
  @Option.rec Value (fun _ => Rq) none (fun v => @Option.rec Bool (fun _ => Rq) none (fun bb => @Bool.rec (fun _ => Rq) (r b tm df u h) (r a tm df u h) bb) (boolV v)) (evG c tm)
noncomputable def cBlk (id : Nat) (a : Code) (r : Rx) (_ : Cx) (_ : CallFn) (_ : Bool) (tm : Tr Value) (df : List Deferred) (u : FrameMode) (h : Heap) : Rq := bndQ (r a tm df u h) (blkQ id)
noncomputable def cLoop (a : Code) (r : Rx) (_ : Cx) (_ : CallFn) (_ : Bool) (tm : Tr Value) (df : List Deferred) (u : FrameMode) (h : Heap) : Rq := bndQ (r a tm df u h) (seqQ (r (.loop a)))
noncomputable def cScope (a : Code) (r : Rx) (_ : Cx) (_ : CallFn) (_ : Bool) (tm : Tr Value) (df : List Deferred) (u : FrameMode) (h : Heap) : Rq := r a tm df u h

noncomputable def cdisp : Code → Cc := @Code.rec (fun _ => Cc) (cOk .normal) cReg (fun a b _ _ => cSeq a b) (fun c a b _ _ => cCond c a b) (fun id a _ => cBlk id a) (fun a _ => cLoop a)
  (fun _ _ _ _ _ _ => cNo) (fun id => cOk (.exit id)) (fun a _ => cScope a) (fun _ => cOk .normal) (fun _ => cNo) (cOk .ret) (fun _ => cNo)

noncomputable def execG (cx : Cx) (cf : CallFn) (dk : Bool) : Nat → Rx :=
  @Nat.rec (fun _ => Rx) (fun _ _ _ _ _ => none) (fun _ ih c => cdisp c ih cx cf dk)

theorem seqQ_eq (k : Kq) (f : St → Rq) (hk : ∀ tm df u h, k tm df u h = f ⟨tm, df, u, h⟩) (r : Rq) : bndQ r (seqQ k) = match r with
      | some (.normal, st) => f st
      | r => r := by
  cases r with
  | none => rfl
  | some p =>
    obtain ⟨ex, st⟩ := p
    cases ex with
    | normal => obtain ⟨tm, df, u, h⟩ := st; exact hk tm df u h
    | exit id => rfl
    | ret => rfl
    | pan c => rfl

theorem execG_eq (cx : Cx) (cf : CallFn) (dk : Bool) : ∀ (n : Nat) (c : Code) (tm : Tr Value) (df : List Deferred) (u : FrameMode) (h : Heap),
    execG cx cf dk n c tm df u h = exec cx cf dk n c ⟨tm, df, u, h⟩ := by
  intro n
  induction n with
  | zero => intro c tm df u h; rfl
  | succ n ih =>
    intro c tm df u h
    show cdisp c (execG cx cf dk n) cx cf dk tm df u h = _
    cases c with
    | region id ops draw =>
      cases draw
      · exact opsG_eq cx cf dk ops.toList ops.toList tm df u h
      · exact drawG_eq cx cf ops.toList ⟨tm, df, u, h⟩
    | seq a b =>
      show bndQ (execG cx cf dk n a tm df u h) (seqQ (execG cx cf dk n b)) = _
      rw [ih, seqQ_eq _ (exec cx cf dk n b) (ih b)]
      simp only [exec]
      cases exec cx cf dk n a ⟨tm, df, u, h⟩ with
      | none => rfl
      | some p => obtain ⟨e, s⟩ := p; cases e <;> rfl
    | cond c a b =>
      show cCond c a b (execG cx cf dk n) cx cf dk tm df u h = _
      unfold cCond
      simp only [exec, evG_eq, ih]
      cases ev tm c with
      | none => rfl
      | some v => cases v <;> first | rfl | (rename_i b; cases b <;> rfl)
    | block id a =>
      show bndQ (execG cx cf dk n a tm df u h) (blkQ id) = _
      rw [ih]
      simp only [exec]
      cases exec cx cf dk n a ⟨tm, df, u, h⟩ with
      | none => rfl
      | some p =>
        obtain ⟨e, s⟩ := p
        cases e with
        | exit id' =>
          show @Bool.rec (fun _ => Rq) (some (.exit id', s)) (some (.normal, s)) (Nat.beq id' id) = _
          dsimp only
          cases Nat.beq id' id <;> rfl
        | _ => rfl
    | loop a =>
      show bndQ (execG cx cf dk n a tm df u h) (seqQ (execG cx cf dk n (.loop a))) = _
      rw [ih, seqQ_eq _ (exec cx cf dk n (.loop a)) (ih (.loop a))]
      simp only [exec]
      cases exec cx cf dk n a ⟨tm, df, u, h⟩ with
      | none => rfl
      | some p => obtain ⟨e, s⟩ := p; cases e <;> rfl
    | scope a => exact ih a tm df u h
    | _ => rfl

/-! ### Calls -/
noncomputable def conO (v : Value) (o : Option (List Value)) : Option (List Value) := @Option.rec (List Value) (fun _ => Option (List Value)) none (fun vs => some (v :: vs)) o
noncomputable def resG (cx : Cx) (tm : Tr Value) (h : Heap) : List ResultVar → Option (List Value) := @List.rec ResultVar (fun _ => Option (List Value)) (some [])
  (fun r _ ih => @ResultVar.rec (fun _ => Option (List Value)) (fun t => @Option.rec Value (fun _ => Option (List Value)) none (fun v => conO v ih) (gV (pathOf t) tm))
    (fun a t => @Option.rec Value (fun _ => Option (List Value)) none (fun v => @Option.rec Addr (fun _ => Option (List Value)) none (fun ad => @Option.rec Value (fun _ => Option (List Value)) none (fun w => conO w ih) (loadG cx t h ad)) (ptrV v)) (gV (pathOf a) tm)) r)
theorem resG_eq (cx : Cx) (tm : Tr Value) (h : Heap) : ∀ (l : List ResultVar), resG cx tm h l = resE cx tm h l
  | [] => by simp [resE]; rfl
  | .tmp t :: l => by
    show @Option.rec Value (fun _ => Option (List Value)) none (fun v => conO v (resG cx tm h l)) (gV (pathOf t) tm) = _
    rw [gV_eq, resG_eq cx tm h l]
    simp only [resE]
    cases tm.get t with
    | none => rfl
    | some v => cases resE cx tm h l <;> rfl
  | .cell a t :: l => by
    show @Option.rec Value (fun _ => Option (List Value)) none (fun v => @Option.rec Addr (fun _ => Option (List Value)) none (fun ad => @Option.rec Value (fun _ => Option (List Value)) none (fun w => conO w (resG cx tm h l)) (loadG cx t h ad)) (ptrV v)) (gV (pathOf a) tm) = _
    simp only [gV_eq, resG_eq cx tm h l, loadG_eq]
    simp only [resE]
    cases tm.get a with
    | none => rfl
    | some v =>
      cases v <;> try rfl
      rename_i ad
      cases ad with
      | none => rfl
      | some ad =>
        dsimp only
        show @Option.rec Value (fun _ => Option (List Value)) none (fun w => conO w (resE cx tm h l)) (loadT cx h t ad) = _
        cases loadT cx h t ad with
        | none => rfl
        | some w => cases resE cx tm h l <;> rfl

noncomputable def oneG : List Value → Value := @List.rec Value (fun _ => Value) (.tuple #[]) (fun v l _ => @List.rec Value (fun _ => Value) v (fun w l _ => .tuple ⟨v :: w :: l⟩) l)
theorem oneG_eq : ∀ l, oneG l = one l
  | [] => rfl
  | [_] => rfl
  | _ :: _ :: _ => rfl

noncomputable def retQ (o : Option (List Value)) (h : Heap) : Option (Fin × Heap) := @Option.rec (List Value) (fun _ => Option (Fin × Heap)) none (fun vs => some (.ret (oneG vs), h)) o
noncomputable def leaveG (cx : Cx) (cf : CallFn) (n : Nat) (fn : Func) (tm : Tr Value) (h : Heap) : List Deferred → Option (Fin × Heap) :=
  @List.rec Deferred (fun _ => Option (Fin × Heap)) (retQ (resG cx tm h fn.results.toList) h) (fun d ds _ => leave cx (callD cx cf n) fn tm (d :: ds) .returning h)
theorem leaveG_eq (cx : Cx) (cf : CallFn) (n : Nat) (fn : Func) (tm : Tr Value) (h : Heap) (ds : List Deferred) :
    leaveG cx cf n fn tm h ds = leave cx (callD cx cf n) fn tm ds .returning h := by
  cases ds with
  | cons d ds => rfl
  | nil =>
    show retQ (resG cx tm h fn.results.toList) h = _
    rw [resG_eq]
    simp only [leave]
    cases resE cx tm h fn.results.toList with
    | none => rfl
    | some vs => show some (Fin.ret (oneG vs), h) = _; rw [oneG_eq]

noncomputable def finG (cx : Cx) (cf : CallFn) (n : Nat) (fn : Func) (ex : Ex) (st : St) : Option (Fin × Heap) :=
  @Ex.rec (fun _ => Option (Fin × Heap)) (leaveG cx cf n fn st.tm st.h st.df) (fun _ => none) (leaveG cx cf n fn st.tm st.h st.df)
    (fun chain => leave cx (callD cx cf n) fn st.tm st.df (.panicking chain) st.h) ex

noncomputable def callG2 (cx : Cx) (cf : CallFn) (n : Nat) (args : List Value) (h : Heap) (x : Func × Code) : Option (Fin × Heap) :=
  @Option.rec (Ex × St) (fun _ => Option (Fin × Heap)) none (fun p => @Prod.rec Ex St (fun _ => Option (Fin × Heap)) (finG cx cf n x.1) p) (execG cx cf false n x.2 (argsG args 0 .nil) [] .run h)

noncomputable def callG1 (cx : Cx) (cf : CallFn) (n f : Nat) (args : List Value) (h : Heap) : Option (Fin × Heap) :=
  @Option.rec _ (fun _ => Option (Fin × Heap)) (@Option.rec _ (fun _ => Option (Fin × Heap)) none (callG2 cx cf n args h) (cx.fn f)) (fun g => g args h) (cx.ext f)

noncomputable def callG (cx : Cx) : Nat → CallFn :=
  @Nat.rec (fun _ => CallFn) (fun _ _ _ => none) (fun n ih => callG1 cx ih n)

theorem callG_eq (cx : Cx) : ∀ (n f : Nat) (args : List Value) (h : Heap), callG cx n f args h = call cx n f args h := by
  intro n
  induction n with
  | zero => intro f args h; rfl
  | succ n ih =>
    intro f args h
    show callG1 cx (callG cx n) n f args h = _
    have ih' : callG cx n = call cx n := by funext f args h; exact ih f args h
    rw [ih']
    unfold callG1
    simp only [call]
    cases cx.ext f with
    | some g => rfl
    | none =>
      cases cx.fn f with
      | none => rfl
      | some x =>
        obtain ⟨fn, c⟩ := x
        show callG2 cx (call cx n) n args h (fn, c) = _
        unfold callG2
        simp only [execG_eq, argsG_eq]
        cases exec cx (call cx n) false n c ⟨argsT 0 args .nil, [], .run, h⟩ with
        | none => rfl
        | some p =>
          obtain ⟨e, s⟩ := p
          cases e with
          | normal => exact leaveG_eq cx (call cx n) n fn s.tm s.h s.df
          | ret => exact leaveG_eq cx (call cx n) n fn s.tm s.h s.df
          | _ => rfl

end Go.Em
