/-
  Code and calls with some statements at hand in the quick form.
-/
import Derived.Test.YtbfhilhkmicelaaGreatJ2
namespace Go.Em

abbrev Fast := CallFn → Tr Value → Heap → Rz
abbrev FT := List (Nat × Fast)
abbrev Reg := Nat × Array Oper × Bool

noncomputable def lkF (id : Nat) : FT → Option Fast := @List.rec (Nat × Fast) (fun _ => Option Fast) none (fun p _ ih => @Bool.rec (fun _ => Option Fast) ih (some p.2) (Nat.beq p.1 id))
theorem lkF_nil (id : Nat) : lkF id [] = none := rfl
theorem lkF_cons (id : Nat) (p : Nat × Fast) (R : FT) : lkF id (p :: R) = if p.1 = id then some p.2 else lkF id R := by
  show @Bool.rec (fun _ => Option Fast) (lkF id R) (some p.2) (Nat.beq p.1 id) = _
  by_cases h : p.1 = id
  · simp [h]
  · have : Nat.beq p.1 id = false := by
      cases e : Nat.beq p.1 id with
      | false => rfl
      | true => exact absurd (Nat.eq_of_beq_eq_true e) h
    simp [h, this]

/-- A code's statements. -/
noncomputable def regs : Code → List Reg
  | .region id ops d => [(id, ops, d)]
  | .seq a b => regs a ++ regs b
  | .cond _ a b => regs a ++ regs b
  | .block _ a => regs a
  | .loop a => regs a
  | .scope a => regs a
  | _ => []

noncomputable def comp (cx : Cx) (p : Reg) : Fast := fun cf tm h => match p.2.2 with
  | false => cmpR cx cf p.2.1.toList p.2.1.toList [] .nil tm h
  | true => match statS p.2.1.toList with
    | some _ => cmpD cx cf p.2.1.toList [] .nil tm h
    | none => none

noncomputable def ordH (k : Rq) (df : List Deferred) (u : FrameMode) (r : Rz) : Rq := @Option.rec (Tr Value × Heap) (fun _ => Rq) k (fun p => @Prod.rec (Tr Value) Heap (fun _ => Rq) (fun tm h => some (.normal, ⟨tm, df, u, h⟩)) p) r
noncomputable def drwH (k : Rq) (df : List Deferred) (u : FrameMode) (r : Rz) : Rq :=
  @Option.rec (Tr Value × Heap) (fun _ => Rq) k (fun p => @Prod.rec (Tr Value) Heap (fun _ => Rq) (fun tm h => @Bool.rec (fun _ => Rq) k (some (.normal, ⟨tm, df, u, h⟩)) (Nat.ble (Heap.nx h) big)) p) r
noncomputable def regH (R : FT) (id : Nat) (ops : Array Oper) (draw : Bool) (r : Rx) (cx : Cx) (cf : CallFn) (dk : Bool) (tm : Tr Value) (df : List Deferred) (u : FrameMode) (h : Heap) : Rq :=
  @Option.rec Fast (fun _ => Rq) (cReg id ops draw r cx cf dk tm df u h)
    (fun fast => @Bool.rec (fun _ => Rq) (ordH (cReg id ops draw r cx cf dk tm df u h) df u (fast cf tm h))
      (drwH (cReg id ops draw r cx cf dk tm df u h) df u (fast cf tm ⟨Heap.tr h, Nat.add (Heap.nx h) (List.length ops.toList), Heap.dt h⟩)) draw) (lkF id R)

theorem regH_eq {cx : Cx} {R : FT} {id : Nat} {ops : Array Oper} {draw : Bool} (HR : ∀ fast, lkF id R = some fast → fast = comp cx (id, ops, draw)) (r : Rx) (cf : CallFn) (tm : Tr Value) (df : List Deferred) (u : FrameMode) (h : Heap) :
    regH R id ops draw r cx cf false tm df u h = cReg id ops draw r cx cf false tm df u h := by
  unfold regH
  cases hl : lkF id R with
  | none => rfl
  | some fast =>
    have hf := HR fast hl
    cases draw with
    | false =>
      show ordH (cReg id ops false r cx cf false tm df u h) df u (fast cf tm h) = _
      cases hr : fast cf tm h with
      | none => rfl
      | some p =>
        obtain ⟨tm', h'⟩ := p
        rw [hf] at hr
        have := cmpR_ok (Con.start tm) hr df u
        show some (Ex.normal, (⟨tm', df, u, h'⟩ : St)) = opsG cx cf false ops.toList ops.toList tm df u h
        rw [opsG_eq]
        exact this.symm
    | true =>
      show drwH (cReg id ops true r cx cf false tm df u h) df u (fast cf tm ⟨h.tr, h.nx + ops.toList.length, h.dt⟩) = _
      cases hr : fast cf tm ⟨h.tr, h.nx + ops.toList.length, h.dt⟩ with
      | none => rfl
      | some p =>
        obtain ⟨tm', h'⟩ := p
        show @Bool.rec (fun _ => Rq) (cReg id ops true r cx cf false tm df u h) (some (.normal, ⟨tm', df, u, h'⟩)) (Nat.ble h'.nx big) = _
        cases hb : Nat.ble h'.nx big with
        | false => rfl
        | true =>
          rw [hf] at hr
          simp only [comp] at hr
          cases hs : statS ops.toList with
          | none => rw [hs] at hr; cases hr
          | some ms =>
            rw [hs] at hr
            have hm : masksS ops.toList 0 .nil = some ms := by
              unfold statS at hs
              cases hm : masksS ops.toList 0 .nil with
              | none => rw [hm] at hs; cases hs
              | some ms' =>
                rw [hm] at hs
                dsimp only at hs
                split at hs
                · cases hs; rfl
                · cases hs
            have := cmpD_ok (base := h.nx) (all := ops.toList) (Con.start tm) hm hr
            show some (Ex.normal, (⟨tm', df, u, h'⟩ : St)) = drawG cx cf ops.toList ⟨tm, df, u, h⟩
            unfold drawG
            rw [hs]
            show _ = @Option.rec (Tr Value × Heap × Mks) (fun _ => Option (Ex × St)) (drawE cx cf ops.toList ⟨tm, df, u, h⟩) (drawK cx cf ops.toList ⟨tm, df, u, h⟩)
              (trG cx cf h.nx ops.toList ops.toList ms 0 tm ⟨h.tr, h.nx + ops.toList.length, h.dt⟩ [])
            have e : trG cx cf h.nx ops.toList ops.toList ms 0 tm ⟨h.tr, h.nx + ops.toList.length, h.dt⟩ [] = some (tm', h', []) := this
            rw [e]
            show _ = @Bool.rec (fun _ => Rq) (drawE cx cf ops.toList ⟨tm, df, u, h⟩) (some (.normal, ⟨tm', df, u, gvG h' []⟩)) (Nat.ble h'.nx big)
            rw [hb]
            rfl

noncomputable def cdispH (R : FT) : Code → Cc := @Code.rec (fun _ => Cc) (cOk .normal) (regH R) (fun a b _ _ => cSeq a b) (fun c a b _ _ => cCond c a b) (fun id a _ => cBlk id a) (fun a _ => cLoop a)
  (fun _ _ _ _ _ _ => cNo) (fun id => cOk (.exit id)) (fun a _ => cScope a) (fun _ => cOk .normal) (fun _ => cNo) (cOk .ret) (fun _ => cNo)
noncomputable def execH (cx : Cx) (cf : CallFn) (R : FT) : Nat → Rx :=
  @Nat.rec (fun _ => Rx) (fun _ _ _ _ _ => none) (fun _ ih c => cdispH R c ih cx cf false)

theorem execH_eq {cx : Cx} {R : FT} (cf : CallFn) : ∀ (n : Nat) (c : Code), (∀ p ∈ regs c, ∀ fast, lkF p.1 R = some fast → fast = comp cx p) → ∀ (tm : Tr Value) (df : List Deferred) (u : FrameMode) (h : Heap),
    execH cx cf R n c tm df u h = exec cx cf false n c ⟨tm, df, u, h⟩ := by
  intro n
  induction n with
  | zero => intro c _ tm df u h; rfl
  | succ n ih =>
    intro c HR tm df u h
    rw [← execG_eq]
    show cdispH R c (execH cx cf R n) cx cf false tm df u h = cdisp c (execG cx cf false n) cx cf false tm df u h
    have ih' : ∀ c, (∀ p ∈ regs c, ∀ fast, lkF p.1 R = some fast → fast = comp cx p) → execH cx cf R n c = execG cx cf false n c := by
      intro c hc
      funext tm df u h
      rw [ih c hc, execG_eq]
    cases c with
    | region id ops draw =>
      show regH R id ops draw (execH cx cf R n) cx cf false tm df u h = _
      rw [regH_eq (fun fast hl => HR (id, ops, draw) (by simp [regs]) fast hl)]
      rfl
    | seq a b =>
      show bndQ (execH cx cf R n a tm df u h) (seqQ (execH cx cf R n b)) = bndQ (execG cx cf false n a tm df u h) (seqQ (execG cx cf false n b))
      rw [ih' a (fun p hp => HR p (by simp [regs, hp])), ih' b (fun p hp => HR p (by simp [regs, hp]))]
    | cond c a b =>
      show cCond c a b (execH cx cf R n) cx cf false tm df u h = cCond c a b (execG cx cf false n) cx cf false tm df u h
      unfold cCond
      rw [ih' a (fun p hp => HR p (by simp [regs, hp])), ih' b (fun p hp => HR p (by simp [regs, hp]))]
    | block id a =>
      show bndQ (execH cx cf R n a tm df u h) (blkQ id) = bndQ (execG cx cf false n a tm df u h) (blkQ id)
      rw [ih' a (fun p hp => HR p (by simpa [regs] using hp))]
    | loop a =>
      show bndQ (execH cx cf R n a tm df u h) (seqQ (execH cx cf R n (.loop a))) = bndQ (execG cx cf false n a tm df u h) (seqQ (execG cx cf false n (.loop a)))
      rw [ih' a (fun p hp => HR p (by simpa [regs] using hp)), ih' (.loop a) (fun p hp => HR p (by simpa [regs] using hp))]
    | scope a =>
      show execH cx cf R n a tm df u h = execG cx cf false n a tm df u h
      rw [ih' a (fun p hp => HR p (by simpa [regs] using hp))]
    | _ => rfl

/-! ### Tables of statements -/
noncomputable def compT (cx : Cx) (sup : List Nat) : List Reg → FT
  | [] => []
  | p :: l => match memN p.1 sup with
    | true => (p.1, comp cx p) :: compT cx sup l
    | false => compT cx sup l
noncomputable def hasId (n : Nat) : List Reg → Bool
  | [] => false
  | p :: l => match Nat.beq p.1 n with
    | true => true
    | false => hasId n l
noncomputable def ndB : List Reg → Bool
  | [] => true
  | p :: l => match hasId p.1 l with
    | true => false
    | false => ndB l

theorem hasId_mem {n : Nat} : ∀ {l : List Reg}, hasId n l = false → ∀ p ∈ l, p.1 ≠ n
  | [], _, p, hp => by cases hp
  | q :: l, h, p, hp => by
    simp only [hasId] at h
    cases hb : Nat.beq q.1 n with
    | true => rw [hb] at h; cases h
    | false =>
      rw [hb] at h
      rcases List.mem_cons.1 hp with rfl | hp
      · intro e
        rw [e, Nat.beq_refl] at hb; cases hb
      · exact hasId_mem h p hp

theorem compT_none {cx : Cx} {sup : List Nat} {n : Nat} : ∀ {l : List Reg}, (∀ p ∈ l, p.1 ≠ n) → lkF n (compT cx sup l) = none
  | [], _ => rfl
  | q :: l, h => by
    have ih := compT_none (cx := cx) (sup := sup) (n := n) (l := l) (fun p hp => h p (by simp [hp]))
    simp only [compT]
    cases memN q.1 sup with
    | false => exact ih
    | true =>
      dsimp only
      rw [lkF_cons, if_neg (h q (by simp))]
      exact ih

theorem compT_ok {cx : Cx} {sup : List Nat} : ∀ {l : List Reg}, ndB l = true → ∀ p ∈ l, ∀ fast, lkF p.1 (compT cx sup l) = some fast → fast = comp cx p
  | [], _, p, hp, _, _ => by cases hp
  | q :: l, h, p, hp, fast, hl => by
    simp only [ndB] at h
    cases hi : hasId q.1 l with
    | true => rw [hi] at h; cases h
    | false =>
      rw [hi] at h
      have hm := hasId_mem hi
      simp only [compT] at hl
      rcases List.mem_cons.1 hp with rfl | hp
      · cases hs : memN p.1 sup with
        | false =>
          rw [hs] at hl
          dsimp only at hl
          rw [compT_none hm] at hl
          cases hl
        | true =>
          rw [hs] at hl
          dsimp only at hl
          rw [lkF_cons, if_pos rfl] at hl
          cases hl; rfl
      · cases hs : memN q.1 sup with
        | false => rw [hs] at hl; exact compT_ok h p hp fast hl
        | true =>
          rw [hs] at hl
          dsimp only at hl
          rw [lkF_cons, if_neg (fun e => hm p hp e.symm)] at hl
          exact compT_ok h p hp fast hl

/-- A function's table is right. -/
def JOk (cx : Cx) (f : Nat) (R : FT) : Prop := ∃ sup x, cx.fn f = some x ∧ R = compT cx sup (regs x.2) ∧ ndB (regs x.2) = true

noncomputable def callH2 (cx : Cx) (cf : CallFn) (R : FT) (n : Nat) (args : List Value) (h : Heap) (x : Func × Code) : Option (Fin × Heap) :=
  @Option.rec (Ex × St) (fun _ => Option (Fin × Heap)) none (fun p => @Prod.rec Ex St (fun _ => Option (Fin × Heap)) (finG cx cf n x.1) p) (execH cx cf R n x.2 (argsG args 0 .nil) [] .run h)
noncomputable def tabH (jt : Tr FT) (f : Nat) : FT := @Option.rec FT (fun _ => FT) [] (fun R => R) (jt.get f)
noncomputable def callH1 (cx : Cx) (jt : Tr FT) (cf : CallFn) (n f : Nat) (args : List Value) (h : Heap) : Option (Fin × Heap) :=
  @Option.rec _ (fun _ => Option (Fin × Heap)) (@Option.rec _ (fun _ => Option (Fin × Heap)) none (callH2 cx cf (tabH jt f) n args h) (cx.fn f)) (fun g => g args h) (cx.ext f)
noncomputable def callH (cx : Cx) (jt : Tr FT) : Nat → CallFn :=
  @Nat.rec (fun _ => CallFn) (fun _ _ _ => none) (fun n ih => callH1 cx jt ih n)

theorem callH_eq {cx : Cx} {jt : Tr FT} (HJ : ∀ f R, jt.get f = some R → JOk cx f R) : ∀ (n f : Nat) (args : List Value) (h : Heap), callH cx jt n f args h = callG cx n f args h := by
  intro n
  induction n with
  | zero => intro f args h; rfl
  | succ n ih =>
    intro f args h
    show callH1 cx jt (callH cx jt n) n f args h = callG1 cx (callG cx n) n f args h
    have ih' : callH cx jt n = callG cx n := by funext f args h; exact ih f args h
    rw [ih']
    unfold callH1 callG1
    cases cx.ext f with
    | some g => rfl
    | none =>
      cases hx : cx.fn f with
      | none => rfl
      | some x =>
        show callH2 cx (callG cx n) (tabH jt f) n args h x = callG2 cx (callG cx n) n args h x
        unfold callH2 callG2
        rw [execH_eq, execG_eq]
        intro p hp fast hl
        unfold tabH at hl
        cases hj : jt.get f with
        | none => rw [hj] at hl; cases hl
        | some R =>
          rw [hj] at hl
          obtain ⟨sup, x', hx', hR, hn⟩ := HJ f R hj
          rw [hx] at hx'
          cases hx'
          have hl' : lkF p.1 R = some fast := hl
          rw [hR] at hl'
          exact compT_ok hn p hp fast hl'

end Go.Em
