/-
  Quick forms of the evaluator's statements, in the text's order and open ones.
-/
import Derived.Test.YtbfhilhkmicelaaGreatG1
namespace Go.Em

/-! ### Is an operation wanted? -/
noncomputable def guS (ops : List Oper) (j : Nat) : Option Nat := match operAt ops j with
  | some g => g.dst
  | none => none
noncomputable def eqB (b want : Bool) : Bool := @Bool.rec (fun _ => Bool) (@Bool.rec (fun _ => Bool) true false want) want b
noncomputable def tupS (v : Value) : Option Bool := match v with
  | .tuple _ => some false
  | _ => none
noncomputable def wantF (ops : List Oper) (tm : Tr Value) (j : Nat) (want : Bool) : Option Bool :=
  @Option.rec Nat (fun _ => Option Bool) none (fun d => @Option.rec Value (fun _ => Option Bool) none (fun v => @Option.rec Bool (fun _ => Option Bool) (tupS v) (fun b => some (eqB b want)) (boolV v)) (gV (pathOf d) tm)) (guS ops j)
noncomputable def wantG (o : Oper) (ops : List Oper) (tm : Tr Value) : Option Bool :=
  @Option.rec (Nat × Bool) (fun _ => Option Bool) (some true) (fun p => wantF ops tm p.1 p.2) o.guard
theorem eqB_eq (b want : Bool) : eqB b want = (b == want) := by cases b <;> cases want <;> rfl
theorem wantG_eq (o : Oper) (ops : List Oper) (tm : Tr Value) : wantG o ops tm = wantE ops tm o := by
  unfold wantG wantE
  cases o.guard with
  | none => rfl
  | some p =>
    obtain ⟨j, want⟩ := p
    show wantF ops tm j want = _
    unfold wantF guS
    simp only [gV_eq, eqB_eq]
    cases operAt ops j with
    | none => rfl
    | some g =>
      dsimp only
      cases g.dst with
      | none => rfl
      | some d =>
        dsimp only
        cases tm.get d with
        | none => rfl
        | some v => cases v <;> rfl

noncomputable def putG (tm : Tr Value) (dst : Option Nat) (v : Value) : Tr Value := @Option.rec Nat (fun _ => Tr Value) tm (fun d => sV (pathOf d) (some v) tm) dst
theorem putG_eq (tm : Tr Value) (dst : Option Nat) (v : Value) : putG tm dst v = putT tm dst v := by
  cases dst with
  | none => rfl
  | some d => exact sV_eq d (some v) tm

/-! ### What can be told of an open statement ahead -/
noncomputable def masksS : List Oper → Nat → Tr Nat → Option (List Nat)
  | [], _, _ => some []
  | o :: l, i, ms => match maskE ms i o.after.toList with
    | none => none
    | some m => match masksS l (i + 1) (ms.set i (some m)) with
      | none => none
      | some r => some (m :: r)

/-- It looks at no memory. -/
noncomputable def pureO : Op → Bool
  | .load _ _ => false
  | .lookup _ _ _ _ => false
  | .slice _ _ _ _ _ => false
  | .convert _ _ _ => false
  | .call _ => false
  | _ => true

noncomputable def kindS (a b : Op) : Bool := match isEff a, isEff b with
  | true, true => false
  | true, false => isMake b || pureO b
  | false, true => isMake a || pureO a
  | false, false => true

noncomputable def pairS (all : List Oper) (i : Nat) (x y : Oper) (my : Nat) : Bool := match Nat.testBit my i with
  | true => match x.dst, y.dst with
    | some a, some b => !Nat.beq a b
    | _, _ => true
  | false => (match x.dst with
      | some d => !memN d (reads all y) && (match y.dst with
        | some e => !Nat.beq d e
        | none => true)
      | none => true) &&
    (match y.dst with
      | some d => !memN d (reads all x)
      | none => true) && kindS x.op y.op

noncomputable def pairsS (all : List Oper) (y : Oper × Nat) : Nat → List (Oper × Nat) → Bool
  | _, [] => true
  | 0, _ :: _ => false
  | i + 1, x :: l => match pairS all i x.1 y.1 y.2 with
    | true => pairsS all y i l
    | false => false

noncomputable def traceS (all : List Oper) : Nat → List (Oper × Nat) → Bool
  | _, [] => true
  | 0, _ :: _ => false
  | i + 1, y :: l => match pairsS all y i l with
    | true => traceS all i l
    | false => false

/-- What an operation came to is of its kind. -/
def GoodK (o : Op) : Kd → Prop
  | .eff .. => isEff o = true
  | .pan .. => False
  | .lod .. => isEff o = false ∧ isMake o = false ∧ pureO o = false
  | _ => True

theorem pairS_ok {all : List Oper} {i : Nat} {x y : Sn} (h : pairS all i x.o y.o y.mask = true) (hx : GoodK x.o.op x.kd) (hy : GoodK y.o.op y.kd) : pairOk all i x y = true := by
  unfold pairS at h
  unfold pairOk
  cases ht : Nat.testBit y.mask i with
  | true => rw [ht] at h; exact h
  | false =>
    rw [ht] at h
    simp only [Bool.and_eq_true] at h ⊢
    refine ⟨h.1, ?_⟩
    have hk := h.2
    unfold kindS at hk
    cases ex : x.kd <;> cases ey : y.kd <;> simp only [ex, ey, GoodK] at hx hy ⊢ <;> first | rfl | exact hx.elim | exact hy.elim | skip
    · simp [hx.1, hx.2.1, hx.2.2, hy] at hk
    · simp [hy.1, hy.2.1, hy.2.2, hx] at hk
    · simp [hx, hy] at hk

theorem pairsS_ok {all : List Oper} {y : Sn} (hy : GoodK y.o.op y.kd) : ∀ (n : Nat) (l : List Sn), (∀ s ∈ l, GoodK s.o.op s.kd) →
    pairsS all (y.o, y.mask) n (l.map fun s => (s.o, s.mask)) = true → pairsOk all y n l = true
  | _, [], _, _ => by simp [pairsOk]
  | 0, _ :: _, _, h => by simp [pairsS] at h
  | n + 1, x :: l, hl, h => by
    simp only [List.map_cons, pairsS] at h
    simp only [pairsOk]
    cases hp : pairS all n x.o y.o y.mask with
    | false => rw [hp] at h; exact Bool.noConfusion h
    | true =>
      rw [hp] at h
      rw [pairS_ok hp (hl x (by simp)) hy]
      exact pairsS_ok hy n l (fun s hs => hl s (by simp [hs])) h

theorem traceS_ok {all : List Oper} : ∀ (n : Nat) (l : List Sn), (∀ s ∈ l, GoodK s.o.op s.kd) → traceS all n (l.map fun s => (s.o, s.mask)) = true → traceOk all n l = true
  | _, [], _, _ => by simp [traceOk]
  | 0, _ :: _, _, h => by simp [traceS] at h
  | n + 1, y :: l, hl, h => by
    simp only [List.map_cons, traceS] at h
    simp only [traceOk]
    cases hp : pairsS all (y.o, y.mask) n (l.map fun s => (s.o, s.mask)) with
    | false => rw [hp] at h; exact Bool.noConfusion h
    | true =>
      rw [hp] at h
      rw [pairsS_ok (hl y (by simp)) n l (fun s hs => hl s (by simp [hs])) hp]
      exact traceS_ok n l (fun s hs => hl s (by simp [hs])) h

noncomputable def noOdd : List Oper → Bool
  | [] => true
  | o :: l => match isOdd o.op with
    | true => false
    | false => noOdd l

inductive Cl where
  | mak
  | eff
  | oth
noncomputable def clO (o : Op) : Cl := match isMake o, isEff o with
  | true, _ => .mak
  | false, true => .eff
  | false, false => .oth

noncomputable def statS (ops : List Oper) : Option (List Nat) := match masksS ops 0 .nil with
  | none => none
  | some ms => match noOdd ops, traceS ops ops.length (ops.zip ms).reverse with
    | true, true => some ms
    | _, _ => none

/-! ### Open statements -/
abbrev Mks := List (Nat × Nat × Obj)
abbrev R3 := Option (Tr Value × Heap × Mks)

noncomputable def relG (mask : Nat) (h : Heap) : Mks → Heap := @List.rec (Nat × Nat × Obj) (fun _ => Heap) h
  (fun p _ ih => @Bool.rec (fun _ => Heap) ih (Heap.put ih p.2.1 (some p.2.2)) (Nat.testBit mask p.1))
noncomputable def unmG (mask : Nat) : Mks → Mks := @List.rec (Nat × Nat × Obj) (fun _ => Mks) []
  (fun p _ ih => @Bool.rec (fun _ => Mks) (p :: ih) ih (Nat.testBit mask p.1))
noncomputable def gvG (h : Heap) : Mks → Heap := @List.rec (Nat × Nat × Obj) (fun _ => Heap) h (fun p _ ih => ⟨sO (pathOf p.2.1) (some p.2.2) (Heap.tr ih), Heap.nx ih, ⟨p.2.1, 0, unk⟩ :: Heap.dt ih⟩)
theorem relG_eq (mask : Nat) (h : Heap) : ∀ l, relG mask h l = release mask l h
  | [] => by simp [release]; rfl
  | (i, n, o) :: l => by
    show @Bool.rec (fun _ => Heap) (relG mask h l) (Heap.put (relG mask h l) n (some o)) (Nat.testBit mask i) = _
    rw [relG_eq mask h l]
    simp only [release]
    cases Nat.testBit mask i <;> rfl
theorem unmG_eq (mask : Nat) : ∀ l, unmG mask l = unmade mask l
  | [] => by simp [unmade]; rfl
  | (i, n, o) :: l => by
    show @Bool.rec (fun _ => Mks) ((i, n, o) :: unmG mask l) (unmG mask l) (Nat.testBit mask i) = _
    rw [unmG_eq mask l]
    simp only [unmade]
    cases Nat.testBit mask i <;> rfl
theorem gvG_eq (h : Heap) : ∀ l, gvG h l = giveAll l h
  | [] => by simp [giveAll]; rfl
  | (i, n, o) :: l => by
    show (⟨sO (pathOf n) (some o) (Heap.tr (gvG h l)), Heap.nx (gvG h l), ⟨n, 0, unk⟩ :: Heap.dt (gvG h l)⟩ : Heap) = _
    rw [gvG_eq h l, sO_eq]
    simp only [giveAll]
    rfl

section
variable (cx : Cx)

/-- The last kind of kdE. -/
noncomputable def lodE (o : Op) (tm : Tr Value) (h : Heap) : Option Kd := match opE cx noCall tm (bare big) o with
        | some (.val v, _) => some (.pur v)
        | some _ => none
        | none => match targetE cx tm o with
          | none => none
          | some t => match h.get t.n with
            | none => none
            | some b => match opE cx noCall tm (only big t.n b) o with
              | some (.val v, _) => some (.lod t v)
              | _ => none

noncomputable def othS (o : Op) (tm : Tr Value) (h : Heap) : Option Value := match lodE cx o tm h with
  | some (.pur v) => some v
  | some (.lod _ v) => some v
  | _ => none
noncomputable def othP (o : Op) (tm : Tr Value) (h : Heap) : Option Value :=
  @Option.rec (Out × Heap) (fun _ => Option Value) (othS cx o tm h) (fun p => @Out.rec (fun _ => Option Value) (fun v => some v) (fun _ => none) (fun _ => none) none p.1) (disp o cx noCall tm (bare big))
noncomputable def othL (t : Nat) (a : Operand) (tm : Tr Value) (h : Heap) : Option Value :=
  @Option.rec Value (fun _ => Option Value) none (fun v => @Option.rec Addr (fun _ => Option Value) none (fun ad => loadG cx t h ad) (ptrV v)) (evG a tm)
noncomputable def loadO : Op → Option (Nat × Operand)
  | .load t a => some (t, a)
  | _ => none
noncomputable def othG (o : Op) (tm : Tr Value) (h : Heap) : Option Value :=
  @Option.rec (Nat × Operand) (fun _ => Option Value) (othP cx o tm h) (fun p => othL cx p.1 p.2 tm h) (loadO o)

theorem target_pure {tm : Tr Value} {o : Op} {t : Part} (h : targetE cx tm o = some t) : pureO o = false := by
  cases o <;> first | rfl | (simp [targetE] at h)

theorem loadN_only {h : Heap} {a : Addr} {n nx : Nat} {b : Obj} (hb : h.get a.block = some b) : loadN (only nx a.block b) a n = loadN h a n := by
  unfold loadN
  have e : (only nx a.block b).get a.block = some b := by
    show (Tr.nil.set a.block (some b)).get a.block = some b
    rw [Tr.get_set]; simp
  rw [e, hb]

theorem othG_spec {o : Op} {tm : Tr Value} {h : Heap} {v : Value} (hg : othG cx o tm h = some v) :
    ∃ kd, lodE cx o tm h = some kd ∧ (kd = .pur v ∨ ∃ t, kd = .lod t v ∧ pureO o = false) := by
  have gen : othP cx o tm h = some v → ∃ kd, lodE cx o tm h = some kd ∧ (kd = .pur v ∨ ∃ t, kd = .lod t v ∧ pureO o = false) := by
    intro hg
    unfold othP at hg
    rw [disp_eq] at hg
    cases hd : opE cx noCall tm (bare big) o with
    | some p =>
      obtain ⟨out, h1⟩ := p
      rw [hd] at hg
      cases out with
      | val v' => cases hg; exact ⟨.pur v, by unfold lodE; rw [hd], .inl rfl⟩
      | pan c => cases hg
      | dfr d => cases hg
      | rcv => cases hg
    | none =>
      rw [hd] at hg
      change othS cx o tm h = some v at hg
      unfold othS at hg
      cases hl : lodE cx o tm h with
      | none => rw [hl] at hg; cases hg
      | some kd =>
        rw [hl] at hg
        cases kd with
        | pur v' => cases hg; exact ⟨_, rfl, .inl rfl⟩
        | lod t v' =>
          cases hg
          refine ⟨_, rfl, .inr ⟨t, rfl, ?_⟩⟩
          unfold lodE at hl
          rw [hd] at hl
          cases ht : targetE cx tm o with
          | none => simp [ht] at hl
          | some t' => exact target_pure cx ht
        | _ => cases hg
  unfold othG at hg
  cases hl : loadO o with
  | none => rw [hl] at hg; exact gen hg
  | some p =>
    obtain ⟨t, a⟩ := p
    have ho : o = .load t a := by
      cases o <;> first | (cases hl; rfl) | cases hl
    subst ho
    change othL cx t a tm h = some v at hg
    unfold othL at hg
    simp only [evG_eq, loadG_eq] at hg
    cases hv : ev tm a with
    | none => rw [hv] at hg; cases hg
    | some pv =>
      rw [hv] at hg
      change @Option.rec Addr (fun _ => Option Value) none (fun ad => loadT cx h t ad) (ptrV pv) = some v at hg
      cases hp : ptrV pv with
      | none => rw [hp] at hg; cases hg
      | some ad =>
        rw [hp] at hg
        change loadT cx h t ad = some v at hg
        have he := ptrV_eq hp
        subst he
        cases ht : cx.ty t with
        | none => simp [loadT, ht] at hg
        | some i =>
          have hb : ∃ b, h.get ad.block = some b := by
            cases hb : h.get ad.block with
            | some b => exact ⟨b, rfl⟩
            | none =>
              exfalso
              have hn : ∀ n, loadN h ad n = none := by
                intro n
                unfold loadN
                rw [hb]
                cases ad.spot <;> rfl
              unfold loadT at hg
              rw [ht] at hg
              simp only [hn] at hg
              cases hq : aggD i.d <;> simp [hq] at hg
          obtain ⟨b, hb⟩ := hb
          have h1 : opE cx noCall tm (bare big) (.load t a) = none := by
            have hn : ∀ n, loadN (bare big) ad n = none := by
              intro n
              unfold loadN
              have : (bare big).get ad.block = none := rfl
              rw [this]
              cases ad.spot <;> rfl
            simp only [opE, hv, loadT, ht, hn]
            cases aggD i.d <;> rfl
          have h2 : opE cx noCall tm (only big ad.block b) (.load t a) = some (.val v, only big ad.block b) := by
            have : loadT cx (only big ad.block b) t ad = loadT cx h t ad := by
              unfold loadT
              simp only [loadN_only hb]
            simp only [opE, hv, this, hg, val]
          refine ⟨.lod ⟨ad.block, ad.off, match aggD i.d with
              | true => i.size
              | false => 1⟩ v, ?_, .inr ⟨_, rfl, rfl⟩⟩
          unfold lodE
          rw [h1]
          have h3 : targetE cx tm (.load t a) = some ⟨ad.block, ad.off, match aggD i.d with
              | true => i.size
              | false => 1⟩ := by simp only [targetE, ht, hv]; rfl
          rw [h3]
          dsimp only
          rw [hb]
          dsimp only
          rw [h2]

variable (cf : CallFn) (base : Nat) (all : List Oper)

abbrev Kt := Tr Value → Heap → Mks → R3

noncomputable def effK (dst : Option Nat) (mask : Nat) (k : Kt) (tm : Tr Value) (h : Heap) (mks : Mks) (r : R1) : R3 :=
  @Option.rec (Out × Heap) (fun _ => R3) none (fun p => @Out.rec (fun _ => R3) (fun v => k (putG tm dst v) ⟨Heap.tr p.2, Heap.nx p.2, Heap.dt p.2 ++ Heap.dt h⟩ (unmG mask mks)) (fun _ => none) (fun _ => none) none p.1) r
noncomputable def makK (i : Nat) (o : Oper) (k : Kt) (tm : Tr Value) (h : Heap) (mks : Mks) (n : Nat) : R3 :=
  @Option.rec (Value × Obj) (fun _ => R3) none (fun p => k (putG tm o.dst p.1) h ((i, n, p.2) :: mks)) (makeE cx tm ⟨.nil, n, []⟩ o.op)
noncomputable def othK (dst : Option Nat) (k : Kt) (tm : Tr Value) (h : Heap) (mks : Mks) (r : Option Value) : R3 :=
  @Option.rec Value (fun _ => R3) none (fun v => k (putG tm dst v) h mks) r
noncomputable def runK (i : Nat) (o : Oper) (mask : Nat) (k : Kt) (tm : Tr Value) (h : Heap) (mks : Mks) : R3 :=
  @Cl.rec (fun _ => R3) (natK (makK cx i o k tm h mks) (Nat.add base i)) (effK o.dst mask k tm h mks (disp o.op cx cf tm (relG mask ⟨Heap.tr h, Heap.nx h, []⟩ mks))) (othK o.dst k tm h mks (othG cx o.op tm h)) (clO o.op)
noncomputable def stK (i : Nat) (o : Oper) (mask : Nat) (k : Kt) (tm : Tr Value) (h : Heap) (mks : Mks) : R3 :=
  @Option.rec Bool (fun _ => R3) none (fun b => @Bool.rec (fun _ => R3) (k (putG tm o.dst undef) h mks) (runK cx cf base i o mask k tm h mks) b) (wantG o all tm)

noncomputable def trG : List Oper → List Nat → Nat → Kt :=
  @List.rec Oper (fun _ => List Nat → Nat → Kt) (fun _ _ tm h mks => some (tm, h, mks))
    (fun o _ ih ms i tm h mks => @List.rec Nat (fun _ => R3) none (fun mask ms _ => stK cx cf base all i o mask (ih ms (Nat.succ i)) tm h mks) ms)

theorem trG_spec : ∀ (l : List Oper) (ms : List Nat) (i : Nat) (mt : Tr Nat) (tm : Tr Value) (h : Heap) (mks : Mks) (tm' : Tr Value) (h' : Heap) (mks' : Mks) (acc : List Sn),
    masksS l i mt = some ms → noOdd l = true → trG cx cf base all l ms i tm h mks = some (tm', h', mks') →
    ∃ tr, traceE cx cf base all l i mt none tm h mks acc = some (tr ++ acc, tm', h', mks') ∧ (tr.map fun s => (s.o, s.mask)) = (l.zip ms).reverse ∧ ∀ s ∈ tr, GoodK s.o.op s.kd
  | [], ms, i, mt, tm, h, mks, tm', h', mks', acc, hm, _, hr => by
    cases hr
    exact ⟨[], by simp [traceE], by simp, by simp⟩
  | o :: l, ms, i, mt, tm, h, mks, tm', h', mks', acc, hm, hod, hr => by
    simp only [masksS] at hm
    cases hk : maskE mt i o.after.toList with
    | none => rw [hk] at hm; cases hm
    | some mask =>
      rw [hk] at hm
      dsimp only at hm
      cases hrest : masksS l (i + 1) (mt.set i (some mask)) with
      | none => rw [hrest] at hm; cases hm
      | some ms1 =>
        rw [hrest] at hm
        cases hm
        have hod1 : isOdd o.op = false ∧ noOdd l = true := by
          simp only [noOdd] at hod
          cases h1 : isOdd o.op with
          | true => rw [h1] at hod; exact Bool.noConfusion hod
          | false => rw [h1] at hod; exact ⟨rfl, hod⟩
        change stK cx cf base all i o mask (trG cx cf base all l ms1 (i + 1)) tm h mks = some (tm', h', mks') at hr
        unfold stK at hr
        rw [wantG_eq] at hr
        have go : ∀ (kd : Kd) (tm1 : Tr Value) (h1 : Heap) (mks1 : Mks), kdE cx cf base i all o mask none tm h mks = some kd → GoodK o.op kd →
            trG cx cf base all l ms1 (i + 1) tm1 h1 mks1 = some (tm', h', mks') →
            (∀ acc, traceE cx cf base all (o :: l) i mt none tm h mks acc = traceE cx cf base all l (i + 1) (mt.set i (some mask)) none tm1 h1 mks1 (⟨o, tm, h, mask, kd⟩ :: acc)) →
            ∃ tr, traceE cx cf base all (o :: l) i mt none tm h mks acc = some (tr ++ acc, tm', h', mks') ∧ (tr.map fun s => (s.o, s.mask)) = ((o :: l).zip (mask :: ms1)).reverse ∧ ∀ s ∈ tr, GoodK s.o.op s.kd := by
          intro kd tm1 h1 mks1 hkd hgood hr1 heq
          obtain ⟨tr, e1, e2, e3⟩ := trG_spec l ms1 (i + 1) (mt.set i (some mask)) tm1 h1 mks1 tm' h' mks' (⟨o, tm, h, mask, kd⟩ :: acc) hrest hod1.2 hr1
          refine ⟨tr ++ [⟨o, tm, h, mask, kd⟩], ?_, ?_, ?_⟩
          · rw [heq, e1]; simp
          · simp [e2]
          · intro s hs
            simp only [List.mem_append, List.mem_singleton] at hs
            rcases hs with hs | rfl
            · exact e3 s hs
            · exact hgood
        cases hw : wantE all tm o with
        | none => rw [hw] at hr; cases hr
        | some b =>
          rw [hw] at hr
          cases b with
          | false =>
            change trG cx cf base all l ms1 (i + 1) (putG tm o.dst undef) h mks = some (tm', h', mks') at hr
            rw [putG_eq] at hr
            have hkd : kdE cx cf base i all o mask none tm h mks = some .no := by simp only [kdE, hw]
            exact go .no _ h mks hkd trivial hr (fun acc => by simp only [traceE, hk, hkd])
          | true =>
            change runK cx cf base i o mask (trG cx cf base all l ms1 (i + 1)) tm h mks = some (tm', h', mks') at hr
            unfold runK clO at hr
            cases h1 : isMake o.op with
            | true =>
              rw [h1] at hr
              change natK (makK cx i o (trG cx cf base all l ms1 (i + 1)) tm h mks) (base + i) = some (tm', h', mks') at hr
              rw [natK_eq] at hr
              unfold makK at hr
              cases hmk : makeE cx tm ⟨.nil, base + i, []⟩ o.op with
              | none => rw [hmk] at hr; cases hr
              | some p =>
                obtain ⟨v, b⟩ := p
                rw [hmk] at hr
                change trG cx cf base all l ms1 (i + 1) (putG tm o.dst v) h ((i, base + i, b) :: mks) = some (tm', h', mks') at hr
                rw [putG_eq] at hr
                have hkd : kdE cx cf base i all o mask none tm h mks = some (.mak (base + i) b v) := by simp only [kdE, hw, hod1.1, h1, hmk]
                exact go _ _ _ _ hkd trivial hr (fun acc => by simp only [traceE, hk, hkd])
            | false =>
              rw [h1] at hr
              cases h2 : isEff o.op with
              | true =>
                rw [h2] at hr
                change effK o.dst mask (trG cx cf base all l ms1 (i + 1)) tm h mks (disp o.op cx cf tm (relG mask ⟨h.tr, h.nx, []⟩ mks)) = some (tm', h', mks') at hr
                rw [disp_eq, relG_eq] at hr
                unfold effK at hr
                cases hop : opE cx cf tm (release mask mks ⟨h.tr, h.nx, []⟩) o.op with
                | none => rw [hop] at hr; cases hr
                | some p =>
                  obtain ⟨out, h3⟩ := p
                  rw [hop] at hr
                  cases out with
                  | val v =>
                    change trG cx cf base all l ms1 (i + 1) (putG tm o.dst v) ⟨h3.tr, h3.nx, h3.dt ++ h.dt⟩ (unmG mask mks) = some (tm', h', mks') at hr
                    rw [putG_eq, unmG_eq] at hr
                    have hkd : kdE cx cf base i all o mask none tm h mks = some (.eff h3.dt ⟨h3.tr, h3.nx, h3.dt ++ h.dt⟩ v) := by simp only [kdE, hw, hod1.1, h1, h2, hop]
                    exact go _ _ _ _ hkd h2 hr (fun acc => by simp only [traceE, hk, hkd])
                  | pan c => cases hr
                  | dfr d => cases hr
                  | rcv => cases hr
              | false =>
                rw [h2] at hr
                change othK o.dst (trG cx cf base all l ms1 (i + 1)) tm h mks (othG cx o.op tm h) = some (tm', h', mks') at hr
                unfold othK at hr
                cases hot : othG cx o.op tm h with
                | none => rw [hot] at hr; cases hr
                | some v =>
                  rw [hot] at hr
                  change trG cx cf base all l ms1 (i + 1) (putG tm o.dst v) h mks = some (tm', h', mks') at hr
                  rw [putG_eq] at hr
                  obtain ⟨kd, hl, hc⟩ := othG_spec cx hot
                  have hkd : kdE cx cf base i all o mask none tm h mks = some kd := by
                    simp only [kdE, hw, hod1.1, h1, h2]
                    exact hl
                  rcases hc with rfl | ⟨t, rfl, hp⟩
                  · exact go _ _ _ _ hkd trivial hr (fun acc => by simp only [traceE, hk, hkd])
                  · exact go _ _ _ _ hkd ⟨h2, h1, hp⟩ hr (fun acc => by simp only [traceE, hk, hkd])

theorem panOf_good : ∀ (l : List Sn), (∀ s ∈ l, GoodK s.o.op s.kd) → panOf l = none
  | [], _ => rfl
  | s :: l, h => by
    have hs := h s (by simp)
    simp only [panOf]
    cases hk : s.kd <;> simp only [hk, GoodK] at hs ⊢ <;> first | exact panOf_good l (fun s hs => h s (by simp [hs])) | exact hs.elim

end

noncomputable def drawK (cx : Cx) (cf : CallFn) (ops : List Oper) (st : St) (p : Tr Value × Heap × Mks) : Option (Ex × St) :=
  @Bool.rec (fun _ => Option (Ex × St)) (drawE cx cf ops st) (some (.normal, ⟨p.1, st.df, st.u, gvG p.2.1 p.2.2⟩)) (Nat.ble (Heap.nx p.2.1) big)
noncomputable def drawG (cx : Cx) (cf : CallFn) (ops : List Oper) (st : St) : Option (Ex × St) :=
  @Option.rec (List Nat) (fun _ => Option (Ex × St)) (drawE cx cf ops st)
    (fun ms => @Option.rec (Tr Value × Heap × Mks) (fun _ => Option (Ex × St)) (drawE cx cf ops st) (drawK cx cf ops st)
      (trG cx cf (Heap.nx (St.h st)) ops ops ms 0 (St.tm st) ⟨Heap.tr (St.h st), Nat.add (Heap.nx (St.h st)) (List.length ops), Heap.dt (St.h st)⟩ [])) (statS ops)

theorem drawG_eq (cx : Cx) (cf : CallFn) (ops : List Oper) (st : St) : drawG cx cf ops st = drawE cx cf ops st := by
  unfold drawG
  cases hs : statS ops with
  | none => rfl
  | some ms =>
    dsimp only
    cases ht : trG cx cf st.h.nx ops ops ms 0 st.tm ⟨st.h.tr, st.h.nx + ops.length, st.h.dt⟩ [] with
    | none => rfl
    | some p =>
      obtain ⟨tm, h, mks⟩ := p
      show @Bool.rec (fun _ => Option (Ex × St)) (drawE cx cf ops st) (some (.normal, ⟨tm, st.df, st.u, gvG h mks⟩)) (Nat.ble h.nx big) = _
      cases hb : Nat.ble h.nx big with
      | false => rfl
      | true =>
        unfold statS at hs
        cases hm : masksS ops 0 .nil with
        | none => rw [hm] at hs; cases hs
        | some ms' =>
          rw [hm] at hs
          dsimp only at hs
          cases ho : noOdd ops with
          | false => rw [ho] at hs; cases hs
          | true =>
            cases hq : traceS ops ops.length (ops.zip ms').reverse with
            | false => rw [ho, hq] at hs; cases hs
            | true =>
              rw [ho, hq] at hs
              cases hs
              obtain ⟨tr, e1, e2, e3⟩ := trG_spec cx cf st.h.nx ops ops ms 0 .nil st.tm ⟨st.h.tr, st.h.nx + ops.length, st.h.dt⟩ [] tm h mks [] hm ho ht
              have e4 : traceOk ops ops.length tr = true := traceS_ok ops.length tr e3 (by rw [e2]; exact hq)
              unfold drawE
              rw [e1]
              simp only [List.append_nil]
              rw [e4, hb]
              dsimp only
              rw [panOf_good tr e3, gvG_eq]

end Go.Em
