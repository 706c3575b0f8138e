/-
  Statements' operations with their operands at hand: what is written is laid into the slots at a statement's end.
-/
import Derived.Test.YtbfhilhkmicelaaGreatG3
namespace Go.Em

abbrev Env := List (Nat × Value)
noncomputable def lkE (t : Nat) : Env → Option Value := @List.rec (Nat × Value) (fun _ => Option Value) none (fun p _ ih => @Bool.rec (fun _ => Option Value) ih (some p.2) (Nat.beq p.1 t))
theorem lkE_nil (t : Nat) : lkE t [] = none := rfl
theorem lkE_cons (t : Nat) (p : Nat × Value) (E : Env) : lkE t (p :: E) = if p.1 = t then some p.2 else lkE t E := by
  show @Bool.rec (fun _ => Option Value) (lkE t E) (some p.2) (Nat.beq p.1 t) = _
  by_cases h : p.1 = t
  · simp [h]
  · have : Nat.beq p.1 t = false := by
      cases e : Nat.beq p.1 t with
      | false => rfl
      | true => exact absurd (Nat.eq_of_beq_eq_true e) h
    simp [h, this]

abbrev Rz := Option (Tr Value × Heap)

noncomputable def orV (v v' : Option Value) : Option Value := @Option.rec Value (fun _ => Option Value) v' (fun x => some x) v
/-- Lays one tree over another one. -/
noncomputable def mrg : Tr Value → Tr Value → Tr Value := @Tr.rec Value (fun _ => Tr Value → Tr Value) (fun t => t)
  (fun v l r ihl ihr t => @Tr.rec Value (fun _ => Tr Value) (.node v l r) (fun v' l' r' _ _ => .node (orV v v') (ihl l') (ihr r')) t)
theorem mrg_nil (t : Tr Value) : mrg .nil t = t := rfl
theorem mrg_node_nil (v : Option Value) (l r : Tr Value) : mrg (.node v l r) .nil = .node v l r := rfl
theorem mrg_node (v v' : Option Value) (l r l' r' : Tr Value) : mrg (.node v l r) (.node v' l' r') = .node (orV v v') (mrg l l') (mrg r r') := rfl
theorem orV_none (v : Option Value) : orV none v = v := rfl
theorem orV_some (x : Value) (v : Option Value) : orV (some x) v = some x := rfl
theorem orV_none' (v : Option Value) : orV v none = v := by cases v <;> rfl

theorem mrg_set (x : Value) : ∀ (f n : Nat) (p t : Tr Value), n < f → mrg (Tr.setF f p n (some x)) t = Tr.setF f (mrg p t) n (some x)
  | 0, n, p, t, h => by omega
  | f + 1, 0, p, t, _ => by
    cases p with
    | nil => cases t with
      | nil => rfl
      | node v l r => rfl
    | node v l r => cases t with
      | nil => rfl
      | node v' l' r' => rfl
  | f + 1, n + 1, p, t, h => by
    have hd : n / 2 < f := by omega
    cases p with
    | nil =>
      rw [Tr.setF_nil_succ]
      cases t with
      | nil =>
        rw [mrg_nil, Tr.setF_nil_succ]
        split <;> rfl
      | node v l r =>
        rw [mrg_nil, Tr.setF_node_succ]
        split
        · rw [mrg_node, mrg_set x f (n / 2) .nil l hd, mrg_nil, mrg_nil, orV_none]
        · rw [mrg_node, mrg_set x f (n / 2) .nil r hd, mrg_nil, mrg_nil, orV_none]
    | node v l r =>
      rw [Tr.setF_node_succ]
      cases t with
      | nil =>
        rw [mrg_node_nil, Tr.setF_node_succ]
        split <;> rfl
      | node v' l' r' =>
        rw [mrg_node, Tr.setF_node_succ]
        split
        · rw [mrg_node, mrg_set x f (n / 2) l l' hd]
        · rw [mrg_node, mrg_set x f (n / 2) r r' hd]

theorem mrg_get : ∀ (p t : Tr Value) (k : Nat), (mrg p t).get k = orV (p.get k) (t.get k)
  | .nil, t, k => rfl
  | .node v l r, .nil, k => by
    rw [mrg_node_nil, Tr.get_nil, orV_none']
  | .node v l r, .node v' l' r', 0 => rfl
  | .node v l r, .node v' l' r', k + 1 => by
    rw [mrg_node, Tr.get_succ, Tr.get_succ, Tr.get_succ]
    split
    · exact mrg_get l l' (k / 2)
    · exact mrg_get r r' (k / 2)

/-- A tree to be laid over another one; `e`: nothing is laid; v: a value is laid, o: none; l, r, b: where something is laid below. -/
inductive Plan where
  | e
  | lf (v : Value)
  | vl (v : Value) (l : Plan)
  | vr (v : Value) (r : Plan)
  | vb (v : Value) (l r : Plan)
  | ol (l : Plan)
  | or (r : Plan)
  | ob (l r : Plan)
noncomputable def mrgP : Plan → Tr Value → Tr Value := @Plan.rec (fun _ => Tr Value → Tr Value) (fun t => t)
  (fun v t => @Tr.rec Value (fun _ => Tr Value) (.node (some v) .nil .nil) (fun _ l' r' _ _ => .node (some v) l' r') t)
  (fun v _ il t => @Tr.rec Value (fun _ => Tr Value) (.node (some v) (il .nil) .nil) (fun _ l' r' _ _ => .node (some v) (il l') r') t)
  (fun v _ ir t => @Tr.rec Value (fun _ => Tr Value) (.node (some v) .nil (ir .nil)) (fun _ l' r' _ _ => .node (some v) l' (ir r')) t)
  (fun v _ _ il ir t => @Tr.rec Value (fun _ => Tr Value) (.node (some v) (il .nil) (ir .nil)) (fun _ l' r' _ _ => .node (some v) (il l') (ir r')) t)
  (fun _ il t => @Tr.rec Value (fun _ => Tr Value) (.node none (il .nil) .nil) (fun v' l' r' _ _ => .node v' (il l') r') t)
  (fun _ ir t => @Tr.rec Value (fun _ => Tr Value) (.node none .nil (ir .nil)) (fun v' l' r' _ _ => .node v' l' (ir r')) t)
  (fun _ _ il ir t => @Tr.rec Value (fun _ => Tr Value) (.node none (il .nil) (ir .nil)) (fun v' l' r' _ _ => .node v' (il l') (ir r')) t)

/-- What is known of slots is so. -/
structure Con (E : Env) (pl tm : Tr Value) : Prop where
  hit : ∀ t v, lkE t E = some v → (mrg pl tm).get t = some v
  mis : ∀ t, lkE t E = none → pl.get t = none

theorem Con.start (tm : Tr Value) : Con [] .nil tm := by
  refine ⟨?_, fun _ _ => rfl⟩
  intro t v h; cases h

theorem Con.read {E : Env} {pl tm : Tr Value} (C : Con E pl tm) {t : Nat} {v : Value} (hl : lkE t E = none) (hv : tm.get t = some v) : Con ((t, v) :: E) pl tm := by
  refine ⟨fun t' v' h => ?_, fun t' h => ?_⟩
  · rw [lkE_cons] at h
    split at h
    · rename_i e
      cases h; subst e
      rw [mrg_get, C.mis _ hl, orV_none]; exact hv
    · exact C.hit t' v' h
  · rw [lkE_cons] at h
    split at h
    · cases h
    · exact C.mis t' h

noncomputable def bindE (dst : Option Nat) (v : Value) (E : Env) : Env := match dst with
  | some d => (d, v) :: E
  | none => E
noncomputable def bindP (dst : Option Nat) (v : Value) (pl : Tr Value) : Tr Value := match dst with
  | some d => sV (pathOf d) (some v) pl
  | none => pl

theorem bindP_eq (dst : Option Nat) (v : Value) (pl tm : Tr Value) : mrg (bindP dst v pl) tm = putT (mrg pl tm) dst v := by
  cases dst with
  | none => rfl
  | some d =>
    show mrg (sV (pathOf d) (some v) pl) tm = (mrg pl tm).set d (some v)
    rw [sV_eq]
    exact mrg_set v (d + 1) d pl tm (Nat.lt_succ_self d)

theorem Con.bind {E : Env} {pl tm : Tr Value} (C : Con E pl tm) (dst : Option Nat) (v : Value) : Con (bindE dst v E) (bindP dst v pl) tm := by
  cases dst with
  | none => exact C
  | some d =>
    refine ⟨fun t' v' h => ?_, fun t' h => ?_⟩
    · rw [bindP_eq]
      show ((mrg pl tm).set d (some v)).get t' = _
      rw [Tr.get_set]
      change lkE t' ((d, v) :: E) = some v' at h
      rw [lkE_cons] at h
      split at h
      · rename_i e
        have e : d = t' := e
        cases h; subst e; simp
      · rename_i e
        have : ¬ t' = d := fun h => e h.symm
        simp only [this, if_false]
        exact C.hit t' v' h
    · change lkE t' ((d, v) :: E) = none at h
      rw [lkE_cons] at h
      split at h
      · cases h
      · rename_i e
        show (sV (pathOf d) (some v) pl).get t' = none
        have : ¬ t' = d := fun h => e h.symm
        rw [sV_eq, Tr.get_set]
        simp only [this, if_false]
        exact C.mis t' h

/-! ### Operands -/
noncomputable def sl (p : Pth) (tm : Tr Value) (k : Value → Rz) : Rz := @Option.rec Value (fun _ => Rz) none k (gV p tm)
noncomputable def opd (x : Operand) (E : Env) (tm : Tr Value) (k : Env → Value → Rz) : Rz := match x with
  | .tmp t => match lkE t E with
    | some v => k E v
    | none => sl (pathOf t) tm (fun v => k ((t, v) :: E) v)
  | .const v => match flat v with
    | true => k E v
    | false => none
  | .func f => k E (.func (.func f) #[] #[])
  | .global _ => none

variable {E : Env} {pl tm : Tr Value} {r : Tr Value × Heap}

theorem opd_ok {x : Operand} {k : Env → Value → Rz} (C : Con E pl tm) (h : opd x E tm k = some r) : ∃ E' v, Con E' pl tm ∧ ev (mrg pl tm) x = some v ∧ k E' v = some r := by
  cases x with
  | tmp t =>
    simp only [opd] at h
    cases hl : lkE t E with
    | some v => rw [hl] at h; exact ⟨E, v, C, C.hit t v hl, h⟩
    | none =>
      rw [hl] at h
      dsimp only at h
      unfold sl at h
      rw [gV_eq] at h
      cases hv : tm.get t with
      | none => rw [hv] at h; cases h
      | some v =>
        rw [hv] at h
        refine ⟨_, v, C.read hl hv, ?_, h⟩
        show (mrg pl tm).get t = some v
        rw [mrg_get, C.mis _ hl, orV_none]; exact hv
  | const v =>
    simp only [opd] at h
    cases hf : flat v with
    | true => rw [hf] at h; exact ⟨E, v, C, by simp only [ev, hf], h⟩
    | false => rw [hf] at h; cases h
  | func f => exact ⟨E, _, C, rfl, h⟩
  | global g => cases h

noncomputable def opds (tm : Tr Value) : List Operand → Env → (Env → List Value → Rz) → Rz
  | [], E, k => k E []
  | x :: l, E, k => opd x E tm fun E v => opds tm l E fun E vs => k E (v :: vs)

theorem opds_ok : ∀ {l : List Operand} {E : Env} {k : Env → List Value → Rz}, Con E pl tm → opds tm l E k = some r → ∃ E' vs, Con E' pl tm ∧ evs (mrg pl tm) l = some vs ∧ k E' vs = some r
  | [], E, k, C, h => ⟨E, [], C, rfl, h⟩
  | x :: l, E, k, C, h => by
    simp only [opds] at h
    obtain ⟨E1, v, C1, hv, h1⟩ := opd_ok C h
    obtain ⟨E2, vs, C2, hvs, h2⟩ := opds_ok C1 h1
    exact ⟨E2, v :: vs, C2, by simp only [evs, hv, hvs], h2⟩

/-! ### What goes on with a value -/
noncomputable def kO {α : Type} (o : Option α) (k : α → Rz) : Rz := @Option.rec α (fun _ => Rz) none k o
theorem kO_ok {α : Type} {o : Option α} {k : α → Rz} (h : kO o k = some r) : ∃ v, o = some v ∧ k v = some r := by
  cases o with
  | none => cases h
  | some v => exact ⟨v, rfl, h⟩
noncomputable def kV (o : Option Value) (k : Value → Rz) : Rz := @Option.rec Value (fun _ => Rz) none k o
theorem kV_ok {o : Option Value} {k : Value → Rz} (h : kV o k = some r) : ∃ v, o = some v ∧ k v = some r := by
  cases o with
  | none => cases h
  | some v => exact ⟨v, rfl, h⟩
noncomputable def kA (v : Value) (k : Addr → Rz) : Rz := @Option.rec Addr (fun _ => Rz) none k (ptrV v)
theorem kA_ok {v : Value} {k : Addr → Rz} (h : kA v k = some r) : ∃ a, v = .pointer (some a) ∧ k a = some r := by
  unfold kA at h
  cases hp : ptrV v with
  | none => rw [hp] at h; cases h
  | some a => rw [hp] at h; exact ⟨a, ptrV_eq hp, h⟩
noncomputable def intZ : Value → (IntKind → Int → Rz) → Rz := @Value.rec (fun _ => (IntKind → Int → Rz) → Rz) (fun _ => Unit) (fun _ => Unit)
  (fun _ _ => none) (fun k n f => f k n) (fun _ _ _ => none) (fun _ _ _ _ => none) (fun _ _ => none) (fun _ _ => none) (fun _ _ _ _ => none) (fun _ _ => none) (fun _ _ => none)
  (fun _ _ _ _ _ _ => none) (fun _ => none) (fun _ _ _ _ => none) (fun _ => none) (fun _ _ _ => none) (fun _ _ _ => none) (fun _ _ => ()) () (fun _ _ _ _ => ())
theorem intZ_ok {v : Value} {f : IntKind → Int → Rz} (h : intZ v f = some r) : ∃ k n, v = .int k n ∧ f k n = some r := by
  cases v
  case int k n => exact ⟨k, n, rfl, h⟩
  all_goals exact absurd (show (none : Rz) = some r from h) (by simp)

noncomputable def binJ (op : BinOp) (a b : Value) (k : Value → Rz) : Rz := intZ a (fun ka m => intZ b (fun kb n => kV (intAll op ka kb m n) k))
theorem binJ_ok {op : BinOp} {a b : Value} {k : Value → Rz} (h : binJ op a b k = some r) (x y : Operand) : ∃ v, guardE x y a = true ∧ (∀ (cx : Cx) (h : Heap) (t : Nat), binE cx h op t a b = some v) ∧ k v = some r := by
  obtain ⟨ka, m, ea, h1⟩ := intZ_ok h
  obtain ⟨kb, n, eb, h2⟩ := intZ_ok h1
  obtain ⟨v, hv, h3⟩ := kV_ok h2
  subst ea eb
  exact ⟨v, rfl, fun cx hp t => by rw [← intAll_eq]; exact hv, h3⟩

/-- A pointer's comparison with nil. -/
noncomputable def ptrZ : Value → (Option Addr → Rz) → Rz := @Value.rec (fun _ => (Option Addr → Rz) → Rz) (fun _ => Unit) (fun _ => Unit)
  (fun _ _ => none) (fun _ _ _ => none) (fun _ _ _ => none) (fun _ _ _ _ => none) (fun _ _ => none) (fun a f => f a) (fun _ _ _ _ => none) (fun _ _ => none) (fun _ _ => none)
  (fun _ _ _ _ _ _ => none) (fun _ => none) (fun _ _ _ _ => none) (fun _ => none) (fun _ _ _ => none) (fun _ _ _ => none) (fun _ _ => ()) () (fun _ _ _ _ => ())
theorem ptrZ_ok {v : Value} {f : Option Addr → Rz} (h : ptrZ v f = some r) : ∃ a, v = .pointer a ∧ f a = some r := by
  cases v
  case pointer a => exact ⟨a, rfl, h⟩
  all_goals exact absurd (show (none : Rz) = some r from h) (by simp)
noncomputable def nilJ (neg : Bool) (a : Value) (k : Value → Rz) : Rz := ptrZ a (fun o => @Option.rec Addr (fun _ => Rz) (k (.bool (not neg))) (fun _ => k (.bool neg)) o)
noncomputable def ptrS (cx : Cx) (t : Nat) : Bool := match cx.ty t with
  | some i => match i.d with
    | .pointer _ => true
    | _ => false
  | none => false
theorem nilJ_ok {cx : Cx} {neg : Bool} {a : Value} {k : Value → Rz} (h : nilJ neg a k = some r) {t : Nat} (ht : ptrS cx t = true) (x y : Operand) :
    ∃ v, guardE x y a = true ∧ (∀ (h : Heap), binE cx h (match neg with | true => .neq | false => .eql) t a (.pointer none) = some v) ∧ k v = some r := by
  obtain ⟨o, eo, h1⟩ := ptrZ_ok h
  subst eo
  unfold ptrS at ht
  cases hi : cx.ty t with
  | none => rw [hi] at ht; cases ht
  | some i =>
    rw [hi] at ht
    cases hd : i.d <;> simp only [hd] at ht <;> try cases ht
    cases o with
    | none =>
      refine ⟨.bool (not neg), rfl, fun hp => ?_, h1⟩
      cases neg <;> simp [binE, eqA, hi, hd]
    | some a =>
      refine ⟨.bool neg, rfl, fun hp => ?_, h1⟩
      cases neg <;> simp [binE, eqA, hi, hd]

noncomputable def notJ (a : Value) (k : Value → Rz) : Rz := kO (boolV a) (fun b => k (.bool (not b)))
theorem boolV_eq {v : Value} {b : Bool} (h : boolV v = some b) : v = .bool b := by
  cases v
  case bool c => have e : some c = some b := h; cases e; rfl
  all_goals exact absurd (show (none : Option Bool) = some b from h) (by simp)
theorem notJ_ok {a : Value} {k : Value → Rz} (h : notJ a k = some r) : ∃ v, unE .not a = some v ∧ k v = some r := by
  obtain ⟨b, hb, h1⟩ := kO_ok h
  rw [boolV_eq hb]
  exact ⟨_, rfl, h1⟩

noncomputable def pkJ (c a b : Value) (k : Value → Rz) : Rz := kO (boolV c) (fun x => k (@Bool.rec (fun _ => Value) b a x))

noncomputable def cvJ (kd : IntKind) (a : Value) (k : Value → Rz) : Rz := intZ a (fun _ n => kV (convI kd n) k)
theorem cvJ_ok {cx : Cx} {s d : Nat} {kd : IntKind} (hs : convS cx s d = some kd) {a : Value} {k : Value → Rz} (h : cvJ kd a k = some r) : ∃ v, (∀ h : Heap, convertE cx h s d a = some v) ∧ k v = some r := by
  obtain ⟨ka, n, ea, h1⟩ := intZ_ok h
  obtain ⟨v, hv, h2⟩ := kV_ok h1
  subst ea
  refine ⟨v, fun hp => ?_, h2⟩
  rw [← convG_eq]
  unfold convG
  rw [hs]
  exact hv

noncomputable def ptJ (a : Value) (k : Value → Rz) : Rz := kA a (fun _ => k a)
noncomputable def faJ (o : Nat) (a : Value) (k : Value → Rz) : Rz := kA a (fun ad => kV (addV ad o) k)
theorem faJ_ok {cx : Cx} {t f o : Nat} (hs : offS cx t f = some o) {a : Value} {k : Value → Rz} (h : faJ o a k = some r) : ∃ v, fieldAddrE cx t a f = some v ∧ k v = some r := by
  obtain ⟨ad, ea, h1⟩ := kA_ok h
  obtain ⟨v, hv, h2⟩ := kV_ok h1
  subst ea
  refine ⟨v, ?_, h2⟩
  rw [← faG_eq]
  show @Option.rec Nat (fun _ => Option Value) none (addV ad) (offS cx t f) = _
  rw [hs]; exact hv

noncomputable def iaJ (ia : Ia) (a i : Value) (k : Value → Rz) : Rz := intZ i (fun _ n => kV (iaG ia a n) k)
theorem iaJ_ok {cx : Cx} {t : Nat} {a i : Value} {k : Value → Rz} (h : iaJ (iaS cx t) a i k = some r) : ∃ v, indexAddrE cx t a i = some v ∧ k v = some r := by
  obtain ⟨ki, n, ei, h1⟩ := intZ_ok h
  obtain ⟨v, hv, h2⟩ := kV_ok h1
  subst ei
  exact ⟨v, by rw [← iaG_eq]; exact hv, h2⟩

noncomputable def tupJ (i : Nat) (a : Value) (k : Value → Rz) : Rz := kO (tupV a) (fun l => kV (tupG i l) k)
theorem tupJ_ok {i : Nat} {a : Value} {k : Value → Rz} (h : tupJ i a k = some r) : ∃ vs v, a = .tuple vs ∧ tupAt vs.toList i = some v ∧ k v = some r := by
  obtain ⟨l, hl, h1⟩ := kO_ok h
  obtain ⟨v, hv, h2⟩ := kV_ok h1
  clear h
  cases a
  case tuple vs =>
    have e : some vs.toList = some l := hl
    cases e
    exact ⟨vs, v, rfl, by rw [← tupG_eq]; exact hv, h2⟩
  all_goals exact absurd (show (none : Option (List Value)) = some l from hl) (by simp)

noncomputable def lenJ (a : Value) (k : Value → Rz) : Rz := kV (sliceC a (fun _ n _ => some (.int .i64 (Int.ofNat n))) none) k

/-! Memory -/
noncomputable def ldJ (h : Heap) (a : Value) (k : Value → Rz) : Rz := kA a (fun ad => kV (load1 h ad) k)
noncomputable def ldAJ (n : Nat) (h : Heap) (a : Value) (k : Value → Rz) : Rz := kA a (fun ad => kV (loadA h n ad) k)
noncomputable def stJ (h : Heap) (a x : Value) (k : Heap → Rz) : Rz := kA a (fun ad => @Bool.rec (fun _ => Rz) none (kO (store1 x h ad) k) (isCellG x))
noncomputable def calJ (cf : CallFn) (g : Nat) (vs : List Value) (h : Heap) (k : Value → Heap → Rz) : Rz :=
  @Option.rec (Fin × Heap) (fun _ => Rz) none (fun p => @Prod.rec Fin Heap (fun _ => Rz) (fun r h' => @Fin.rec (fun _ => Rz) (fun v => k v h') (fun _ => none) r) p) (cf g vs h)
theorem calJ_ok {cf : CallFn} {g : Nat} {vs : List Value} {h : Heap} {k : Value → Heap → Rz} (hr : calJ cf g vs h k = some r) : ∃ v h', cf g vs h = some (.ret v, h') ∧ k v h' = some r := by
  unfold calJ at hr
  cases hc : cf g vs h with
  | none => rw [hc] at hr; cases hr
  | some p =>
    obtain ⟨f, h'⟩ := p
    rw [hc] at hr
    cases f with
    | ret v => exact ⟨v, h', rfl, hr⟩
    | pan c => cases hr
noncomputable def alJ (o : Option Obj) (h : Heap) (k : Value → Heap → Rz) : Rz :=
  kO o (fun o => natK (fun n => k (.pointer (some ⟨n, 0, none⟩)) ⟨sO (pathOf n) (some o) (Heap.tr h), Nat.succ n, ⟨n, 0, unk⟩ :: Heap.dt h⟩) (Heap.nx h))
theorem alJ_ok {o : Option Obj} {h : Heap} {k : Value → Heap → Rz} (hr : alJ o h k = some r) : ∃ b, o = some b ∧ k (.pointer (some ⟨h.nx, 0, none⟩)) (h.add b) = some r := by
  obtain ⟨b, hb, h1⟩ := kO_ok hr
  rw [natK_eq, sO_eq] at h1
  exact ⟨b, hb, h1⟩

/-! Maps with integers for keys -/
noncomputable def eqI (a b : Int) : Bool := @Int.rec (fun _ => Bool) (fun m => @Int.rec (fun _ => Bool) (fun n => Nat.beq m n) (fun _ => a == b) b) (fun _ => a == b) a
theorem eqI_eq (a b : Int) : eqI a b = (a == b) := by
  cases a with
  | negSucc a => rfl
  | ofNat a => cases b with
    | negSucc b => rfl
    | ofNat b => exact beq_nat a b
noncomputable def keyC : Value → (IntKind → Int → Option (Option Value)) → Option (Option Value) := @Value.rec (fun _ => (IntKind → Int → Option (Option Value)) → Option (Option Value)) (fun _ => Unit) (fun _ => Unit)
  (fun _ _ => none) (fun k n f => f k n) (fun _ _ _ => none) (fun _ _ _ _ => none) (fun _ _ => none) (fun _ _ => none) (fun _ _ _ _ => none) (fun _ _ => none) (fun _ _ => none)
  (fun _ _ _ _ _ _ => none) (fun _ => none) (fun _ _ _ _ => none) (fun _ => none) (fun _ _ _ => none) (fun _ _ _ => none) (fun _ _ => ()) () (fun _ _ _ _ => ())
noncomputable def findI (k : IntKind) (n : Int) : List MapEntry → Option (Option Value) := @List.rec MapEntry (fun _ => Option (Option Value)) (some none)
  (fun e _ ih => keyC e.key (fun k' b => @Decidable.rec (k = k') (fun _ => Option (Option Value)) (fun _ => none) (fun _ => @Bool.rec (fun _ => Option (Option Value)) ih (some (some e.val)) (eqI n b)) (decEq k k')))
theorem findI_eq {cx : Cx} {h : Heap} {kt : Nat} {i : Ty} {kk : IntKind} (hi : cx.ty kt = some i) (hd : i.d = .int kk) (k : IntKind) (n : Int) : ∀ (es : List MapEntry) (j : Nat) (o : Option Value), findI k n es = some o →
    ∃ q, findA (fun x => eqA cx h 60 kt (.int k n) x) es j = some q ∧ q.map (·.2) = o
  | [], j, o, hf => by
    cases hf
    exact ⟨none, rfl, rfl⟩
  | e :: es, j, o, hf => by
    change keyC e.key (fun k' b => @Decidable.rec (k = k') (fun _ => Option (Option Value)) (fun _ => none) (fun _ => @Bool.rec (fun _ => Option (Option Value)) (findI k n es) (some (some e.val)) (eqI n b)) (decEq k k')) = some o at hf
    by_cases hk : ∃ k' b, e.key = .int k' b
    · obtain ⟨k', b, hk⟩ := hk
      rw [hk] at hf
      change @Decidable.rec (k = k') (fun _ => Option (Option Value)) (fun _ => none) (fun _ => @Bool.rec (fun _ => Option (Option Value)) (findI k n es) (some (some e.val)) (eqI n b)) (decEq k k') = some o at hf
      have heq : eqA cx h 60 kt (.int k n) e.key = match decEq k k' with
          | isTrue _ => some (n == b)
          | isFalse _ => none := by rw [hk]; simp only [eqA, hi, hd]; rfl
      cases hdec : decEq k k' with
      | isFalse hne => rw [hdec] at hf; cases hf
      | isTrue hye =>
        rw [hdec] at hf heq
        change @Bool.rec (fun _ => Option (Option Value)) (findI k n es) (some (some e.val)) (eqI n b) = some o at hf
        rw [eqI_eq] at hf
        simp only [findA, heq]
        cases hb : (n == b) with
        | true => rw [hb] at hf; cases hf; exact ⟨some (j, e.val), rfl, rfl⟩
        | false =>
          rw [hb] at hf
          exact findI_eq hi hd k n es (j + 1) o hf
    · exfalso
      have : ∀ f, keyC e.key f = none := by
        intro f
        cases hv : e.key <;> first | rfl | exact absurd ⟨_, _, hv⟩ hk
      rw [this] at hf
      cases hf

noncomputable def mapV : Value → Option (Option Nat) := @Value.rec (fun _ => Option (Option Nat)) (fun _ => Unit) (fun _ => Unit)
  (fun _ => none) (fun _ _ => none) (fun _ _ => none) (fun _ _ _ => none) (fun _ => none) (fun _ => none) (fun _ _ _ => none) (fun a => some a) (fun _ => none)
  (fun _ _ _ _ _ => none) none (fun _ _ _ => none) none (fun _ _ => none) (fun _ _ => none) (fun _ _ => ()) () (fun _ _ _ _ => ())
noncomputable def mapO : Option Obj → Option (List MapEntry) := @Option.rec Obj (fun _ => Option (List MapEntry)) none (fun o => @Obj.rec (fun _ => Option (List MapEntry)) (fun _ _ _ _ _ _ => none) (fun es _ => some es) (fun _ _ => none) o)
noncomputable def mapE (h : Heap) (m : Value) : Option (List MapEntry) :=
  @Option.rec (Option Nat) (fun _ => Option (List MapEntry)) none (fun o => @Option.rec Nat (fun _ => Option (List MapEntry)) (some []) (fun r => mapO (gO (pathOf r) (Heap.tr h))) o) (mapV m)
theorem mapE_eq (h : Heap) (m : Value) : mapE h m = getMap h m := by
  cases m
  case map o =>
    cases o with
    | none => rfl
    | some q =>
      show mapO (gO (pathOf q) h.tr) = _
      rw [gO_eq]
      simp only [getMap, Heap.get]
      cases h.tr.get q with
      | none => rfl
      | some o => cases o <;> rfl
  all_goals rfl
/-- The zero value of a map's elements, where its keys are integers. -/
noncomputable def mapS (cx : Cx) (t : Nat) : Option Value := match cx.ty t with
  | some i => match i.d with
    | .map kt et => match cx.ty kt, cx.ty et with
      | some ki, some e => match ki.d with
        | .int _ => some e.zero
        | _ => none
      | _, _ => none
    | _ => none
  | none => none
noncomputable def lkJ (z : Value) (h : Heap) (m key : Value) (k : Value → Rz) : Rz :=
  intZ key (fun kk n => kO (mapE h m) (fun es => kO (findI kk n es) (fun o => @Option.rec Value (fun _ => Rz) (k z) k o)))
theorem lkJ_ok {cx : Cx} {t : Nat} {z : Value} (hs : mapS cx t = some z) {h : Heap} {m key : Value} {k : Value → Rz} (hr : lkJ z h m key k = some r) : ∃ v, lookupE cx h t m key false = some v ∧ k v = some r := by
  obtain ⟨kk, n, ek, h1⟩ := intZ_ok hr
  obtain ⟨es, hes, h2⟩ := kO_ok h1
  obtain ⟨o, ho, h3⟩ := kO_ok h2
  subst ek
  rw [mapE_eq] at hes
  unfold mapS at hs
  unfold lookupE
  cases hi : cx.ty t with
  | none => rw [hi] at hs; cases hs
  | some i =>
    rw [hi] at hs
    dsimp only at hs ⊢
    cases hd : i.d <;> simp only [hd] at hs ⊢ <;> try cases hs
    rename_i kt et
    cases hk : cx.ty kt with
    | none => rw [hk] at hs; cases hs
    | some ki =>
      cases he : cx.ty et with
      | none => rw [hk, he] at hs; cases hs
      | some e =>
        rw [hk, he] at hs
        dsimp only at hs
        cases hkd : ki.d <;> simp only [hkd] at hs <;> try cases hs
        rename_i ik
        obtain ⟨q, hq, hqo⟩ := findI_eq (h := h) hk hkd kk n es 0 o ho
        have hko : keyOk cx 60 kt (.int kk n) = true := by simp only [keyOk, hk, hkd]
        simp only [hes, hko, findK]
        rw [hq]
        cases q with
        | none => cases hqo; exact ⟨_, rfl, h3⟩
        | some p => obtain ⟨j, v⟩ := p; cases hqo; exact ⟨v, rfl, h3⟩

end Go.Em
