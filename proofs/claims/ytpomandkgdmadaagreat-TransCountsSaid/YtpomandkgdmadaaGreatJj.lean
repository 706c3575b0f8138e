/-
  Statements' operations with their operands at hand: what is written is laid into the slots at a statement's end.
-/
import Derived.Test.YtpomandkgdmadaaGreatGg
namespace Go.Em

abbrev Env := List (Nat × Value)
noncomputable def lkE (t : Nat) : Env → Option Value := @List.rec (Nat × Value) (fun _ => Option Value) none (fun p _ ih => @Bool.rec (fun _ => Option Value) ih (some p.2) (Nat.beq p.1 t))
theorem lkE_nil (t : Nat) : lkE t [] = none := rfl
theorem lkE_cons (t : Nat) (p : Nat × Value) (E : Env) : lkE t (p :: E) = if p.1 = t then some p.2 else lkE t E := by
  show @Bool.rec (fun _ => Option Value) (lkE t E) (some p.2) (Nat.beq p.1 t) = _
  by_cases h : p.1 = t
  · simp [h]
  · have : Nat.beq p.1 t = false := by
      cases e : Nat.beq p.1 t with
      | false => rfl
      | true => exact absurd (Nat.eq_of_beq_eq_true e) h
    simp [h, this]

abbrev Rz := Option (Tr Value × Heap)

noncomputable def orV (v v' : Option Value) : Option Value := @Option.rec Value (fun _ => Option Value) v' (fun x => some x) v
/-- Lays one tree over another one. -/
noncomputable def mrg : Tr Value → Tr Value → Tr Value := @Tr.rec Value (fun _ => Tr Value → Tr Value) (fun t => t)
  (fun v l r ihl ihr t => @Tr.rec Value (fun _ => Tr Value) (.node v l r) (fun v' l' r' _ _ => .node (orV v v') (ihl l') (ihr r')) t)
theorem mrg_nil (t : Tr Value) : mrg .nil t = t := rfl
theorem mrg_node_nil (v : Option Value) (l r : Tr Value) : mrg (.node v l r) .nil = .node v l r := rfl
theorem mrg_node (v v' : Option Value) (l r l' r' : Tr Value) : mrg (.node v l r) (.node v' l' r') = .node (orV v v') (mrg l l') (mrg r r') := rfl
theorem orV_none (v : Option Value) : orV none v = v := rfl
theorem orV_some (x : Value) (v : Option Value) : orV (some x) v = some x := rfl
theorem orV_none' (v : Option Value) : orV v none = v := by cases v <;> rfl

theorem mrg_set (x : Value) : ∀ (f n : Nat) (p t : Tr Value), n < f → mrg (Tr.setF f p n (some x)) t = Tr.setF f (mrg p t) n (some x)
  | 0, n, p, t, h => by omega
  | f + 1, 0, p, t, _ => by
    cases p with
    | nil => cases t with
      | nil => rfl
      | node v l r => rfl
    | node v l r => cases t with
      | nil => rfl
      | node v' l' r' => rfl
  | f + 1, n + 1, p, t, h => by
    have hd : n / 2 < f := by omega
    cases p with
    | nil =>
      rw [Tr.setF_nil_succ]
      cases t with
      | nil =>
        rw [mrg_nil, Tr.setF_nil_succ]
        split <;> rfl
      | node v l r =>
        rw [mrg_nil, Tr.setF_node_succ]
        split
        · rw [mrg_node, mrg_set x f (n / 2) .nil l hd, mrg_nil, mrg_nil, orV_none]
        · rw [mrg_node, mrg_set x f (n / 2) .nil r hd, mrg_nil, mrg_nil, orV_none]
    | node v l r =>
      rw [Tr.setF_node_succ]
      cases t with
      | nil =>
        rw [mrg_node_nil, Tr.setF_node_succ]
        split <;> rfl
      | node v' l' r' =>
        rw [mrg_node, Tr.setF_node_succ]
        split
        · rw [mrg_node, mrg_set x f (n / 2) l l' hd]
        · rw [mrg_node, mrg_set x f (n / 2) r r' hd]

theorem mrg_get : ∀ (p t : Tr Value) (k : Nat), (mrg p t).get k = orV (p.get k) (t.get k)
  | .nil, t, k => rfl
  | .node v l r, .nil, k => by
    rw [mrg_node_nil, Tr.get_nil, orV_none']
  | .node v l r, .node v' l' r', 0 => rfl
  | .node v l r, .node v' l' r', k + 1 => by
    rw [mrg_node, Tr.get_succ, Tr.get_succ, Tr.get_succ]
    split
    · exact mrg_get l l' (k / 2)
    · exact mrg_get r r' (k / 2)

/-- A tree to be laid over another one; `e`: nothing is laid; v: a value is laid, o: none; l, r, b: where something is laid below. -/
inductive Plan where
  | e
  | lf (v : Value)
  | vl (v : Value) (l : Plan)
  | vr (v : Value) (r : Plan)
  | vb (v : Value) (l r : Plan)
  | ol (l : Plan)
  | or (r : Plan)
  | ob (l r : Plan)
noncomputable def mrgP : Plan → Tr Value → Tr Value := @Plan.rec (fun _ => Tr Value → Tr Value) (fun t => t)
  (fun v t => @Tr.rec Value (fun _ => Tr Value) (.node (some v) .nil .nil) (fun _ l' r' _ _ => .node (some v) l' r') t)
  (fun v _ il t => @Tr.rec Value (fun _ => Tr Value) (.node (some v) (il .nil) .nil) (fun _ l' r' _ _ => .node (some v) (il l') r') t)
  (fun v _ ir t => @Tr.rec Value (fun _ => Tr Value) (.node (some v) .nil (ir .nil)) (fun _ l' r' _ _ => .node (some v) l' (ir r')) t)
  (fun v _ _ il ir t => @Tr.rec Value (fun _ => Tr Value) (.node (some v) (il .nil) (ir .nil)) (fun _ l' r' _ _ => .node (some v) (il l') (ir r')) t)
  (fun _ il t => @Tr.rec Value (fun _ => Tr Value) (.node none (il .nil) .nil) (fun v' l' r' _ _ => .node v' (il l') r') t)
  (fun _ ir t => @Tr.rec Value (fun _ => Tr Value) (.node none .nil (ir .nil)) (fun v' l' r' _ _ => .node v' l' (ir r')) t)
  (fun _ _ il ir t => @Tr.rec Value (fun _ => Tr Value) (.node none (il .nil) (ir .nil)) (fun v' l' r' _ _ => .node v' (il l') (ir r')) t)

/-- What is known of slots is so. -/
structure Con (E : Env) (pl tm : Tr Value) : Prop where
  hit : ∀ t v, lkE t E = some v → (mrg pl tm).get t = some v
  mis : ∀ t, lkE t E = none → pl.get t = none

theorem Con.start (tm : Tr Value) : Con [] .nil tm := by
  refine ⟨?_, fun _ _ => rfl⟩
  intro t v h; cases h

theorem Con.read {E : Env} {pl tm : Tr Value} (C : Con E pl tm) {t : Nat} {v : Value} (hl : lkE t E = none) (hv : tm.get t = some v) : Con ((t, v) :: E) pl tm := by
  refine ⟨fun t' v' h => ?_, fun t' h => ?_⟩
  · rw [lkE_cons] at h
    split at h
    · rename_i e
      cases h; subst e
      rw [mrg_get, C.mis _ hl, orV_none]; exact hv
    · exact C.hit t' v' h
  · rw [lkE_cons] at h
    split at h
    · cases h
    · exact C.mis t' h

noncomputable def bindE (dst : Option Nat) (v : Value) (E : Env) : Env := match dst with
  | some d => (d, v) :: E
  | none => E
noncomputable def bindP (dst : Option Nat) (v : Value) (pl : Tr Value) : Tr Value := match dst with
  | some d => sV (pathOf d) (some v) pl
  | none => pl

theorem bindP_eq (dst : Option Nat) (v : Value) (pl tm : Tr Value) : mrg (bindP dst v pl) tm = putT (mrg pl tm) dst v := by
  cases dst with
  | none => rfl
  | some d =>
    show mrg (sV (pathOf d) (some v) pl) tm = (mrg pl tm).set d (some v)
    rw [sV_eq]
    exact mrg_set v (d + 1) d pl tm (Nat.lt_succ_self d)

theorem Con.bind {E : Env} {pl tm : Tr Value} (C : Con E pl tm) (dst : Option Nat) (v : Value) : Con (bindE dst v E) (bindP dst v pl) tm := by
  cases dst with
  | none => exact C
  | some d =>
    refine ⟨fun t' v' h => ?_, fun t' h => ?_⟩
    · rw [bindP_eq]
      show ((mrg pl tm).set d (some v)).get t' = _
      rw [Tr.get_set]
      change lkE t' ((d, v) :: E) = some v' at h
      rw [lkE_cons] at h
      split at h
      · rename_i e
        have e : d = t' := e
        cases h; subst e; simp
      · rename_i e
        have : ¬ t' = d := fun h => e h.symm
        simp only [this, if_false]
        exact C.hit t' v' h
    · change lkE t' ((d, v) :: E) = none at h
      rw [lkE_cons] at h
      split at h
      · cases h
      · rename_i e
        show (sV (pathOf d) (some v) pl).get t' = none
        have : ¬ t' = d := fun h => e h.symm
        rw [sV_eq, Tr.get_set]
        simp only [this, if_false]
        exact C.mis t' h

/-! ### Operands -/
noncomputable def sl (p : Pth) (tm : Tr Value) (k : Value → Rz) : Rz := @Option.rec Value (fun _ => Rz) none k (gV p tm)
noncomputable def opd (x : Operand) (E : Env) (tm : Tr Value) (k : Env → Value → Rz) : Rz := match x with
  | .tmp t => match lkE t E with
    | some v => k E v
    | none => sl (pathOf t) tm (fun v => k ((t, v) :: E) v)
  | .const v => match flat v with
    | true => k E v
    | false => none
  | .func f => k E (.func (.func f) #[] #[])
  | .global _ => none

variable {E : Env} {pl tm : Tr Value} {r : Tr Value × Heap}

theorem opd_ok {x : Operand} {k : Env → Value → Rz} (C : Con E pl tm) (h : opd x E tm k = some r) : ∃ E' v, Con E' pl tm ∧ ev (mrg pl tm) x = some v ∧ k E' v = some r := by
  cases x with
  | tmp t =>
    simp only [opd] at h
    cases hl : lkE t E with
    | some v => rw [hl] at h; exact ⟨E, v, C, C.hit t v hl, h⟩
    | none =>
      rw [hl] at h
      dsimp only at h
      unfold sl at h
      rw [gV_eq] at h
      cases hv : tm.get t with
      | none => rw [hv] at h; cases h
      | some v =>
        rw [hv] at h
        refine ⟨_, v, C.read hl hv, ?_, h⟩
        show (mrg pl tm).get t = some v
        rw [mrg_get, C.mis _ hl, orV_none]; exact hv
  | const v =>
    simp only [opd] at h
    cases hf : flat v with
    | true => rw [hf] at h; exact ⟨E, v, C, by simp only [ev, hf], h⟩
    | false => rw [hf] at h; cases h
  | func f => exact ⟨E, _, C, rfl, h⟩
  | global g => cases h

noncomputable def opds (tm : Tr Value) : List Operand → Env → (Env → List Value → Rz) → Rz
  | [], E, k => k E []
  | x :: l, E, k => opd x E tm fun E v => opds tm l E fun E vs => k E (v :: vs)

theorem opds_ok : ∀ {l : List Operand} {E : Env} {k : Env → List Value → Rz}, Con E pl tm → opds tm l E k = some r → ∃ E' vs, Con E' pl tm ∧ evs (mrg pl tm) l = some vs ∧ k E' vs = some r
  | [], E, k, C, h => ⟨E, [], C, rfl, h⟩
  | x :: l, E, k, C, h => by
    simp only [opds] at h
    obtain ⟨E1, v, C1, hv, h1⟩ := opd_ok C h
    obtain ⟨E2, vs, C2, hvs, h2⟩ := opds_ok C1 h1
    exact ⟨E2, v :: vs, C2, by simp only [evs, hv, hvs], h2⟩

/-! ### What goes on with a value -/
noncomputable def kO {α : Type} (o : Option α) (k : α → Rz) : Rz := @Option.rec α (fun _ => Rz) none k o
theorem kO_ok {α : Type} {o : Option α} {k : α → Rz} (h : kO o k = some r) : ∃ v, o = some v ∧ k v = some r := by
  cases o with
  | none => cases h
  | some v => exact ⟨v, rfl, h⟩
noncomputable def kV (o : Option Value) (k : Value → Rz) : Rz := @Option.rec Value (fun _ => Rz) none k o
theorem kV_ok {o : Option Value} {k : Value → Rz} (h : kV o k = some r) : ∃ v, o = some v ∧ k v = some r := by
  cases o with
  | none => cases h
  | some v => exact ⟨v, rfl, h⟩
noncomputable def kA (v : Value) (k : Addr → Rz) : Rz := @Option.rec Addr (fun _ => Rz) none k (ptrV v)
theorem kA_ok {v : Value} {k : Addr → Rz} (h : kA v k = some r) : ∃ a, v = .pointer (some a) ∧ k a = some r := by
  unfold kA at h
  cases hp : ptrV v with
  | none => rw [hp] at h; cases h
  | some a => rw [hp] at h; exact ⟨a, ptrV_eq hp, h⟩
noncomputable def intZ : Value → (IntKind → Int → Rz) → Rz := @Value.rec (fun _ => (IntKind → Int → Rz) → Rz) (fun _ => Unit) (fun _ => Unit)
  (fun _ _ => none) (fun k n f => f k n) (fun _ _ _ => none) (fun _ _ _ _ => none) (fun _ _ => none) (fun _ _ => none) (fun _ _ _ _ => none) (fun _ _ => none) (fun _ _ => none)
  (fun _ _ _ _ _ _ => none) (fun _ => none) (fun _ _ _ _ => none) (fun _ => none) (fun _ _ _ => none) (fun _ _ _ => none) (fun _ _ => ()) () (fun _ _ _ _ => ())
theorem intZ_ok {v : Value} {f : IntKind → Int → Rz} (h : intZ v f = some r) : ∃ k n, v = .int k n ∧ f k n = some r := by
  cases v
  case int k n => exact ⟨k, n, rfl, h⟩
  all_goals exact absurd (show (none : Rz) = some r from h) (by simp)

noncomputable def binJ (op : BinOp) (a b : Value) (k : Value → Rz) : Rz := intZ a (fun ka m => intZ b (fun kb n => kV (intAll op ka kb m n) k))
theorem binJ_ok {op : BinOp} {a b : Value} {k : Value → Rz} (h : binJ op a b k = some r) (x y : Operand) : ∃ v, guardE x y a = true ∧ (∀ (cx : Cx) (h : Heap) (t : Nat), binE cx h op t a b = some v) ∧ k v = some r := by
  obtain ⟨ka, m, ea, h1⟩ := intZ_ok h
  obtain ⟨kb, n, eb, h2⟩ := intZ_ok h1
  obtain ⟨v, hv, h3⟩ := kV_ok h2
  subst ea eb
  exact ⟨v, rfl, fun cx hp t => by rw [← intAll_eq]; exact hv, h3⟩

/-- A pointer's comparison with nil. -/
noncomputable def ptrZ : Value → (Option Addr → Rz) → Rz := @Value.rec (fun _ => (Option Addr → Rz) → Rz) (fun _ => Unit) (fun _ => Unit)
  (fun _ _ => none) (fun _ _ _ => none) (fun _ _ _ => none) (fun _ _ _ _ => none) (fun _ _ => none) (fun a f => f a) (fun _ _ _ _ => none) (fun _ _ => none) (fun _ _ => none)
  (fun _ _ _ _ _ _ => none) (fun _ => none) (fun _ _ _ _ => none) (fun _ => none) (fun _ _ _ => none) (fun _ _ _ => none) (fun _ _ => ()) () (fun _ _ _ _ => ())
theorem ptrZ_ok {v : Value} {f : Option Addr → Rz} (h : ptrZ v f = some r) : ∃ a, v = .pointer a ∧ f a = some r := by
  cases v
  case pointer a => exact ⟨a, rfl, h⟩
  all_goals exact absurd (show (none : Rz) = some r from h) (by simp)
noncomputable def nilJ (neg : Bool) (a : Value) (k : Value → Rz) : Rz := ptrZ a (fun o => @Option.rec Addr (fun _ => Rz) (k (.bool (not neg))) (fun _ => k (.bool neg)) o)
noncomputable def ptrS (cx : Cx) (t : Nat) : Bool := match cx.ty t with
  | some i => match i.d with
    | .pointer _ => true
    | _ => false
  | none => false
theorem nilJ_ok {cx : Cx} {neg : Bool} {a : Value} {k : Value → Rz} (h : nilJ neg a k = some r) {t : Nat} (ht : ptrS cx t = true) (x y : Operand) :
    ∃ v, guardE x y a = true ∧ (∀ (h : Heap), binE cx h (match neg with | true => .neq | false => .eql) t a (.pointer none) = some v) ∧ k v = some r := by
  obtain ⟨o, eo, h1⟩ := ptrZ_ok h
  subst eo
  unfold ptrS at ht
  cases hi : cx.ty t with
  | none => rw [hi] at ht; cases ht
  | some i =>
    rw [hi] at ht
    cases hd : i.d <;> simp only [hd] at ht <;> try cases ht
    cases o with
    | none =>
      refine ⟨.bool (not neg), rfl, fun hp => ?_, h1⟩
      cases neg <;> simp [binE, eqA, hi, hd]
    | some a =>
      refine ⟨.bool neg, rfl, fun hp => ?_, h1⟩
      cases neg <;> simp [binE, eqA, hi, hd]

noncomputable def notJ (a : Value) (k : Value → Rz) : Rz := kO (boolV a) (fun b => k (.bool (not b)))
theorem boolV_eq {v : Value} {b : Bool} (h : boolV v = some b) : v = .bool b := by
  cases v
  case bool c => have e : some c = some b := h; cases e; rfl
  all_goals exact absurd (show (none : Option Bool) = some b from h) (by simp)
theorem notJ_ok {a : Value} {k : Value → Rz} (h : notJ a k = some r) : ∃ v, unE .not a = some v ∧ k v = some r := by
  obtain ⟨b, hb, h1⟩ := kO_ok h
  rw [boolV_eq hb]
  exact ⟨_, rfl, h1⟩

noncomputable def pkJ (c a b : Value) (k : Value → Rz) : Rz := kO (boolV c) (fun x => k (@Bool.rec (fun _ => Value) b a x))

noncomputable def cvJ (kd : IntKind) (a : Value) (k : Value → Rz) : Rz := intZ a (fun _ n => kV (convI kd n) k)
theorem cvJ_ok {cx : Cx} {s d : Nat} {kd : IntKind} (hs : convS cx s d = some kd) {a : Value} {k : Value → Rz} (h : cvJ kd a k = some r) : ∃ v, (∀ h : Heap, convertE cx h s d a = some v) ∧ k v = some r := by
  obtain ⟨ka, n, ea, h1⟩ := intZ_ok h
  obtain ⟨v, hv, h2⟩ := kV_ok h1
  subst ea
  refine ⟨v, fun hp => ?_, h2⟩
  rw [← convG_eq]
  unfold convG
  rw [hs]
  exact hv

noncomputable def ptJ (a : Value) (k : Value → Rz) : Rz := kA a (fun _ => k a)
noncomputable def faJ (o : Nat) (a : Value) (k : Value → Rz) : Rz := kA a (fun ad => kV (addV ad o) k)
theorem faJ_ok {cx : Cx} {t f o : Nat} (hs : offS cx t f = some o) {a : Value} {k : Value → Rz} (h : faJ o a k = some r) : ∃ v, fieldAddrE cx t a f = some v ∧ k v = some r := by
  obtain ⟨ad, ea, h1⟩ := kA_ok h
  obtain ⟨v, hv, h2⟩ := kV_ok h1
  subst ea
  refine ⟨v, ?_, h2⟩
  rw [← faG_eq]
  show @Option.rec Nat (fun _ => Option Value) none (addV ad) (offS cx t f) = _
  rw [hs]; exact hv

noncomputable def iaJ (ia : Ia) (a i : Value) (k : Value → Rz) : Rz := intZ i (fun _ n => kV (iaG ia a n) k)
theorem iaJ_ok {cx : Cx} {t : Nat} {a i : Value} {k : Value → Rz} (h : iaJ (iaS cx t) a i k = some r) : ∃ v, indexAddrE cx t a i = some v ∧ k v = some r := by
  obtain ⟨ki, n, ei, h1⟩ := intZ_ok h
  obtain ⟨v, hv, h2⟩ := kV_ok h1
  subst ei
  exact ⟨v, by rw [← iaG_eq]; exact hv, h2⟩

noncomputable def tupJ (i : Nat) (a : Value) (k : Value → Rz) : Rz := kO (tupV a) (fun l => kV (tupG i l) k)
theorem tupJ_ok {i : Nat} {a : Value} {k : Value → Rz} (h : tupJ i a k = some r) : ∃ vs v, a = .tuple vs ∧ tupAt vs.toList i = some v ∧ k v = some r := by
  obtain ⟨l, hl, h1⟩ := kO_ok h
  obtain ⟨v, hv, h2⟩ := kV_ok h1
  clear h
  cases a
  case tuple vs =>
    have e : some vs.toList = some l := hl
    cases e
    exact ⟨vs, v, rfl, by rw [← tupG_eq]; exact hv, h2⟩
  all_goals exact absurd (show (none : Option (List Value)) = some l from hl) (by simp)

noncomputable def lenJ (a : Value) (k : Value → Rz) : Rz := kV (sliceC a (fun _ n _ => some (.int .i64 (Int.ofNat n))) none) k

/-! Memory -/
noncomputable def ldJ (h : Heap) (a : Value) (k : Value → Rz) : Rz := kA a (fun ad => kV (load1 h ad) k)
noncomputable def ldAJ (n : Nat) (h : Heap) (a : Value) (k : Value → Rz) : Rz := kA a (fun ad => kV (loadA h n ad) k)
noncomputable def stJ (h : Heap) (a x : Value) (k : Heap → Rz) : Rz := kA a (fun ad => @Bool.rec (fun _ => Rz) none (kO (store1 x h ad) k) (isCellG x))
noncomputable def calJ (cf : CallFn) (g : Nat) (vs : List Value) (h : Heap) (k : Value → Heap → Rz) : Rz :=
  @Option.rec (Fin × Heap) (fun _ => Rz) none (fun p => @Prod.rec Fin Heap (fun _ => Rz) (fun r h' => @Fin.rec (fun _ => Rz) (fun v => k v h') (fun _ => none) r) p) (cf g vs h)
theorem calJ_ok {cf : CallFn} {g : Nat} {vs : List Value} {h : Heap} {k : Value → Heap → Rz} (hr : calJ cf g vs h k = some r) : ∃ v h', cf g vs h = some (.ret v, h') ∧ k v h' = some r := by
  unfold calJ at hr
  cases hc : cf g vs h with
  | none => rw [hc] at hr; cases hr
  | some p =>
    obtain ⟨f, h'⟩ := p
    rw [hc] at hr
    cases f with
    | ret v => exact ⟨v, h', rfl, hr⟩
    | pan c => cases hr
noncomputable def alJ (o : Option Obj) (h : Heap) (k : Value → Heap → Rz) : Rz :=
  kO o (fun o => natK (fun n => k (.pointer (some ⟨n, 0, none⟩)) ⟨sO (pathOf n) (some o) (Heap.tr h), Nat.succ n, ⟨n, 0, unk⟩ :: Heap.dt h⟩) (Heap.nx h))
theorem alJ_ok {o : Option Obj} {h : Heap} {k : Value → Heap → Rz} (hr : alJ o h k = some r) : ∃ b, o = some b ∧ k (.pointer (some ⟨h.nx, 0, none⟩)) (h.add b) = some r := by
  obtain ⟨b, hb, h1⟩ := kO_ok hr
  rw [natK_eq, sO_eq] at h1
  exact ⟨b, hb, h1⟩

/-! Maps with integers for keys -/
noncomputable def eqI (a b : Int) : Bool := @Int.rec (fun _ => Bool) (fun m => @Int.rec (fun _ => Bool) (fun n => Nat.beq m n) (fun _ => a == b) b) (fun _ => a == b) a
theorem eqI_eq (a b : Int) : eqI a b = (a == b) := by
  cases a with
  | negSucc a => rfl
  | ofNat a => cases b with
    | negSucc b => rfl
    | ofNat b => exact beq_nat a b
noncomputable def keyC : Value → (IntKind → Int → Option (Option Value)) → Option (Option Value) := @Value.rec (fun _ => (IntKind → Int → Option (Option Value)) → Option (Option Value)) (fun _ => Unit) (fun _ => Unit)
  (fun _ _ => none) (fun k n f => f k n) (fun _ _ _ => none) (fun _ _ _ _ => none) (fun _ _ => none) (fun _ _ => none) (fun _ _ _ _ => none) (fun _ _ => none) (fun _ _ => none)
  (fun _ _ _ _ _ _ => none) (fun _ => none) (fun _ _ _ _ => none) (fun _ => none) (fun _ _ _ => none) (fun _ _ _ => none) (fun _ _ => ()) () (fun _ _ _ _ => ())
noncomputable def findI (k : IntKind) (n : Int) : List MapEntry → Option (Option Value) := @List.rec MapEntry (fun _ => Option (Option Value)) (some none)
  (fun e _ ih => keyC e.key (fun k' b => @Decidable.rec (k = k') (fun _ => Option (Option Value)) (fun _ => none) (fun _ => @Bool.rec (fun _ => Option (Option Value)) ih (some (some e.val)) (eqI n b)) (decEq k k')))
theorem findI_eq {cx : Cx} {h : Heap} {kt : Nat} {i : Ty} {kk : IntKind} (hi : cx.ty kt = some i) (hd : i.d = .int kk) (k : IntKind) (n : Int) : ∀ (es : List MapEntry) (j : Nat) (o : Option Value), findI k n es = some o →
    ∃ q, findA (fun x => eqA cx h 60 kt (.int k n) x) es j = some q ∧ q.map (·.2) = o
  | [], j, o, hf => by
    cases hf
    exact ⟨none, rfl, rfl⟩
  | e :: es, j, o, hf => by
    change keyC e.key (fun k' b => @Decidable.rec (k = k') (fun _ => Option (Option Value)) (fun _ => none) (fun _ => @Bool.rec (fun _ => Option (Option Value)) (findI k n es) (some (some e.val)) (eqI n b)) (decEq k k')) = some o at hf
    by_cases hk : ∃ k' b, e.key = .int k' b
    · obtain ⟨k', b, hk⟩ := hk
      rw [hk] at hf
      change @Decidable.rec (k = k') (fun _ => Option (Option Value)) (fun _ => none) (fun _ => @Bool.rec (fun _ => Option (Option Value)) (findI k n es) (some (some e.val)) (eqI n b)) (decEq k k') = some o at hf
      have heq : eqA cx h 60 kt (.int k n) e.key = match decEq k k' with
          | isTrue _ => some (n == b)
          | isFalse _ => none := by rw [hk]; simp only [eqA, hi, hd]; rfl
      cases hdec : decEq k k' with
      | isFalse hne => rw [hdec] at hf; cases hf
      | isTrue hye =>
        rw [hdec] at hf heq
        change @Bool.rec (fun _ => Option (Option Value)) (findI k n es) (some (some e.val)) (eqI n b) = some o at hf
        rw [eqI_eq] at hf
        simp only [findA, heq]
        cases hb : (n == b) with
        | true => rw [hb] at hf; cases hf; exact ⟨some (j, e.val), rfl, rfl⟩
        | false =>
          rw [hb] at hf
          exact findI_eq hi hd k n es (j + 1) o hf
    · exfalso
      have : ∀ f, keyC e.key f = none := by
        intro f
        cases hv : e.key <;> first | rfl | exact absurd ⟨_, _, hv⟩ hk
      rw [this] at hf
      cases hf

noncomputable def mapV : Value → Option (Option Nat) := @Value.rec (fun _ => Option (Option Nat)) (fun _ => Unit) (fun _ => Unit)
  (fun _ => none) (fun _ _ => none) (fun _ _ => none) (fun _ _ _ => none) (fun _ => none) (fun _ => none) (fun _ _ _ => none) (fun a => some a) (fun _ => none)
  (fun _ _ _ _ _ => none) none (fun _ _ _ => none) none (fun _ _ => none) (fun _ _ => none) (fun _ _ => ()) () (fun _ _ _ _ => ())
noncomputable def mapO : Option Obj → Option (List MapEntry) := @Option.rec Obj (fun _ => Option (List MapEntry)) none (fun o => @Obj.rec (fun _ => Option (List MapEntry)) (fun _ _ _ _ _ _ => none) (fun es _ => some es) (fun _ _ => none) o)
noncomputable def mapE (h : Heap) (m : Value) : Option (List MapEntry) :=
  @Option.rec (Option Nat) (fun _ => Option (List MapEntry)) none (fun o => @Option.rec Nat (fun _ => Option (List MapEntry)) (some []) (fun r => mapO (gO (pathOf r) (Heap.tr h))) o) (mapV m)
theorem mapE_eq (h : Heap) (m : Value) : mapE h m = getMap h m := by
  cases m
  case map o =>
    cases o with
    | none => rfl
    | some q =>
      show mapO (gO (pathOf q) h.tr) = _
      rw [gO_eq]
      simp only [getMap, Heap.get]
      cases h.tr.get q with
      | none => rfl
      | some o => cases o <;> rfl
  all_goals rfl
/-- The zero value of a map's elements, where its keys are integers. -/
noncomputable def mapS (cx : Cx) (t : Nat) : Option Value := match cx.ty t with
  | some i => match i.d with
    | .map kt et => match cx.ty kt, cx.ty et with
      | some ki, some e => match ki.d with
        | .int _ => some e.zero
        | _ => none
      | _, _ => none
    | _ => none
  | none => none
noncomputable def lkJ (z : Value) (h : Heap) (m key : Value) (k : Value → Rz) : Rz :=
  intZ key (fun kk n => kO (mapE h m) (fun es => kO (findI kk n es) (fun o => @Option.rec Value (fun _ => Rz) (k z) k o)))
theorem lkJ_ok {cx : Cx} {t : Nat} {z : Value} (hs : mapS cx t = some z) {h : Heap} {m key : Value} {k : Value → Rz} (hr : lkJ z h m key k = some r) : ∃ v, lookupE cx h t m key false = some v ∧ k v = some r := by
  obtain ⟨kk, n, ek, h1⟩ := intZ_ok hr
  obtain ⟨es, hes, h2⟩ := kO_ok h1
  obtain ⟨o, ho, h3⟩ := kO_ok h2
  subst ek
  rw [mapE_eq] at hes
  unfold mapS at hs
  unfold lookupE
  cases hi : cx.ty t with
  | none => rw [hi] at hs; cases hs
  | some i =>
    rw [hi] at hs
    dsimp only at hs ⊢
    cases hd : i.d <;> simp only [hd] at hs ⊢ <;> try cases hs
    rename_i kt et
    cases hk : cx.ty kt with
    | none => rw [hk] at hs; cases hs
    | some ki =>
      cases he : cx.ty et with
      | none => rw [hk, he] at hs; cases hs
      | some e =>
        rw [hk, he] at hs
        dsimp only at hs
        cases hkd : ki.d <;> simp only [hkd] at hs <;> try cases hs
        rename_i ik
        obtain ⟨q, hq, hqo⟩ := findI_eq (h := h) hk hkd kk n es 0 o ho
        have hko : keyOk cx 60 kt (.int kk n) = true := by simp only [keyOk, hk, hkd]
        simp only [hes, hko, findK]
        rw [hq]
        cases q with
        | none => cases hqo; exact ⟨_, rfl, h3⟩
        | some p => obtain ⟨j, v⟩ := p; cases hqo; exact ⟨v, rfl, h3⟩

end Go.Em

/-
  Statements as a whole, with their operands at hand; and that they come to what the evaluator's do.
-/
namespace Go.Em
section
variable (cx : Cx)

/-- Operations that look at no memory. -/
noncomputable def opP (o : Op) (E : Env) (tm : Tr Value) (k : Env → Value → Rz) : Rz := match o with
  | .move x => opd x E tm k
  | .assign x => opd x E tm k
  | .pick c a b => opd c E tm fun E c => opd a E tm fun E a => opd b E tm fun E b => pkJ c a b (k E)
  | .nilCheck x => opd x E tm fun E a => ptJ a (k E)
  | .binOp op t x y _ => match y with
    | .const (.pointer none) => match ptrS cx t, op with
      | true, .eql => opd x E tm fun E a => nilJ false a (k E)
      | true, .neq => opd x E tm fun E a => nilJ true a (k E)
      | _, _ => none
    | _ => opd x E tm fun E a => opd y E tm fun E b => binJ op a b (k E)
  | .unOp .not _ x => opd x E tm fun E a => notJ a (k E)
  | .convert s d x => match convS cx s d with
    | some kd => opd x E tm fun E a => cvJ kd a (k E)
    | none => none
  | .fieldAddr t x f => match offS cx t f with
    | some o => opd x E tm fun E a => faJ o a (k E)
    | none => none
  | .indexAddr t x i => opd x E tm fun E a => opd i E tm fun E i => iaJ (iaS cx t) a i (k E)
  | .extract t i => opd t E tm fun E a => tupJ i a (k E)
  | .call c => match c.callee with
    | .builtin b => match lenS cx b c.args.toList c.argTypes.toList with
      | some x => opd x E tm fun E a => lenJ a (k E)
      | none => none
    | _ => none
  | _ => none

variable {cx} {E : Env} {pl tm : Tr Value} {r : Tr Value × Heap}

theorem lenS_inv {b : Builtin} {l : List Operand} {ts : List Nat} {x : Operand} (hs : lenS cx b l ts = some x) : b = .len ∧ l = [x] ∧ ∃ t, ts = [t] ∧ isSlS cx t = true := by
  unfold lenS at hs
  split at hs
  · rename_i x' t
    cases ht : isSlS cx t with
    | false => rw [ht] at hs; cases hs
    | true => rw [ht] at hs; cases hs; exact ⟨rfl, rfl, t, rfl, ht⟩
  · cases hs

theorem lenJ_ok {t : Nat} (ht : isSlS cx t = true) {a : Value} {k : Value → Rz} (hr : lenJ a k = some r) : ∃ v, (∀ h : Heap, lenOp cx h t a = some v) ∧ k v = some r := by
  obtain ⟨v, hv, h1⟩ := kV_ok hr
  clear hr
  cases a
  case slice b n c =>
    have e : some (Value.int .i64 (Int.ofNat n)) = some v := hv
    cases e
    refine ⟨_, fun h => ?_, h1⟩
    unfold isSlS at ht
    simp only [lenOp]
    cases hi : cx.ty t with
    | none => rw [hi] at ht; cases ht
    | some i =>
      rw [hi] at ht
      cases hd : i.d <;> simp only [hd] at ht ⊢ <;> first | rfl | cases ht
  all_goals exact absurd (show (none : Option Value) = some v from hv) (by simp)

theorem opP_ok {o : Op} {k : Env → Value → Rz} (C : Con E pl tm) (h : opP cx o E tm k = some r) :
    ∃ E' v, Con E' pl tm ∧ (∀ (cf : CallFn) (hp : Heap), opE cx cf (mrg pl tm) hp o = some (.val v, hp)) ∧ k E' v = some r := by
  cases o <;> simp only [opP] at h <;> try (exact absurd h (by simp))
  case move x =>
    obtain ⟨E1, v, C1, hv, h1⟩ := opd_ok C h
    exact ⟨E1, v, C1, fun cf hp => by simp only [opE, hv, val], h1⟩
  case assign x =>
    obtain ⟨E1, v, C1, hv, h1⟩ := opd_ok C h
    exact ⟨E1, v, C1, fun cf hp => by simp only [opE, hv, val], h1⟩
  case pick c a b =>
    obtain ⟨E1, vc, C1, hc, h1⟩ := opd_ok C h
    obtain ⟨E2, va, C2, ha, h2⟩ := opd_ok C1 h1
    obtain ⟨E3, vb, C3, hb, h3⟩ := opd_ok C2 h2
    obtain ⟨x, hx, h4⟩ := kO_ok h3
    have ex := boolV_eq hx
    subst ex
    refine ⟨E3, _, C3, fun cf hp => ?_, h4⟩
    cases x
    · simp only [opE, hc, hb, val]
    · simp only [opE, hc, ha, val]
  case nilCheck x =>
    obtain ⟨E1, v, C1, hv, h1⟩ := opd_ok C h
    obtain ⟨a, ea, h2⟩ := kA_ok h1
    subst ea
    exact ⟨E1, _, C1, fun cf hp => by simp only [opE, hv], h2⟩
  case binOp op t x y u =>
    split at h
    · split at h
      · rename_i _ _ ht
        obtain ⟨E1, a, C1, hv, h1⟩ := opd_ok C h
        obtain ⟨v, hg, hb, h2⟩ := nilJ_ok h1 ht x (.const (.pointer none))
        refine ⟨E1, v, C1, fun cf hp => ?_, h2⟩
        have hb := hb hp
        have hy : ev (mrg pl tm) (.const (.pointer none)) = some (.pointer none) := rfl
        simp only [opE, hv, hy, hg]
        rw [hb]; rfl
      · rename_i _ _ ht
        obtain ⟨E1, a, C1, hv, h1⟩ := opd_ok C h
        obtain ⟨v, hg, hb, h2⟩ := nilJ_ok h1 ht x (.const (.pointer none))
        refine ⟨E1, v, C1, fun cf hp => ?_, h2⟩
        have hb := hb hp
        have hy : ev (mrg pl tm) (.const (.pointer none)) = some (.pointer none) := rfl
        simp only [opE, hv, hy, hg]
        rw [hb]; rfl
      · cases h
    · obtain ⟨E1, a, C1, ha, h1⟩ := opd_ok C h
      obtain ⟨E2, b, C2, hb, h2⟩ := opd_ok C1 h1
      obtain ⟨v, hg, hv, h3⟩ := binJ_ok h2 x y
      exact ⟨E2, v, C2, fun cf hp => by simp only [opE, ha, hb, hg, hv, val], h3⟩
  case unOp op t x =>
    cases op <;> simp only at h <;> try (exact absurd h (by simp))
    obtain ⟨E1, a, C1, ha, h1⟩ := opd_ok C h
    obtain ⟨v, hv, h2⟩ := notJ_ok h1
    exact ⟨E1, v, C1, fun cf hp => by simp only [opE, ha, hv, val], h2⟩
  case convert s d x =>
    cases hs : convS cx s d with
    | none => rw [hs] at h; cases h
    | some kd =>
      rw [hs] at h
      obtain ⟨E1, a, C1, ha, h1⟩ := opd_ok C h
      obtain ⟨v, hv, h2⟩ := cvJ_ok hs h1
      exact ⟨E1, v, C1, fun cf hp => by simp only [opE, ha, hv, val], h2⟩
  case fieldAddr t x f =>
    cases hs : offS cx t f with
    | none => rw [hs] at h; cases h
    | some o =>
      rw [hs] at h
      obtain ⟨E1, a, C1, ha, h1⟩ := opd_ok C h
      obtain ⟨v, hv, h2⟩ := faJ_ok hs h1
      exact ⟨E1, v, C1, fun cf hp => by simp only [opE, ha, hv, val], h2⟩
  case indexAddr t x i =>
    obtain ⟨E1, a, C1, ha, h1⟩ := opd_ok C h
    obtain ⟨E2, b, C2, hb, h2⟩ := opd_ok C1 h1
    obtain ⟨v, hv, h3⟩ := iaJ_ok h2
    exact ⟨E2, v, C2, fun cf hp => by simp only [opE, ha, hb, hv, val], h3⟩
  case extract t i =>
    obtain ⟨E1, a, C1, ha, h1⟩ := opd_ok C h
    obtain ⟨vs, v, ea, hv, h2⟩ := tupJ_ok h1
    subst ea
    exact ⟨E1, v, C1, fun cf hp => by simp only [opE, ha, hv, val], h2⟩
  case call c =>
    obtain ⟨ce, args, ts⟩ := c
    cases ce <;> simp only at h <;> try (exact absurd h (by simp))
    rename_i b
    cases hs : lenS cx b args.toList ts.toList with
    | none => rw [hs] at h; cases h
    | some x =>
      rw [hs] at h
      obtain ⟨hb, hl, t, ht, hsl⟩ := lenS_inv hs
      obtain ⟨E1, a, C1, ha, h1⟩ := opd_ok C h
      obtain ⟨v, hv, h2⟩ := lenJ_ok hsl h1
      refine ⟨E1, v, C1, fun cf hp => ?_, h2⟩
      subst hb
      simp only [opE, hl, ht, evs, ha, builtinE, hv, val]

variable (cx)

/-- The operations that are gone into. -/
noncomputable def opJ (cf : CallFn) (o : Op) (E : Env) (tm : Tr Value) (h : Heap) (k : Env → Value → Heap → Rz) : Rz := match o with
  | .load t a => match scalS cx t, aggS cx t with
    | true, _ => opd a E tm fun E a => ldJ h a (fun v => k E v h)
    | false, some n => opd a E tm fun E a => ldAJ n h a (fun v => k E v h)
    | false, none => none
  | .store t a x => match oneS cx t with
    | true => opd a E tm fun E a => opd x E tm fun E x => stJ h a x (fun h => k E undef h)
    | false => none
  | .alloc t => alJ (rowS cx t) h (k E)
  | .box t x => opd x E tm fun E x => alJ (some (mkRowG x.cells.toList x.cells.size t 0)) h (k E)
  | .lookup t m key false => match mapS cx t with
    | some z => opd m E tm fun E m => opd key E tm fun E key => lkJ z h m key (fun v => k E v h)
    | none => none
  | .call c => match c.callee with
    | .value (.func g) => opds tm c.args.toList E fun E vs => calJ cf g vs h (k E)
    | .builtin _ => opP cx o E tm fun E v => k E v h
    | _ => none
  | o => opP cx o E tm fun E v => k E v h

variable {cx}

theorem opJ_ok {cf : CallFn} {o : Op} {h : Heap} {k : Env → Value → Heap → Rz} (C : Con E pl tm) (hr : opJ cx cf o E tm h k = some r) :
    ∃ E' v h', Con E' pl tm ∧ opE cx cf (mrg pl tm) h o = some (.val v, h') ∧ k E' v h' = some r := by
  have gen : (opP cx o E tm fun E v => k E v h) = some r → ∃ E' v h', Con E' pl tm ∧ opE cx cf (mrg pl tm) h o = some (.val v, h') ∧ k E' v h' = some r := by
    intro hr
    obtain ⟨E1, v, C1, hv, h1⟩ := opP_ok C hr
    exact ⟨E1, v, h, C1, hv cf h, h1⟩
  cases o <;> simp only [opJ] at hr <;> try (exact gen hr)
  case load t a =>
    cases hs : scalS cx t with
    | true =>
      rw [hs] at hr
      obtain ⟨E1, v, C1, hv, h1⟩ := opd_ok C hr
      obtain ⟨ad, ea, h2⟩ := kA_ok h1
      obtain ⟨x, hx, h3⟩ := kV_ok h2
      subst ea
      refine ⟨E1, x, h, C1, ?_, h3⟩
      have : loadT cx h t ad = some x := by rw [← loadG_eq]; unfold loadG; rw [hs]; exact hx
      simp only [opE, hv, this, val]
    | false =>
      rw [hs] at hr
      cases hn : aggS cx t with
      | none => rw [hn] at hr; cases hr
      | some n =>
        rw [hn] at hr
        obtain ⟨E1, v, C1, hv, h1⟩ := opd_ok C hr
        obtain ⟨ad, ea, h2⟩ := kA_ok h1
        obtain ⟨x, hx, h3⟩ := kV_ok h2
        subst ea
        refine ⟨E1, x, h, C1, ?_, h3⟩
        have : loadT cx h t ad = some x := by rw [← loadG_eq]; unfold loadG; rw [hs, hn]; exact hx
        simp only [opE, hv, this, val]
  case store t a x =>
    cases hs : oneS cx t with
    | false => rw [hs] at hr; cases hr
    | true =>
      rw [hs] at hr
      obtain ⟨E1, va, C1, hv, h1⟩ := opd_ok C hr
      obtain ⟨E2, vx, C2, hx, h2⟩ := opd_ok C1 h1
      obtain ⟨ad, ea, h3⟩ := kA_ok h2
      subst ea
      cases hc : isCellG vx with
      | false => rw [hc] at h3; cases h3
      | true =>
        rw [hc] at h3
        obtain ⟨h', hst, h4⟩ := kO_ok h3
        refine ⟨E2, undef, h', C2, ?_, h4⟩
        have : storeT cx h t ad vx = some h' := by rw [← storeG_eq]; unfold storeG; rw [hs, hc]; exact hst
        simp only [opE, hv, hx, this, skp]
  case alloc t =>
    obtain ⟨b, hb, h1⟩ := alJ_ok hr
    refine ⟨E, _, _, C, ?_, h1⟩
    rw [← kAlloc_eq]
    unfold kAlloc
    rw [hb]
    exact addG_eq _ b h
  case box t x =>
    obtain ⟨E1, v, C1, hv, h1⟩ := opd_ok C hr
    obtain ⟨b, hb, h2⟩ := alJ_ok h1
    cases hb
    refine ⟨E1, _, _, C1, ?_, h2⟩
    rw [mkRowG_eq]
    simp only [opE, makeE, hv]
  case lookup t m key ok =>
    cases ok with
    | true => exact gen hr
    | false =>
      cases hs : mapS cx t with
      | none => simp only [hs] at hr; cases hr
      | some z =>
        simp only [hs] at hr
        obtain ⟨E1, vm, C1, hm, h1⟩ := opd_ok C hr
        obtain ⟨E2, vk, C2, hk, h2⟩ := opd_ok C1 h1
        obtain ⟨v, hv, h3⟩ := lkJ_ok hs h2
        exact ⟨E2, v, h, C2, by simp only [opE, hm, hk, hv, val], h3⟩
  case call c =>
    obtain ⟨ce, args, ts⟩ := c
    cases ce with
    | value f =>
      cases f with
      | func g =>
        obtain ⟨E1, vs, C1, hvs, h1⟩ := opds_ok C hr
        obtain ⟨v, h', hc, h2⟩ := calJ_ok h1
        refine ⟨E1, v, h', C1, ?_, h2⟩
        have e : (#[] : Array Value).toList ++ vs ++ (#[] : Array Value).toList = vs := by simp
        simp only [opE, ev, hvs, target]
        rw [e, hc]
      | _ => cases hr
    | invoke a b => cases hr
    | builtin b => exact gen hr

/-! ### Statements in the text's order -/
noncomputable def gdJ (g : Value) (want : Bool) (op : (Value → Heap → Rz) → Rz) (h : Heap) (k : Value → Heap → Rz) : Rz :=
  kO (boolV g) (fun b => @Bool.rec (fun _ => Rz) (k undef h) (op k) (eqB b want))

variable (cx)

noncomputable def cmpR (cf : CallFn) (all : List Oper) : List Oper → Env → Tr Value → Tr Value → Heap → Rz
  | [], _, pl, tm, h => some (mrg pl tm, h)
  | o :: l, E, pl, tm, h => match o.guard with
    | none => opJ cx cf o.op E tm h fun E v h => cmpR cf all l (bindE o.dst v E) (bindP o.dst v pl) tm h
    | some (j, want) => match guS all j with
      | none => none
      | some d => opd (.tmp d) E tm fun E1 g => gdJ g want (fun k => opJ cx cf o.op E1 tm h fun _ v h => k v h) h
          (fun v h => cmpR cf all l (bindE o.dst v E1) (bindP o.dst v pl) tm h)

variable {cx}

theorem cmpR_ok {cf : CallFn} {all : List Oper} : ∀ {l : List Oper} {E : Env} {pl tm : Tr Value} {h : Heap} {r : Tr Value × Heap}, Con E pl tm → cmpR cx cf all l E pl tm h = some r →
    ∀ df u, opsE cx cf false all l ⟨mrg pl tm, df, u, h⟩ = some (.normal, ⟨r.1, df, u, r.2⟩)
  | [], E, pl, tm, h, r, C, hr, df, u => by
    simp only [cmpR] at hr
    cases hr
    simp only [opsE]
  | o :: l, E, pl, tm, h, r, C, hr, df, u => by
    simp only [cmpR] at hr
    cases hg : o.guard with
    | none =>
      rw [hg] at hr
      obtain ⟨E1, v, h', C1, ho, h1⟩ := opJ_ok C hr
      have ih := cmpR_ok (C1.bind o.dst v) h1 df u
      have hw : wantE all (mrg pl tm) o = some true := by unfold wantE; rw [hg]
      simp only [opsE, hw, ho]
      rw [← bindP_eq]
      exact ih
    | some p =>
      obtain ⟨j, want⟩ := p
      rw [hg] at hr
      dsimp only at hr
      cases hgs : guS all j with
      | none => rw [hgs] at hr; cases hr
      | some d =>
        rw [hgs] at hr
        obtain ⟨E1, g, C1, hv, h1⟩ := opd_ok C hr
        obtain ⟨b, hb, h2⟩ := kO_ok h1
        have hw : wantE all (mrg pl tm) o = some (eqB b want) := by
          rw [← wantG_eq]
          unfold wantG
          rw [hg]
          show wantF all (mrg pl tm) j want = _
          unfold wantF
          rw [hgs]
          show @Option.rec Value (fun _ => Option Bool) none _ (gV (pathOf d) (mrg pl tm)) = _
          rw [gV_eq]
          have hv' : (mrg pl tm).get d = some g := hv
          rw [hv']
          show @Option.rec Bool (fun _ => Option Bool) (tupS g) (fun b => some (eqB b want)) (boolV g) = _
          rw [hb]
        cases he : eqB b want with
        | false =>
          rw [he] at h2 hw
          change cmpR cx cf all l (bindE o.dst undef E1) (bindP o.dst undef pl) tm h = some r at h2
          have ih := cmpR_ok (C1.bind o.dst undef) h2 df u
          simp only [opsE, hw]
          rw [← bindP_eq]
          exact ih
        | true =>
          rw [he] at h2 hw
          change (opJ cx cf o.op E1 tm h fun _ v h => cmpR cx cf all l (bindE o.dst v E1) (bindP o.dst v pl) tm h) = some r at h2
          obtain ⟨E2, v, h', _, ho, h3⟩ := opJ_ok C1 h2
          have ih := cmpR_ok (C1.bind o.dst v) h3 df u
          simp only [opsE, hw, ho]
          rw [← bindP_eq]
          exact ih

/-! ### Open statements -/
variable (cx)

noncomputable def ldD (t : Nat) (a : Operand) (E : Env) (tm : Tr Value) (h : Heap) (k : Env → Value → Rz) : Rz := match scalS cx t, aggS cx t with
    | true, _ => opd a E tm fun E a => ldJ h a (k E)
    | false, some n => opd a E tm fun E a => ldAJ n h a (k E)
    | false, none => none

noncomputable def cmpD (cf : CallFn) : List Oper → Env → Tr Value → Tr Value → Heap → Rz
  | [], _, pl, tm, h => some (mrg pl tm, h)
  | o :: l, E, pl, tm, h => match o.guard, clO o.op with
    | none, .eff => opJ cx cf o.op E tm ⟨Heap.tr h, Heap.nx h, []⟩ fun E v h1 => cmpD cf l (bindE o.dst v E) (bindP o.dst v pl) tm ⟨Heap.tr h1, Heap.nx h1, Heap.dt h1 ++ Heap.dt h⟩
    | none, .oth => match loadO o.op with
      | some p => ldD cx p.1 p.2 E tm h fun E v => cmpD cf l (bindE o.dst v E) (bindP o.dst v pl) tm h
      | none => opP cx o.op E tm fun E v => cmpD cf l (bindE o.dst v E) (bindP o.dst v pl) tm h
    | _, _ => none

variable {cx}

theorem ldD_ok {t : Nat} {a : Operand} {h : Heap} {k : Env → Value → Rz} (C : Con E pl tm) (hr : ldD cx t a E tm h k = some r) : ∃ E' v, Con E' pl tm ∧ othL cx t a (mrg pl tm) h = some v ∧ k E' v = some r := by
  unfold ldD at hr
  have fin : ∀ {ad : Addr} {x : Value}, ev (mrg pl tm) a = some (.pointer (some ad)) → loadG cx t h ad = some x → othL cx t a (mrg pl tm) h = some x := by
    intro ad x hv hx
    unfold othL
    rw [evG_eq, hv]
    exact hx
  cases hs : scalS cx t with
  | true =>
    rw [hs] at hr
    obtain ⟨E1, v, C1, hv, h1⟩ := opd_ok C hr
    obtain ⟨ad, ea, h2⟩ := kA_ok h1
    obtain ⟨x, hx, h3⟩ := kV_ok h2
    subst ea
    exact ⟨E1, x, C1, fin hv (by unfold loadG; rw [hs]; exact hx), h3⟩
  | false =>
    rw [hs] at hr
    cases hn : aggS cx t with
    | none => rw [hn] at hr; cases hr
    | some n =>
      rw [hn] at hr
      obtain ⟨E1, v, C1, hv, h1⟩ := opd_ok C hr
      obtain ⟨ad, ea, h2⟩ := kA_ok h1
      obtain ⟨x, hx, h3⟩ := kV_ok h2
      subst ea
      exact ⟨E1, x, C1, fin hv (by unfold loadG; rw [hs, hn]; exact hx), h3⟩

theorem cmpD_ok {cf : CallFn} {base : Nat} {all : List Oper} : ∀ {l : List Oper} {ms : List Nat} {i : Nat} {mt : Tr Nat} {E : Env} {pl tm : Tr Value} {h : Heap} {r : Tr Value × Heap}, Con E pl tm → masksS l i mt = some ms → cmpD cx cf l E pl tm h = some r →
    trG cx cf base all l ms i (mrg pl tm) h [] = some (r.1, r.2, [])
  | [], ms, i, mt, E, pl, tm, h, r, C, hm, hr => by
    simp only [cmpD] at hr
    cases hr
    rfl
  | o :: l, ms, i, mt, E, pl, tm, h, r, C, hm, hr => by
    simp only [masksS] at hm
    cases hk : maskE mt i o.after.toList with
    | none => rw [hk] at hm; cases hm
    | some mask =>
      rw [hk] at hm
      dsimp only at hm
      cases hrest : masksS l (i + 1) (mt.set i (some mask)) with
      | none => rw [hrest] at hm; cases hm
      | some ms1 =>
        rw [hrest] at hm
        cases hm
        simp only [cmpD] at hr
        show stK cx cf base all i o mask (trG cx cf base all l ms1 (i + 1)) (mrg pl tm) h [] = _
        unfold stK
        cases hg : o.guard with
        | some p => rw [hg] at hr; cases hr
        | none =>
          rw [hg] at hr
          have hw : wantG o all (mrg pl tm) = some true := by unfold wantG; rw [hg]
          rw [hw]
          show runK cx cf base i o mask (trG cx cf base all l ms1 (i + 1)) (mrg pl tm) h [] = _
          unfold runK
          cases hc : clO o.op with
          | mak => rw [hc] at hr; cases hr
          | eff =>
            rw [hc] at hr
            obtain ⟨E1, v, h1, C1, ho, h2⟩ := opJ_ok C hr
            show effK o.dst mask (trG cx cf base all l ms1 (i + 1)) (mrg pl tm) h [] (disp o.op cx cf (mrg pl tm) ⟨h.tr, h.nx, []⟩) = _
            rw [disp_eq, ho]
            show trG cx cf base all l ms1 (i + 1) (putG (mrg pl tm) o.dst v) ⟨h1.tr, h1.nx, h1.dt ++ h.dt⟩ [] = _
            rw [putG_eq, ← bindP_eq]
            exact cmpD_ok (C1.bind o.dst v) hrest h2
          | oth =>
            rw [hc] at hr
            show othK o.dst (trG cx cf base all l ms1 (i + 1)) (mrg pl tm) h [] (othG cx o.op (mrg pl tm) h) = _
            cases hl : loadO o.op with
            | some p =>
              rw [hl] at hr
              obtain ⟨E1, v, C1, hv, h2⟩ := ldD_ok C hr
              have : othG cx o.op (mrg pl tm) h = some v := by unfold othG; rw [hl]; exact hv
              rw [this]
              show trG cx cf base all l ms1 (i + 1) (putG (mrg pl tm) o.dst v) h [] = _
              rw [putG_eq, ← bindP_eq]
              exact cmpD_ok (C1.bind o.dst v) hrest h2
            | none =>
              rw [hl] at hr
              obtain ⟨E1, v, C1, hv, h2⟩ := opP_ok C hr
              have : othG cx o.op (mrg pl tm) h = some v := by
                unfold othG
                rw [hl]
                show othP cx o.op (mrg pl tm) h = some v
                unfold othP
                rw [disp_eq, hv]
              rw [this]
              show trG cx cf base all l ms1 (i + 1) (putG (mrg pl tm) o.dst v) h [] = _
              rw [putG_eq, ← bindP_eq]
              exact cmpD_ok (C1.bind o.dst v) hrest h2

end
end Go.Em

/-
  Code and calls with some statements at hand in the quick form.
-/
namespace Go.Em

abbrev Fast := CallFn → Tr Value → Heap → Rz
abbrev FT := List (Nat × Fast)
abbrev Reg := Nat × Array Oper × Bool

noncomputable def lkF (id : Nat) : FT → Option Fast := @List.rec (Nat × Fast) (fun _ => Option Fast) none (fun p _ ih => @Bool.rec (fun _ => Option Fast) ih (some p.2) (Nat.beq p.1 id))
theorem lkF_nil (id : Nat) : lkF id [] = none := rfl
theorem lkF_cons (id : Nat) (p : Nat × Fast) (R : FT) : lkF id (p :: R) = if p.1 = id then some p.2 else lkF id R := by
  show @Bool.rec (fun _ => Option Fast) (lkF id R) (some p.2) (Nat.beq p.1 id) = _
  by_cases h : p.1 = id
  · simp [h]
  · have : Nat.beq p.1 id = false := by
      cases e : Nat.beq p.1 id with
      | false => rfl
      | true => exact absurd (Nat.eq_of_beq_eq_true e) h
    simp [h, this]

/-- A code's statements. -/
noncomputable def regs : Code → List Reg
  | .region id ops d => [(id, ops, d)]
  | .seq a b => regs a ++ regs b
  | .cond _ a b => regs a ++ regs b
  | .block _ a => regs a
  | .loop a => regs a
  | .scope a => regs a
  | _ => []

noncomputable def comp (cx : Cx) (p : Reg) : Fast := fun cf tm h => match p.2.2 with
  | false => cmpR cx cf p.2.1.toList p.2.1.toList [] .nil tm h
  | true => match statS p.2.1.toList with
    | some _ => cmpD cx cf p.2.1.toList [] .nil tm h
    | none => none

noncomputable def ordH (k : Rq) (df : List Deferred) (u : FrameMode) (r : Rz) : Rq := @Option.rec (Tr Value × Heap) (fun _ => Rq) k (fun p => @Prod.rec (Tr Value) Heap (fun _ => Rq) (fun tm h => some (.normal, ⟨tm, df, u, h⟩)) p) r
noncomputable def drwH (k : Rq) (df : List Deferred) (u : FrameMode) (r : Rz) : Rq :=
  @Option.rec (Tr Value × Heap) (fun _ => Rq) k (fun p => @Prod.rec (Tr Value) Heap (fun _ => Rq) (fun tm h => @Bool.rec (fun _ => Rq) k (some (.normal, ⟨tm, df, u, h⟩)) (Nat.ble (Heap.nx h) big)) p) r
noncomputable def regH (R : FT) (id : Nat) (ops : Array Oper) (draw : Bool) (r : Rx) (cx : Cx) (cf : CallFn) (dk : Bool) (tm : Tr Value) (df : List Deferred) (u : FrameMode) (h : Heap) : Rq :=
  @Option.rec Fast (fun _ => Rq) (cReg id ops draw r cx cf dk tm df u h)
    (fun fast => @Bool.rec (fun _ => Rq) (ordH (cReg id ops draw r cx cf dk tm df u h) df u (fast cf tm h))
      (drwH (cReg id ops draw r cx cf dk tm df u h) df u (fast cf tm ⟨Heap.tr h, Nat.add (Heap.nx h) (List.length ops.toList), Heap.dt h⟩)) draw) (lkF id R)

theorem regH_eq {cx : Cx} {R : FT} {id : Nat} {ops : Array Oper} {draw : Bool} (HR : ∀ fast, lkF id R = some fast → fast = comp cx (id, ops, draw)) (r : Rx) (cf : CallFn) (tm : Tr Value) (df : List Deferred) (u : FrameMode) (h : Heap) :
    regH R id ops draw r cx cf false tm df u h = cReg id ops draw r cx cf false tm df u h := by
  unfold regH
  cases hl : lkF id R with
  | none => rfl
  | some fast =>
    have hf := HR fast hl
    cases draw with
    | false =>
      show ordH (cReg id ops false r cx cf false tm df u h) df u (fast cf tm h) = _
      cases hr : fast cf tm h with
      | none => rfl
      | some p =>
        obtain ⟨tm', h'⟩ := p
        rw [hf] at hr
        have := cmpR_ok (Con.start tm) hr df u
        show some (Ex.normal, (⟨tm', df, u, h'⟩ : St)) = opsG cx cf false ops.toList ops.toList tm df u h
        rw [opsG_eq]
        exact this.symm
    | true =>
      show drwH (cReg id ops true r cx cf false tm df u h) df u (fast cf tm ⟨h.tr, h.nx + ops.toList.length, h.dt⟩) = _
      cases hr : fast cf tm ⟨h.tr, h.nx + ops.toList.length, h.dt⟩ with
      | none => rfl
      | some p =>
        obtain ⟨tm', h'⟩ := p
        show @Bool.rec (fun _ => Rq) (cReg id ops true r cx cf false tm df u h) (some (.normal, ⟨tm', df, u, h'⟩)) (Nat.ble h'.nx big) = _
        cases hb : Nat.ble h'.nx big with
        | false => rfl
        | true =>
          rw [hf] at hr
          simp only [comp] at hr
          cases hs : statS ops.toList with
          | none => rw [hs] at hr; cases hr
          | some ms =>
            rw [hs] at hr
            have hm : masksS ops.toList 0 .nil = some ms := by
              unfold statS at hs
              cases hm : masksS ops.toList 0 .nil with
              | none => rw [hm] at hs; cases hs
              | some ms' =>
                rw [hm] at hs
                dsimp only at hs
                split at hs
                · cases hs; rfl
                · cases hs
            have := cmpD_ok (base := h.nx) (all := ops.toList) (Con.start tm) hm hr
            show some (Ex.normal, (⟨tm', df, u, h'⟩ : St)) = drawG cx cf ops.toList ⟨tm, df, u, h⟩
            unfold drawG
            rw [hs]
            show _ = @Option.rec (Tr Value × Heap × Mks) (fun _ => Option (Ex × St)) (drawE cx cf ops.toList ⟨tm, df, u, h⟩) (drawK cx cf ops.toList ⟨tm, df, u, h⟩)
              (trG cx cf h.nx ops.toList ops.toList ms 0 tm ⟨h.tr, h.nx + ops.toList.length, h.dt⟩ [])
            have e : trG cx cf h.nx ops.toList ops.toList ms 0 tm ⟨h.tr, h.nx + ops.toList.length, h.dt⟩ [] = some (tm', h', []) := this
            rw [e]
            show _ = @Bool.rec (fun _ => Rq) (drawE cx cf ops.toList ⟨tm, df, u, h⟩) (some (.normal, ⟨tm', df, u, gvG h' []⟩)) (Nat.ble h'.nx big)
            rw [hb]
            rfl

noncomputable def cdispH (R : FT) : Code → Cc := @Code.rec (fun _ => Cc) (cOk .normal) (regH R) (fun a b _ _ => cSeq a b) (fun c a b _ _ => cCond c a b) (fun id a _ => cBlk id a) (fun a _ => cLoop a)
  (fun _ _ _ _ _ _ => cNo) (fun id => cOk (.exit id)) (fun a _ => cScope a) (fun _ => cOk .normal) (fun _ => cNo) (cOk .ret) (fun _ => cNo)
noncomputable def execH (cx : Cx) (cf : CallFn) (R : FT) : Nat → Rx :=
  @Nat.rec (fun _ => Rx) (fun _ _ _ _ _ => none) (fun _ ih c => cdispH R c ih cx cf false)

theorem execH_eq {cx : Cx} {R : FT} (cf : CallFn) : ∀ (n : Nat) (c : Code), (∀ p ∈ regs c, ∀ fast, lkF p.1 R = some fast → fast = comp cx p) → ∀ (tm : Tr Value) (df : List Deferred) (u : FrameMode) (h : Heap),
    execH cx cf R n c tm df u h = exec cx cf false n c ⟨tm, df, u, h⟩ := by
  intro n
  induction n with
  | zero => intro c _ tm df u h; rfl
  | succ n ih =>
    intro c HR tm df u h
    rw [← execG_eq]
    show cdispH R c (execH cx cf R n) cx cf false tm df u h = cdisp c (execG cx cf false n) cx cf false tm df u h
    have ih' : ∀ c, (∀ p ∈ regs c, ∀ fast, lkF p.1 R = some fast → fast = comp cx p) → execH cx cf R n c = execG cx cf false n c := by
      intro c hc
      funext tm df u h
      rw [ih c hc, execG_eq]
    cases c with
    | region id ops draw =>
      show regH R id ops draw (execH cx cf R n) cx cf false tm df u h = _
      rw [regH_eq (fun fast hl => HR (id, ops, draw) (by simp [regs]) fast hl)]
      rfl
    | seq a b =>
      show bndQ (execH cx cf R n a tm df u h) (seqQ (execH cx cf R n b)) = bndQ (execG cx cf false n a tm df u h) (seqQ (execG cx cf false n b))
      rw [ih' a (fun p hp => HR p (by simp [regs, hp])), ih' b (fun p hp => HR p (by simp [regs, hp]))]
    | cond c a b =>
      show cCond c a b (execH cx cf R n) cx cf false tm df u h = cCond c a b (execG cx cf false n) cx cf false tm df u h
      unfold cCond
      rw [ih' a (fun p hp => HR p (by simp [regs, hp])), ih' b (fun p hp => HR p (by simp [regs, hp]))]
    | block id a =>
      show bndQ (execH cx cf R n a tm df u h) (blkQ id) = bndQ (execG cx cf false n a tm df u h) (blkQ id)
      rw [ih' a (fun p hp => HR p (by simpa [regs] using hp))]
    | loop a =>
      show bndQ (execH cx cf R n a tm df u h) (seqQ (execH cx cf R n (.loop a))) = bndQ (execG cx cf false n a tm df u h) (seqQ (execG cx cf false n (.loop a)))
      rw [ih' a (fun p hp => HR p (by simpa [regs] using hp)), ih' (.loop a) (fun p hp => HR p (by simpa [regs] using hp))]
    | scope a =>
      show execH cx cf R n a tm df u h = execG cx cf false n a tm df u h
      rw [ih' a (fun p hp => HR p (by simpa [regs] using hp))]
    | _ => rfl

/-! ### Tables of statements -/
noncomputable def compT (cx : Cx) (sup : List Nat) : List Reg → FT
  | [] => []
  | p :: l => match memN p.1 sup with
    | true => (p.1, comp cx p) :: compT cx sup l
    | false => compT cx sup l
noncomputable def hasId (n : Nat) : List Reg → Bool
  | [] => false
  | p :: l => match Nat.beq p.1 n with
    | true => true
    | false => hasId n l
noncomputable def ndB : List Reg → Bool
  | [] => true
  | p :: l => match hasId p.1 l with
    | true => false
    | false => ndB l

theorem hasId_mem {n : Nat} : ∀ {l : List Reg}, hasId n l = false → ∀ p ∈ l, p.1 ≠ n
  | [], _, p, hp => by cases hp
  | q :: l, h, p, hp => by
    simp only [hasId] at h
    cases hb : Nat.beq q.1 n with
    | true => rw [hb] at h; cases h
    | false =>
      rw [hb] at h
      rcases List.mem_cons.1 hp with rfl | hp
      · intro e
        rw [e, Nat.beq_refl] at hb; cases hb
      · exact hasId_mem h p hp

theorem compT_none {cx : Cx} {sup : List Nat} {n : Nat} : ∀ {l : List Reg}, (∀ p ∈ l, p.1 ≠ n) → lkF n (compT cx sup l) = none
  | [], _ => rfl
  | q :: l, h => by
    have ih := compT_none (cx := cx) (sup := sup) (n := n) (l := l) (fun p hp => h p (by simp [hp]))
    simp only [compT]
    cases memN q.1 sup with
    | false => exact ih
    | true =>
      dsimp only
      rw [lkF_cons, if_neg (h q (by simp))]
      exact ih

theorem compT_ok {cx : Cx} {sup : List Nat} : ∀ {l : List Reg}, ndB l = true → ∀ p ∈ l, ∀ fast, lkF p.1 (compT cx sup l) = some fast → fast = comp cx p
  | [], _, p, hp, _, _ => by cases hp
  | q :: l, h, p, hp, fast, hl => by
    simp only [ndB] at h
    cases hi : hasId q.1 l with
    | true => rw [hi] at h; cases h
    | false =>
      rw [hi] at h
      have hm := hasId_mem hi
      simp only [compT] at hl
      rcases List.mem_cons.1 hp with rfl | hp
      · cases hs : memN p.1 sup with
        | false =>
          rw [hs] at hl
          dsimp only at hl
          rw [compT_none hm] at hl
          cases hl
        | true =>
          rw [hs] at hl
          dsimp only at hl
          rw [lkF_cons, if_pos rfl] at hl
          cases hl; rfl
      · cases hs : memN q.1 sup with
        | false => rw [hs] at hl; exact compT_ok h p hp fast hl
        | true =>
          rw [hs] at hl
          dsimp only at hl
          rw [lkF_cons, if_neg (fun e => hm p hp e.symm)] at hl
          exact compT_ok h p hp fast hl

/-- A function's table is right. -/
def JOk (cx : Cx) (f : Nat) (R : FT) : Prop := ∃ sup x, cx.fn f = some x ∧ R = compT cx sup (regs x.2) ∧ ndB (regs x.2) = true

noncomputable def callH2 (cx : Cx) (cf : CallFn) (R : FT) (n : Nat) (args : List Value) (h : Heap) (x : Func × Code) : Option (Fin × Heap) :=
  @Option.rec (Ex × St) (fun _ => Option (Fin × Heap)) none (fun p => @Prod.rec Ex St (fun _ => Option (Fin × Heap)) (finG cx cf n x.1) p) (execH cx cf R n x.2 (argsG args 0 .nil) [] .run h)
noncomputable def tabH (jt : Tr FT) (f : Nat) : FT := @Option.rec FT (fun _ => FT) [] (fun R => R) (jt.get f)
noncomputable def callH1 (cx : Cx) (jt : Tr FT) (cf : CallFn) (n f : Nat) (args : List Value) (h : Heap) : Option (Fin × Heap) :=
  @Option.rec _ (fun _ => Option (Fin × Heap)) (@Option.rec _ (fun _ => Option (Fin × Heap)) none (callH2 cx cf (tabH jt f) n args h) (cx.fn f)) (fun g => g args h) (cx.ext f)
noncomputable def callH (cx : Cx) (jt : Tr FT) : Nat → CallFn :=
  @Nat.rec (fun _ => CallFn) (fun _ _ _ => none) (fun n ih => callH1 cx jt ih n)

theorem callH_eq {cx : Cx} {jt : Tr FT} (HJ : ∀ f R, jt.get f = some R → JOk cx f R) : ∀ (n f : Nat) (args : List Value) (h : Heap), callH cx jt n f args h = callG cx n f args h := by
  intro n
  induction n with
  | zero => intro f args h; rfl
  | succ n ih =>
    intro f args h
    show callH1 cx jt (callH cx jt n) n f args h = callG1 cx (callG cx n) n f args h
    have ih' : callH cx jt n = callG cx n := by funext f args h; exact ih f args h
    rw [ih']
    unfold callH1 callG1
    cases cx.ext f with
    | some g => rfl
    | none =>
      cases hx : cx.fn f with
      | none => rfl
      | some x =>
        show callH2 cx (callG cx n) (tabH jt f) n args h x = callG2 cx (callG cx n) n args h x
        unfold callH2 callG2
        rw [execH_eq, execG_eq]
        intro p hp fast hl
        unfold tabH at hl
        cases hj : jt.get f with
        | none => rw [hj] at hl; cases hl
        | some R =>
          rw [hj] at hl
          obtain ⟨sup, x', hx', hR, hn⟩ := HJ f R hj
          rw [hx] at hx'
          cases hx'
          have hl' : lkF p.1 R = some fast := hl
          rw [hR] at hl'
          exact compT_ok hn p hp fast hl'

end Go.Em
