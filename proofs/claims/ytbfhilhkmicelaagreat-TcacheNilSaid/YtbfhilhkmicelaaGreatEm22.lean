/-
  Slots, parts and blocks: what an operation's outcome hangs on.
-/
import Derived.Test.YtbfhilhkmicelaaGreatEm21
namespace Go.Em

theorem AgreeO.symm {t : Part} {a b : Option Obj} (h : AgreeO t a b) : AgreeO t b a := by
  rcases h with rfl | ⟨s, b1, t1, b2, t2, e, z, r, ha, hb, hi⟩
  · exact .inl rfl
  · exact .inr ⟨_, _, _, _, _, _, _, _, hb, ha, fun i h1 h2 => (hi i h1 h2).symm⟩

theorem memN_iff (n : Nat) : ∀ (l : List Nat), memN n l = true ↔ n ∈ l
  | [] => by simp [memN]
  | x :: l => by
    simp only [memN]
    split
    · rename_i h
      have := Nat.eq_of_beq_eq_true h
      subst this; simp
    · rename_i h
      rw [memN_iff n l]
      have : n ≠ x := fun e => by rw [e, Nat.beq_refl] at h; cases h
      simp [this]

theorem mem_opTmps : ∀ (l : List Operand) (t : Nat), Operand.tmp t ∈ l → t ∈ opTmps l
  | [], t, h => by cases h
  | x :: l, t, h => by
    rcases List.mem_cons.1 h with rfl | h
    · simp [opTmps]
    · have := mem_opTmps l t h
      cases x <;> simp [opTmps, this]

/-- The slots of a list, and no others. -/
noncomputable def rst : List Nat → Tr Value → Tr Value
  | [], _ => .nil
  | t :: l, tm => (rst l tm).set t (tm.get t)

theorem rst_get (tm : Tr Value) : ∀ (l : List Nat) (t : Nat), (rst l tm).get t = if t ∈ l then tm.get t else none
  | [], t => by simp [rst, Tr.get_nil]
  | x :: l, t => by
    simp only [rst, Tr.get_set, rst_get tm l]
    by_cases h : t = x
    · subst h; simp
    · simp [h]

section
variable {cx : Cx} {cf : CallFn} {tm tm' : Tr Value}

theorem ev_congr {x : Operand} (h : ∀ t, x = .tmp t → tm.get t = tm'.get t) : ev tm x = ev tm' x := by
  cases x <;> first | rfl | exact h _ rfl

theorem evs_congr : ∀ {l : List Operand}, (∀ x ∈ l, ev tm x = ev tm' x) → evs tm l = evs tm' l
  | [], _ => rfl
  | x :: l, h => by
    simp only [evs, h x (by simp), evs_congr (l := l) fun y hy => h y (by simp [hy])]

theorem evParts_congr : ∀ {l : List (Nat × Operand)}, (∀ x ∈ l, ev tm x.2 = ev tm' x.2) → evParts tm l = evParts tm' l
  | [], _ => rfl
  | (i, x) :: l, h => by
    simp only [evParts, h (i, x) (by simp), evParts_congr (l := l) fun y hy => h y (by simp [hy])]

theorem evO_congr {x : Option Operand} (h : ∀ y, x = some y → ev tm y = ev tm' y) : evO tm x = evO tm' x := by
  cases x with
  | none => rfl
  | some x => simp only [evO, h x rfl]

theorem makeE_congr {h : Heap} {op : Op} (hx : ∀ x ∈ op.operands, ev tm x = ev tm' x) : makeE cx tm h op = makeE cx tm' h op := by
  cases op <;> try rfl
  case box t x => simp only [makeE, hx x (by simp [Op.operands])]
  case buildSlice t n ps => simp only [makeE, evParts_congr (l := ps.toList) fun x hm => hx x.2 (by simp [Op.operands]; exact ⟨x.1, by simpa using hm⟩)]
  case makeMap t r =>
    cases r with
    | none => rfl
    | some r => simp only [makeE, hx r (by simp [Op.operands])]
  case makeChan t s => simp only [makeE, hx s (by simp [Op.operands])]
  case makeSlice t l c => simp only [makeE, hx l (by simp [Op.operands]), hx c (by simp [Op.operands])]

theorem opE_congr {h : Heap} {op : Op} (hx : ∀ x ∈ op.operands, ev tm x = ev tm' x) : opE cx cf tm h op = opE cx cf tm' h op := by
  have hmk := makeE_congr (cx := cx) (h := h) hx
  cases op <;> (try (simp only [opE, hmk]; done)) <;> simp only [opE]
  case move x => rw [hx x (by simp [Op.operands])]
  case assign x => rw [hx x (by simp [Op.operands])]
  case pick c a b => rw [hx c (by simp [Op.operands]), hx a (by simp [Op.operands]), hx b (by simp [Op.operands])]
  case build t ps => rw [evParts_congr (l := ps.toList) fun x hm => hx x.2 (by simp [Op.operands]; exact ⟨x.1, by simpa using hm⟩)]
  case load t x => rw [hx x (by simp [Op.operands])]
  case store t x y => rw [hx x (by simp [Op.operands]), hx y (by simp [Op.operands])]
  case nilCheck x => rw [hx x (by simp [Op.operands])]
  case binOp op t x y yt => rw [hx x (by simp [Op.operands]), hx y (by simp [Op.operands])]
  case unOp op t x => rw [hx x (by simp [Op.operands])]
  case convert s d x => rw [hx x (by simp [Op.operands])]
  case makeInterface t x => rw [hx x (by simp [Op.operands])]
  case makeFunc fn a b => rw [evs_congr (l := a.toList) fun x hm => hx x (by simp [Op.operands]; exact .inl (by simpa using hm)), evs_congr (l := b.toList) fun x hm => hx x (by simp [Op.operands]; exact .inr (by simpa using hm))]
  case insert t a b c => rw [hx a (by simp [Op.operands]), hx b (by simp [Op.operands]), hx c (by simp [Op.operands])]
  case mapUpdate t a b c => rw [hx a (by simp [Op.operands]), hx b (by simp [Op.operands]), hx c (by simp [Op.operands])]
  case slice t x lo hi mx =>
    rw [hx x (by simp [Op.operands]), evO_congr (x := lo) fun y hy => hx y (by subst hy; simp [Op.operands]), evO_congr (x := hi) fun y hy => hx y (by subst hy; simp [Op.operands]), evO_congr (x := mx) fun y hy => hx y (by subst hy; simp [Op.operands])]
  case fieldAddr t x f => rw [hx x (by simp [Op.operands])]
  case field t x f => rw [hx x (by simp [Op.operands])]
  case indexAddr t x i => rw [hx x (by simp [Op.operands]), hx i (by simp [Op.operands])]
  case index t x i => rw [hx x (by simp [Op.operands]), hx i (by simp [Op.operands])]
  case lookup t x i ok => rw [hx x (by simp [Op.operands]), hx i (by simp [Op.operands])]
  case typeAssert x xt w ok => rw [hx x (by simp [Op.operands])]
  case extract x i => rw [hx x (by simp [Op.operands])]
  case panic x => rw [hx x (by simp [Op.operands])]
  case call c =>
    rw [evs_congr (l := c.args.toList) fun x hm => hx x (by simp [Op.operands, Call.operands]; exact .inr (by simpa using hm))]
    cases hc : c.callee with
    | value f => simp only [hx f (by simp [Op.operands, Call.operands, hc])]
    | builtin b => rfl
    | invoke r n => rfl
  case defer c =>
    rw [evs_congr (l := c.args.toList) fun x hm => hx x (by simp [Op.operands, Call.operands]; exact .inr (by simpa using hm))]
    cases hc : c.callee with
    | value f => simp only [hx f (by simp [Op.operands, Call.operands, hc])]
    | builtin b => rfl
    | invoke r n => rfl

theorem wholeOf_congr {x : Operand} (h : ev tm x = ev tm' x) : wholeOf tm x = wholeOf tm' x := by simp only [wholeOf, h]

theorem targetE_congr {op : Op} (hx : ∀ x ∈ op.operands, ev tm x = ev tm' x) : targetE cx tm op = targetE cx tm' op := by
  cases op <;> try rfl
  case load t x => simp only [targetE, hx x (by simp [Op.operands])]
  case lookup t x i ok => simp only [targetE, wholeOf_congr (hx x (by simp [Op.operands]))]
  case slice t x lo hi mx => simp only [targetE, wholeOf_congr (hx x (by simp [Op.operands]))]
  case convert s d x => simp only [targetE, hx x (by simp [Op.operands])]
  case call c =>
    simp only [targetE]
    split
    · rename_i x hl
      rw [wholeOf_congr (hx x (by
        simp [Op.operands, Call.operands]
        right
        have : x ∈ c.args.toList := by rw [hl]; simp
        simpa using this))]
    · rfl

/-- What an operation looks at. -/
theorem reads_op {all : List Oper} {o : Oper} {x : Operand} (hx : x ∈ o.op.operands) {t : Nat} (ht : x = .tmp t) : t ∈ reads all o := by
  have h1 : t ∈ opTmps o.op.operands.toList := mem_opTmps _ _ (by subst ht; simpa using hx)
  unfold reads
  split
  · exact h1
  · split
    · split
      · exact List.mem_cons_of_mem _ h1
      · exact h1
    · exact h1

theorem wantE_congr {all : List Oper} {o : Oper} (h : ∀ t ∈ reads all o, tm.get t = tm'.get t) : wantE all tm o = wantE all tm' o := by
  unfold wantE
  split
  · rfl
  · rename_i j want hg
    split
    · rename_i g hj
      split
      · rename_i d hd
        rw [h d (by unfold reads; rw [hg]; simp only [hj, hd]; simp)]
      · rfl
    · rfl

theorem rst_ev {all : List Oper} {o : Oper} (x : Operand) (hx : x ∈ o.op.operands) : ev tm x = ev (rst (reads all o) tm) x :=
  ev_congr fun t ht => by rw [rst_get, if_pos (reads_op hx ht)]

/-- A kind hangs on what the operation looks at. -/
theorem KdI.rst {base i : Nat} {all : List Oper} {o : Oper} {mask : Nat} {dead : Option Nat} {h : Heap} {mks : List (Nat × Nat × Obj)} {kd : Kd} (H : KdI cx cf base i all o mask dead tm h mks kd) :
    KdI cx cf base i all o mask dead (rst (reads all o) tm) h mks kd := by
  have hw : wantE all (Em.rst (reads all o) tm) o = wantE all tm o := (wantE_congr fun t ht => by rw [rst_get, if_pos ht]).symm
  have ho : ∀ (cf : CallFn) (h : Heap), opE cx cf (Em.rst (reads all o) tm) h o.op = opE cx cf tm h o.op := fun cf h => (opE_congr fun x hx => rst_ev x hx).symm
  have hm : ∀ (h : Heap), makeE cx (Em.rst (reads all o) tm) h o.op = makeE cx tm h o.op := fun h => (makeE_congr fun x hx => rst_ev x hx).symm
  have ht : targetE cx (Em.rst (reads all o) tm) o.op = targetE cx tm o.op := (targetE_congr fun x hx => rst_ev x hx).symm
  cases H with
  | dead a b => exact .dead a b
  | no a b => exact .no a (hw ▸ b)
  | mak a b c d => exact .mak a (hw ▸ b) c (by rw [hm]; exact d)
  | eff a b c d => exact .eff a (hw ▸ b) c (by rw [ho]; exact d)
  | pan a b c d => exact .pan a (hw ▸ b) c (by rw [ho]; exact d)
  | pur a b c d e f => exact .pur a (hw ▸ b) c d e (by rw [ho]; exact f)
  | lod a b c d e f g k => exact .lod a (hw ▸ b) c d e (by rw [ht]; exact f) g (by rw [ho]; exact k)

end

theorem only_get (nx n : Nat) (o : Obj) (k : Nat) : (only nx n o).get k = if k = n then some o else none := by
  show (Tr.nil.set n (some o)).get k = _
  rw [Tr.get_set, Tr.get_nil]

theorem cellsFrom_congr {base base' : Nat → Value} {tr tr' : Tr Value} : ∀ (n i : Nat), (∀ k, i ≤ k → k < i + n → rowAt base tr k = rowAt base' tr' k) → cellsFrom base tr i n = cellsFrom base' tr' i n
  | 0, _, _ => rfl
  | n + 1, i, h => by
    simp only [cellsFrom]
    rw [h i (by omega) (by omega), cellsFrom_congr n (i + 1) fun k h1 h2 => h k (by omega) (by omega)]

theorem release_nx (mask : Nat) : ∀ (l : List (Nat × Nat × Obj)) (h : Heap), (release mask l h).nx = h.nx
  | [], h => rfl
  | (i, n, o) :: l, h => by
    simp only [release]
    split
    · exact release_nx mask l h
    · exact release_nx mask l h

theorem release_get (mask : Nat) : ∀ (l : List (Nat × Nat × Obj)) (h : Heap) (x : Nat), (∃ i b, (i, x, b) ∈ l ∧ mask.testBit i = true ∧ (release mask l h).get x = some b) ∨
    ((∀ i b, (i, x, b) ∈ l → mask.testBit i = false) ∧ (release mask l h).get x = h.get x)
  | [], h, x => .inr ⟨fun i b hb => (by cases hb), rfl⟩
  | (i, n, o) :: l, h, x => by
    simp only [release]
    cases hm : mask.testBit i with
    | true =>
      simp only
      rw [Heap.get_put]
      by_cases hx : x = n
      · subst hx
        rw [if_pos rfl]
        exact .inl ⟨i, o, by simp, hm, rfl⟩
      · rw [if_neg hx]
        rcases release_get mask l h x with ⟨i', b, h1, h2, h3⟩ | ⟨h1, h2⟩
        · exact .inl ⟨i', b, List.mem_cons_of_mem _ h1, h2, h3⟩
        · refine .inr ⟨fun i' b hb => ?_, h2⟩
          rcases List.mem_cons.1 hb with h | h
          · cases h; exact absurd rfl hx
          · exact h1 i' b h
    | false =>
      simp only
      rcases release_get mask l h x with ⟨i', b, h1, h2, h3⟩ | ⟨h1, h2⟩
      · exact .inl ⟨i', b, List.mem_cons_of_mem _ h1, h2, h3⟩
      · refine .inr ⟨fun i' b hb => ?_, h2⟩
        rcases List.mem_cons.1 hb with h | h
        · cases h; exact hm
        · exact h1 i' b h

theorem release_dt (mask : Nat) (t : Part) : ∀ (l : List (Nat × Nat × Obj)) (h : Heap), hits t (release mask l h).dt = false → (release mask l h).get t.n = h.get t.n ∧ hits t h.dt = false
  | [], h, hh => ⟨rfl, hh⟩
  | (i, n, o) :: l, h, hh => by
    simp only [release] at hh ⊢
    cases hm : mask.testBit i with
    | true =>
      rw [hm] at hh
      simp only at hh ⊢
      have e : hits t ([⟨n, 0, unk⟩] ++ (release mask l h).dt) = false := hh
      rw [hits_append, Bool.or_eq_false_iff] at e
      obtain ⟨h1, h2⟩ := release_dt mask t l h e.2
      rw [Heap.get_put, if_neg (hits_whole e.1)]
      exact ⟨h1, h2⟩
    | false =>
      rw [hm] at hh
      exact release_dt mask t l h hh

theorem giveAll_nx : ∀ (l : List (Nat × Nat × Obj)) (h : Heap), (giveAll l h).nx = h.nx
  | [], _ => rfl
  | (_, _, _) :: l, h => giveAll_nx l h

theorem giveAll_get : ∀ (l : List (Nat × Nat × Obj)) (h : Heap) (x : Nat), (∃ i b, (i, x, b) ∈ l ∧ (giveAll l h).get x = some b) ∨ ((∀ i b, (i, x, b) ∉ l) ∧ (giveAll l h).get x = h.get x)
  | [], h, x => .inr ⟨fun i b hb => (by cases hb), rfl⟩
  | (i, n, o) :: l, h, x => by
    simp only [giveAll, Heap.get_put]
    by_cases hx : x = n
    · subst hx
      rw [if_pos rfl]
      exact .inl ⟨i, o, by simp, rfl⟩
    · rw [if_neg hx]
      rcases giveAll_get l h x with ⟨i', b, h1, h3⟩ | ⟨h1, h2⟩
      · exact .inl ⟨i', b, List.mem_cons_of_mem _ h1, h3⟩
      · refine .inr ⟨fun i' b hb => ?_, h2⟩
        rcases List.mem_cons.1 hb with h | h
        · cases h; exact absurd rfl hx
        · exact h1 i' b h

/-- A step in a part of memory is a step in all of it. -/
theorem Sim.frame {m m' : Pm} {H hs h1 H' : Heap} {w w' : World} (S : Sim m H w) (hsub : ∀ i o, hs.get i = some o → H.get i = some o) (S' : Sim m' h1 w') (P : Stp m hs w m' h1 w')
    (hn : h1.nx ≤ H'.nx) (hn' : H.nx ≤ hs.nx) (hg : ∀ i o, H'.get i = some o → h1.get i = some o ∨ (hs.get i = none ∧ H.get i = some o)) : Sim m' H' w' ∧ Stp m H w m' H' w' := by
  have away : ∀ i o p, hs.get i = none → H.get i = some o → m i = some p → ¬ Own m hs p.blk := by
    intro i o p h1 h2 h3 ⟨j, oj, pj, a1, a2, a3⟩
    have hne : j ≠ i := fun e => by subst e; rw [h1] at a1; cases a1
    exact S.inj j i oj o pj p (hsub j oj a1) h2 a2 h3 hne a3
  refine ⟨⟨fun i hi => S'.fresh i (Nat.le_trans hn hi), fun i o hi => ?_, fun i j oi oj pi pj hi hj mi mj hne he => ?_⟩, ?_⟩
  · rcases hg i o hi with h | ⟨a, b⟩
    · exact S'.live i o h
    · obtain ⟨p, hp, hr⟩ := S.live i o b
      exact ⟨p, P.le _ _ hp, (hr.congr (P.keep _ hr.lt (away i o p a b hp))).mono P.le⟩
  · have mixed : ∀ {i j oi oj pi pj}, h1.get i = some oi → m' i = some pi → hs.get j = none → H.get j = some oj → m' j = some pj → pi.blk = pj.blk → False := by
      intro i j oi oj pi pj a1 a2 b1 b2 b3 e
      obtain ⟨p, hp, hr⟩ := S.live j oj b2
      have := P.le _ _ hp
      rw [b3] at this
      cases this
      exact away j oj pj b1 b2 hp (P.own pj.blk hr.lt ⟨i, oi, pi, a1, a2, e⟩)
    rcases hg i oi hi with a | ⟨a1, a2⟩ <;> rcases hg j oj hj with b | ⟨b1, b2⟩
    · exact S'.inj i j oi oj pi pj a b mi mj hne he
    · exact mixed a mi b1 b2 mj he
    · exact mixed b mj a1 a2 mi he.symm
    · obtain ⟨p, hp, _⟩ := S.live i oi a2
      obtain ⟨q, hq, _⟩ := S.live j oj b2
      have e1 := P.le _ _ hp
      have e2 := P.le _ _ hq
      rw [mi] at e1; cases e1
      rw [mj] at e2; cases e2
      exact S.inj i j oi oj _ _ a2 b2 hp hq hne he
  · refine ⟨P.le, fun i p hi e => P.ids i p (Nat.lt_of_lt_of_le hi hn') e, Nat.le_trans hn' (Nat.le_trans P.nx hn), P.size, fun b hb ⟨i, o, p, h2, h3, h4⟩ => ?_, fun b hb ho => ?_, P.tape, P.os, P.output⟩
    · rcases hg i o h2 with h | ⟨a1, a2⟩
      · obtain ⟨j, oj, pj, c1, c2, c3⟩ := P.own b hb ⟨i, o, p, h, h3, h4⟩
        exact ⟨j, oj, pj, hsub j oj c1, c2, c3⟩
      · obtain ⟨q, hq, _⟩ := S.live i o a2
        have := P.le _ _ hq
        rw [h3] at this; cases this
        exact ⟨i, o, p, a2, hq, h4⟩
    · exact P.keep b hb fun ⟨j, oj, pj, c1, c2, c3⟩ => ho ⟨j, oj, pj, hsub j oj c1, c2, c3⟩

end Go.Em
