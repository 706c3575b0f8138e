/-
  Reading and writing memory: the evaluator's steps and the model's.
-/
import Derived.Test.YtbfhilhkmicelaaGreatEm2
namespace Go.Em

theorem Heap.get_put (h : Heap) (n : Nat) (o : Option Obj) (k : Nat) : (h.put n o).get k = if k = n then o else h.get k := Tr.get_set _ _ _ _
theorem Heap.get_putAt (h : Heap) (n a l : Nat) (o : Obj) (k : Nat) : (h.putAt n a l o).get k = if k = n then some o else h.get k := Tr.get_set _ _ _ _
theorem Heap.get_add (h : Heap) (o : Obj) (k : Nat) : (h.add o).get k = if k = h.nx then some o else h.get k := Tr.get_set _ _ _ _

theorem addr_add (b o n : Nat) : (⟨b, o, none⟩ : Addr).add n = ⟨b, o + n, none⟩ := by
  unfold Addr.add
  split
  · rename_i h; subst h; rfl
  · rfl

theorem ObjR.congr {m : Pm} {p : Pl} {w w' : World} {o : Obj} (hw : w'.heap[p.blk]? = w.heap[p.blk]?) (h : ObjR m p w o) : ObjR m p w' o := by
  cases o <;> simp only [ObjR, hw] at h ⊢ <;> exact h

theorem ObjR.mono {m m' : Pm} (hm : m.Le m') {p : Pl} {w : World} {o : Obj} (h : ObjR m p w o) : ObjR m' p w o := by
  cases o with
  | row size base tr elem esz ro =>
    obtain ⟨c, e, fz, h1, h2, h3, h4, h5, h6⟩ := h
    exact ⟨c, e, fz, h1, h2, h3, h4, h5, fun i hi => let ⟨v, e, hv⟩ := h6 i hi; ⟨v, e, hv.mono hm⟩⟩
  | map es clock => obtain ⟨es', h1, h2⟩ := h; exact ⟨es', h1, h2.mono hm⟩
  | chan cap buf => obtain ⟨b', s, r, h1, h2⟩ := h; exact ⟨b', s, r, h1, h2.mono hm⟩

theorem ObjR.lt {m : Pm} {p : Pl} {w : World} {o : Obj} (h : ObjR m p w o) : p.blk < w.heap.size := by
  have key : ∀ x, w.heap[p.blk]? = some x → p.blk < w.heap.size := fun x hx => by
    rcases Nat.lt_or_ge p.blk w.heap.size with h | h
    · exact h
    · simp [Array.getElem?_eq_none h] at hx
  cases o with
  | row => obtain ⟨c, e, fz, h1, _⟩ := h; exact key _ h1
  | map => obtain ⟨_, h1, _⟩ := h; exact key _ h1
  | chan => obtain ⟨_, _, _, h1, _⟩ := h; exact key _ h1

theorem Sim.lt {m : Pm} {h : Heap} {w : World} (S : Sim m h w) {i : Nat} {p : Pl} (hi : m i = some p) : i < h.nx := by
  rcases Nat.lt_or_ge i h.nx with l | l
  · exact l
  · rw [S.fresh i l] at hi; cases hi

theorem Sim.get_lt {m : Pm} {h : Heap} {w : World} (S : Sim m h w) {i : Nat} {o : Obj} (hi : h.get i = some o) : i < h.nx := by
  obtain ⟨p, hp, _⟩ := S.live i o hi
  exact S.lt hp

theorem Own.lt {m : Pm} {h : Heap} {w : World} (S : Sim m h w) {b : Nat} (ho : Own m h b) : b < w.heap.size := by
  obtain ⟨i, o, p, h1, h3, rfl⟩ := ho
  obtain ⟨p', e, hr⟩ := S.live i o h1
  rw [h3] at e; cases e
  exact hr.lt

/-- Only what is listed of the evaluator's memory matters. -/
theorem Sim.congr {m : Pm} {h h' : Heap} {w : World} (S : Sim m h w) (hg : ∀ i, h'.get i = h.get i) (hn : h'.nx = h.nx) : Sim m h' w where
  fresh := fun i hi => S.fresh i (hn ▸ hi)
  live := fun i o hi => S.live i o (hg i ▸ hi)
  inj := fun i j oi oj pi pj hi hj => S.inj i j oi oj pi pj (hg i ▸ hi) (hg j ▸ hj)

/-- A part of the evaluator's memory. -/
theorem Sim.sub {m : Pm} {h h' : Heap} {w : World} (S : Sim m h w) (hg : ∀ i o, h'.get i = some o → h.get i = some o) (hn : h.nx ≤ h'.nx) : Sim m h' w where
  fresh := fun i hi => S.fresh i (Nat.le_trans hn hi)
  live := fun i o hi => S.live i o (hg i o hi)
  inj := fun i j oi oj pi pj hi hj => S.inj i j oi oj pi pj (hg i _ hi) (hg j _ hj)

/-- Blocks that the model made besides, and draws, do not matter. -/
theorem Sim.world {m : Pm} {h : Heap} {w w' : World} (S : Sim m h w) (hw : ∀ b, b < w.heap.size → w'.heap[b]? = w.heap[b]?) : Sim m h w' where
  fresh := S.fresh
  live := fun i o hi => let ⟨p, hp, hr⟩ := S.live i o hi; ⟨p, hp, hr.congr (hw _ hr.lt)⟩
  inj := S.inj

theorem Stp.of_draw {m : Pm} {h : Heap} {w : World} : Stp m h w m h w.drew :=
  ⟨.refl m, fun _ _ _ h => h, Nat.le_refl _, Nat.le_refl _, fun _ _ h => h, fun _ _ _ => rfl, rfl, rfl, rfl⟩

theorem Sim.drew {m : Pm} {h : Heap} {w : World} (S : Sim m h w) : Sim m h w.drew := S.world fun _ _ => rfl

/-- One block is turned. -/
theorem Sim.turn {m : Pm} {h h' : Heap} {w w' : World} (S : Sim m h w) {b : Nat} {o o' : Obj} {p : Pl} (hb : h.get b = some o) (_ : roO o = false) (_ : roO o' = false)
    (hp : m b = some p) (hg : ∀ k, h'.get k = if k = b then some o' else h.get k) (hn : h'.nx = h.nx) (ho : ObjR m p w' o')
    (hw : ∀ k, k ≠ p.blk → w'.heap[k]? = w.heap[k]?) (hs : w'.heap.size = w.heap.size) (ht : w'.tape = w.tape) (hos : w'.os = w.os) (hout : w'.output = w.output) :
    Sim m h' w' ∧ Stp m h w m h' w' := by
  refine ⟨⟨fun i hi => S.fresh i (hn ▸ hi), fun i oi hi => ?_, fun i j oi oj pi pj hi hj mi mj hne => ?_⟩, ?_⟩
  · rw [hg] at hi
    split at hi
    · rename_i e; subst e; cases hi; exact ⟨p, hp, ho⟩
    · rename_i e
      obtain ⟨q, hq, hr⟩ := S.live i oi hi
      exact ⟨q, hq, hr.congr (hw _ (fun hh => S.inj b i o oi p q hb hi hp hq (fun e' => e e'.symm) hh.symm))⟩
  · rw [hg] at hi hj
    split at hi <;> split at hj
    · rename_i e1 e2; exact absurd (e1.trans e2.symm) hne
    · rename_i e1 e2; subst e1; exact S.inj i j o oj pi pj hb hj mi mj hne
    · rename_i e1 e2; subst e2; exact S.inj i j oi o pi pj hi hb mi mj hne
    · exact S.inj i j oi oj pi pj hi hj mi mj hne
  · refine ⟨.refl m, fun _ _ _ h => h, Nat.le_of_eq hn.symm, Nat.le_of_eq hs.symm, fun k _ ⟨i, oi, q, h1, h3, h4⟩ => ?_, fun k _ hk => hw k (fun e => hk ⟨b, o, p, hb, hp, e.symm⟩), ht, hos, hout⟩
    rw [hg] at h1
    split at h1
    · rename_i e; subst e; exact ⟨i, o, q, hb, h3, h4⟩
    · exact ⟨i, oi, q, h1, h3, h4⟩

def Pm.put (m : Pm) (n : Nat) (p : Pl) : Pm := fun i => if i = n then some p else m i

theorem Pm.le_put {m : Pm} {n : Nat} {p : Pl} (h : m n = none) : m.Le (m.put n p) := fun i q e => by
  unfold Pm.put
  split
  · rename_i hi; subst hi; rw [h] at e; cases e
  · exact e

/-- A new block. -/
theorem Sim.new {m : Pm} {h : Heap} {w : World} (S : Sim m h w) {o : Obj} {x : Go.Obj} {p : Pl} (hp : p.blk = w.heap.size) (ho : ObjR (m.put h.nx p) p (w.alloc x) o) :
    Sim (m.put h.nx p) (h.add o) (w.alloc x) ∧ Stp m h w (m.put h.nx p) (h.add o) (w.alloc x) := by
  have hle : m.Le (m.put h.nx p) := Pm.le_put (S.fresh _ (Nat.le_refl _))
  have hold : ∀ b, b < w.heap.size → (w.alloc x).heap[b]? = w.heap[b]? := fun b hb => by
    show (w.heap.push x)[b]? = _
    rw [Array.getElem?_push, if_neg (by omega)]
  have hput : ∀ i q, (m.put h.nx p) i = some q → i ≠ h.nx → m i = some q := fun i q e hi => by
    unfold Pm.put at e; rwa [if_neg hi] at e
  have hnx : (m.put h.nx p) h.nx = some p := by simp [Pm.put]
  refine ⟨⟨fun i hi => ?_, fun i oi hi => ?_, fun i j oi oj pi pj hi hj mi mj hne => ?_⟩, ?_⟩
  · have : h.nx + 1 ≤ i := hi
    unfold Pm.put
    rw [if_neg (by omega)]
    exact S.fresh i (by omega)
  · rw [Heap.get_add] at hi
    split at hi
    · rename_i e; subst e; cases hi; exact ⟨p, hnx, ho⟩
    · obtain ⟨q, hq, hr⟩ := S.live i oi hi
      exact ⟨q, hle _ _ hq, (hr.congr (hold _ hr.lt)).mono hle⟩
  · rw [Heap.get_add] at hi hj
    split at hi <;> split at hj
    · rename_i e1 e2; exact absurd (e1.trans e2.symm) hne
    · rename_i e1 e2
      subst e1; rw [hnx] at mi; cases mi
      obtain ⟨q, hq, hrr⟩ := S.live j oj hj
      rw [hput j _ mj e2] at hq; cases hq
      have := hrr.lt; omega
    · rename_i e1 e2
      subst e2; rw [hnx] at mj; cases mj
      obtain ⟨q, hq, hrr⟩ := S.live i oi hi
      rw [hput i _ mi e1] at hq; cases hq
      have := hrr.lt; omega
    · rename_i e1 e2
      exact S.inj i j oi oj pi pj hi hj (hput i _ mi e1) (hput j _ mj e2) hne
  · refine ⟨hle, fun i q hi e => hput i q e (by omega), Nat.le_succ _, by simp, fun b hb ⟨i, oi, q, h1, h3, h4⟩ => ?_, fun b hb _ => hold b hb, rfl, rfl, rfl⟩
    rw [Heap.get_add] at h1
    split at h1
    · rename_i e; subst e; rw [hnx] at h3; cases h3; omega
    · rename_i e; exact ⟨i, oi, q, h1, hput i _ h3 e, h4⟩

/-- A block that is given up, and what grows out of it in its place, or a new one in its stead, is told in Em5. -/
theorem row_cell {m : Pm} {p : Pl} {w : World} {size : Nat} {base : Nat → Value} {tr : Tr Value} {elem esz : Nat} {ro : Bool} (h : ObjR m p w (.row size base tr elem esz ro))
    {i : Nat} (hi : i < size) : ∃ v', w.cell? ⟨p.blk, p.base + i, none⟩ = some v' ∧ V m (rowAt base tr i) v' := by
  obtain ⟨c, e, fz, h1, _, _, _, _, h6⟩ := h
  obtain ⟨v', hv, hV⟩ := h6 i hi
  exact ⟨v', by simp [World.cell?, h1, hv], hV⟩

theorem loadCellsFrom_run {P : Program} {m : Pm} {p : Pl} {w : World} {size : Nat} {base : Nat → Value} {tr : Tr Value} {elem esz : Nat} {ro : Bool} (h : ObjR m p w (.row size base tr elem esz ro)) (o : Nat) :
    ∀ (n i : Nat) (acc : Array Value), o + i + n ≤ size → ∃ l' : Array Value, (loadCellsFrom ⟨p.blk, p.base + o, none⟩ i n acc).run P w = .ok (acc ++ l') w ∧ Vs m (cellsFrom base tr (o + i) n) l'.toList := by
  intro n
  induction n with
  | zero => intro i acc _; exact ⟨#[], by simp [loadCellsFrom], .nil⟩
  | succ n ih =>
    intro i acc hi
    obtain ⟨v', hc, hV⟩ := row_cell h (i := o + i) (by omega)
    obtain ⟨l', hr, hl⟩ := ih (i + 1) (acc.push v') (by omega)
    refine ⟨#[v'] ++ l', ?_, ?_⟩
    · simp only [loadCellsFrom, Sem.run_bind, addr_add, run_load]
      rw [show p.base + o + i = p.base + (o + i) from by omega, hc]
      simp only [Result.andThen_ok]
      rw [hr, Array.push_eq_append, Array.append_assoc]
    · simp only [cellsFrom, Array.toList_append]
      exact .cons hV hl

/-- n cells are read. -/
theorem loadN_run {P : Program} {m : Pm} {h : Heap} {w : World} (S : Sim m h w) {a : Addr} {n : Nat} {l : List Value} (hl : loadN h a n = some l) :
    ∃ p, m a.block = some p ∧ a.spot = none ∧ ∃ l' : Array Value, (loadCells ⟨p.blk, p.base + a.off, none⟩ n).run P w = .ok l' w ∧ Vs m l l'.toList := by
  unfold loadN at hl
  split at hl
  · cases hl
  · rename_i hs
    split at hl
    · rename_i size base tr elem esz ro hg
      split at hl
      · rename_i hle
        cases hl
        obtain ⟨p, hp, hr⟩ := S.live _ _ hg
        obtain ⟨l', h1, h2⟩ := loadCellsFrom_run (P := P) hr a.off n 0 #[] (by simpa using Nat.le_of_ble_eq_true hle)
        exact ⟨p, hp, hs, l', by simpa [loadCells] using h1, by simpa using h2⟩
      · cases hl
    · cases hl

theorem cellsFrom_length (base : Nat → Value) (tr : Tr Value) : ∀ (n i : Nat), (cellsFrom base tr i n).length = n
  | 0, _ => rfl
  | n + 1, i => by simp [cellsFrom, cellsFrom_length base tr n]

theorem loadN_length {h : Heap} {a : Addr} {n : Nat} {l : List Value} (hl : loadN h a n = some l) : l.length = n := by
  unfold loadN at hl
  (repeat' split at hl) <;> cases hl
  exact cellsFrom_length _ _ _ _

theorem setCell_heap {w : World} {b o : Nat} {v : Value} {c : Array Value} {e : Nat} {fz : Nat × Nat} (h : w.heap[b]? = some (.cells c e fz)) (k : Nat) :
    (w.setCell ⟨b, o, none⟩ v).heap[k]? = if k = b then some (.cells (c.setIfInBounds o v) e fz) else w.heap[k]? := by
  simp only [World.setCell, Array.getElem?_modify]
  by_cases hk : k = b
  · subst hk; simp [h]
  · simp [hk, Ne.symm hk]

theorem isCell_oneCell (v : Value) : v.oneCell' = isCell v := by cases v <;> rfl

/-- Cells are written one behind the other. -/
theorem storeCells_run {P : Program} : ∀ (vs : List Value) (i : Nat) (w : World) (b o : Nat) (c : Array Value) (e : Nat), w.heap[b]? = some (.cells c e (0, 0)) →
    allCells vs = true → o + i + vs.length ≤ c.size →
    ∃ w', (storeCells ⟨b, o, none⟩ vs i).run P w = .ok () w' ∧ (∃ c' : Array Value, w'.heap[b]? = some (.cells c' e (0, 0)) ∧ c'.size = c.size ∧
        ∀ k, c'[k]? = if o + i ≤ k ∧ k < o + i + vs.length then vs[k - (o + i)]? else c[k]?) ∧
      (∀ k, k ≠ b → w'.heap[k]? = w.heap[k]?) ∧ w'.heap.size = w.heap.size ∧ w'.tape = w.tape ∧ w'.os = w.os ∧ w'.output = w.output := by
  intro vs
  induction vs with
  | nil => exact fun i w b o c e h _ _ => ⟨w, rfl, ⟨c, h, rfl, fun k => by rw [if_neg]; simp⟩, fun _ _ => rfl, rfl, rfl, rfl, rfl⟩
  | cons v vs ih =>
    intro i w b o c e h hc hs
    simp only [List.length_cons] at hs
    have hv : isCell v = true := by
      simp only [allCells] at hc; split at hc
      · assumption
      · cases hc
    have hvs : allCells vs = true := by
      simp only [allCells, hv] at hc; exact hc
    have hlt : o + i < c.size := by omega
    have hcell : w.cell? ⟨b, o + i, none⟩ = some c[o + i] := by
      simp [World.cell?, h]
    have hfz : w.frozen? ⟨b, o + i, none⟩ = false := by simp [World.frozen?, h]
    have h1 := setCell_heap (v := v) (o := o + i) h b
    rw [if_pos rfl] at h1
    obtain ⟨w', hr, ⟨c', hc', hsz, hk⟩, hoth, hsize, ht, ho, hout⟩ := ih (i + 1) (w.setCell ⟨b, o + i, none⟩ v) b o (c.setIfInBounds (o + i) v) e h1 hvs (by simp; omega)
    refine ⟨w', ?_, ⟨c', hc', by simpa using hsz, fun k => ?_⟩, fun k hkb => ?_, by simpa using hsize, ht.trans rfl, ho.trans rfl, hout.trans rfl⟩
    · simp only [storeCells, Sem.run_bind, addr_add, run_store P w _ v _ (isCell_oneCell v ▸ hv), hcell, hfz]
      simpa using hr
    · rw [hk k]
      by_cases h0 : k = o + i
      · subst h0
        rw [if_neg (by omega), if_pos (by simp only [List.length_cons]; omega)]
        simp [hlt]
      · by_cases h2 : o + (i + 1) ≤ k ∧ k < o + (i + 1) + vs.length
        · rw [if_pos h2, if_pos (by simp only [List.length_cons]; omega), show k - (o + i) = (k - (o + (i + 1))) + 1 from by omega]
          simp
        · rw [if_neg h2, if_neg (by simp only [List.length_cons]; omega)]
          simp [Ne.symm h0]
    · rw [hoth k hkb, setCell_heap h, if_neg hkb]

theorem rowAt_setCells (base : Nat → Value) : ∀ (vs : List Value) (tr : Tr Value) (o k : Nat),
    rowAt base (setCells tr o vs) k = if o ≤ k ∧ k < o + vs.length then vs.getD (k - o) undef else rowAt base tr k := by
  intro vs
  induction vs with
  | nil => intro tr o k; rw [if_neg (by simp)]; rfl
  | cons v vs ih =>
    intro tr o k
    simp only [setCells, ih, List.length_cons]
    by_cases h0 : k = o
    · subst h0
      rw [if_neg (by omega), if_pos (by omega)]
      simp [rowAt, Tr.get_set]
    · by_cases h2 : o + 1 ≤ k ∧ k < o + 1 + vs.length
      · rw [if_pos h2, if_pos (by omega), show k - o = (k - (o + 1)) + 1 from by omega]
        simp
      · rw [if_neg h2, if_neg (by omega)]
        simp [rowAt, Tr.get_set, h0]

theorem Vs.allCells {m : Pm} {l l' : List Value} (h : Vs m l l') : Em.allCells l' = Em.allCells l := by
  induction h with
  | nil => rfl
  | cons h _ ih => simp [Em.allCells, h.isCell, ih]

/-- Cells of a row are written: what the row reads behind it. -/
theorem row_write {P : Program} {m : Pm} {p : Pl} {w : World} {size : Nat} {base : Nat → Value} {tr : Tr Value} {elem esz : Nat} (h : ObjR m p w (.row size base tr elem esz false))
    {vs vs' : List Value} (hv : Vs m vs vs') (hc : allCells vs = true) (o : Nat) (ho : o + vs.length ≤ size) :
    ∃ w', (storeCells ⟨p.blk, p.base + o, none⟩ vs').run P w = .ok () w' ∧ ObjR m p w' (.row size base (setCells tr o vs) elem esz false) ∧
      (∀ k, k ≠ p.blk → w'.heap[k]? = w.heap[k]?) ∧ w'.heap.size = w.heap.size ∧ w'.tape = w.tape ∧ w'.os = w.os ∧ w'.output = w.output := by
  obtain ⟨c, e, fz, h1, h2, h3, h4, h5, h6⟩ := h
  obtain rfl := h2 rfl
  have hlen := hv.length
  obtain ⟨w', hr, ⟨c', hc', hsz, hk⟩, hoth, hsize, ht, hos, hout⟩ := storeCells_run (P := P) vs' 0 w p.blk (p.base + o) c e h1 (hv.allCells ▸ hc) (by omega)
  refine ⟨w', hr, ⟨c', e, (0, 0), hc', fun _ => rfl, h3, h4, by omega, fun i hi => ?_⟩, hoth, hsize, ht, hos, hout⟩
  rw [hk, rowAt_setCells]
  by_cases hin : o ≤ i ∧ i < o + vs.length
  · rw [if_pos hin, if_pos (by omega)]
    have hg := hv.getD (i - o) (by omega)
    refine ⟨vs'.getD (i - o) undef, ?_, hg⟩
    rw [show p.base + i - (p.base + o + 0) = i - o from by omega]
    have : i - o < vs'.length := by omega
    simp [this]
  · rw [if_neg hin, if_neg (by omega)]
    exact h6 i hi

/-- A value is written. -/
theorem storeN_run {P : Program} {m : Pm} {h h' : Heap} {w : World} (S : Sim m h w) {a : Addr} {vs vs' : List Value} (hv : Vs m vs vs') (hs : storeN h a vs = some h') :
    ∃ p, m a.block = some p ∧ a.spot = none ∧ ∃ w', (storeCells ⟨p.blk, p.base + a.off, none⟩ vs').run P w = .ok () w' ∧ Sim m h' w' ∧ Stp m h w m h' w' := by
  unfold storeN at hs
  split at hs
  · cases hs
  · rename_i hsp
    split at hs
    · rename_i size base tr elem esz hg
      split at hs
      · rename_i hle hall
        cases hs
        obtain ⟨p, hp, hr⟩ := S.live _ _ hg
        obtain ⟨w', hrun, ho, hoth, hsize, ht, hos, hout⟩ := row_write (P := P) hr hv hall a.off (Nat.le_of_ble_eq_true hle)
        obtain ⟨h1, h2⟩ := S.turn hg rfl rfl hp (Heap.get_putAt _ _ _ _ _) rfl ho hoth hsize ht hos hout
        exact ⟨p, hp, hsp, w', hrun, h1, h2⟩
      · cases hs
    · cases hs

end Go.Em
