/-
  append, copy; what is cut; new blocks.
-/
import Derived.Test.YtbfhilhkmicelaaGreatEm6
namespace Go.Em
section
variable {cx : Cx}

theorem lget_eq : ∀ (l : List Value) (i : Nat), lget l i = l.getD i undef
  | [], _ => by simp [lget]
  | v :: _, 0 => by simp [lget]
  | _ :: l, i + 1 => by simpa [lget] using lget_eq l i

theorem sameInt_eq {a b : Value} (h : sameInt a b = true) : b = a := by
  unfold sameInt at h
  split at h
  · split at h
    · rename_i hk _
      split at h
      · rename_i ha _; subst hk; subst ha; rfl
      · cases h
    · cases h
  · cases h

theorem allSame_get (v : Value) : ∀ (l : List Value), allSame v l = true → ∀ i, i < l.length → lget l i = v
  | [], _, i, h => by simp at h
  | x :: l, h, i, hi => by
    simp only [allSame] at h
    split at h
    · rename_i hx
      cases i with
      | zero => exact sameInt_eq hx
      | succ i => exact allSame_get v l h i (by simpa using hi)
    · cases h

theorem mkRow_spec (cs : List Value) (n elem esz : Nat) (hn : cs.length = n) : ∃ base, mkRow cs n elem esz = .row n base .nil elem esz false ∧ ∀ i, i < n → base i = lget cs i := by
  unfold mkRow
  split
  · exact ⟨_, rfl, fun _ _ => rfl⟩
  · split
    · exact ⟨_, rfl, fun _ _ => rfl⟩
    · rename_i v l
      split
      · rename_i hs
        exact ⟨_, rfl, fun i hi => (allSame_get v _ hs i (by omega)).symm⟩
      · exact ⟨_, rfl, fun _ _ => rfl⟩

theorem rowAt_nil (base : Nat → Value) (i : Nat) : rowAt base .nil i = base i := by simp [rowAt, Tr.get_nil]

/-- A new row of cells. -/
theorem new_row {m : Pm} {h : Heap} {w : World} (S : Sim m h w) {n elem esz e : Nat} {base : Nat → Value} {tr : Tr Value} {c : Array Value} (hn : n ≤ c.size) (hc : ∀ i, i < n → ∃ v', c[i]? = some v' ∧ V m (rowAt base tr i) v') :
    ∃ p, p.blk = w.heap.size ∧ p.base = 0 ∧ p.lim = c.size ∧ p.esz = (if esz = 0 then 1 else esz) ∧
      Sim (m.put h.nx p) (h.add (.row n base tr elem esz false)) (w.alloc (.cells c e (0, 0))) ∧ Stp m h w (m.put h.nx p) (h.add (.row n base tr elem esz false)) (w.alloc (.cells c e (0, 0))) := by
  refine ⟨⟨w.heap.size, 0, c.size, if esz = 0 then 1 else esz⟩, rfl, rfl, rfl, rfl, ?_⟩
  have hle := Pm.le_put (p := ⟨w.heap.size, 0, c.size, if esz = 0 then 1 else esz⟩) (S.fresh _ (Nat.le_refl _))
  refine S.new rfl ⟨c, e, (0, 0), ?_, fun _ => rfl, fun h0 => by simp [h0], hn, by simp, fun i hi => ?_⟩
  · show (w.heap.push _)[w.heap.size]? = _
    simp
  · obtain ⟨v', h1, h2⟩ := hc i hi
    exact ⟨v', by simpa using h1, h2.mono hle⟩

theorem Vs.lget {m : Pm} {l : List Value} {c : Array Value} (h : Vs m l c.toList) (i : Nat) (hi : i < l.length) : ∃ v', c[i]? = some v' ∧ V m (Em.lget l i) v' := by
  obtain ⟨v', h1, h2⟩ := h.get i l[i] (by simp [hi])
  rw [lget_eq]
  exact ⟨v', by simpa using h1, by simpa [hi] using h2⟩

theorem put_self {m : Pm} {n : Nat} {p : Pl} : (m.put n p) n = some p := by simp [Pm.put]

/-- A new row, made of a list. -/
theorem new_mkRow {m : Pm} {h : Heap} {w : World} (S : Sim m h w) {n elem esz e : Nat} {cs : List Value} {c : Array Value} (hn : cs.length = n) (hc : Vs m cs (c.toList.take n)) (hs : n ≤ c.size) :
    ∃ p, p.blk = w.heap.size ∧ p.base = 0 ∧ p.lim = c.size ∧ p.esz = (if esz = 0 then 1 else esz) ∧
      Sim (m.put h.nx p) (h.add (mkRow cs n elem esz)) (w.alloc (.cells c e (0, 0))) ∧ Stp m h w (m.put h.nx p) (h.add (mkRow cs n elem esz)) (w.alloc (.cells c e (0, 0))) := by
  obtain ⟨base, he, hb⟩ := mkRow_spec cs n elem esz hn
  rw [he]
  refine new_row S hs fun i hi => ?_
  rw [rowAt_nil, hb i hi]
  obtain ⟨v', h1, h2⟩ := hc.get i (cs[i]'(by omega)) (by simp)
  rw [lget_eq]
  refine ⟨v', ?_, by simpa [show i < cs.length by omega] using h2⟩
  rw [List.getElem?_take_of_lt hi] at h1
  simpa using h1

theorem lenE_run {P : Program} {m : Pm} {w : World} {x x' : Value} {n : Nat} (hx : V m x x') (h : lenE x = some n) : (Builtin.lenOf x').run P w = .ok n w := by
  unfold lenE at h
  split at h
  · cases h
    obtain ⟨b', c', rfl, _⟩ := slice_inv hx
    rfl
  · cases h
    obtain rfl := string_inv hx
    rfl
  · cases h

theorem slice_some {m : Pm} {a : Addr} {n c : Nat} {x' : Value} (hx : V m (.slice (some a) n c) x') : ∃ p, m a.block = some p ∧ a.spot = none ∧
    ((c ≠ unk ∧ x' = .slice (some ⟨p.blk, p.base + a.off, none⟩) n c) ∨ (c = unk ∧ 0 < p.esz ∧ x' = .slice (some ⟨p.blk, p.base + a.off, none⟩) n ((p.lim - a.off) / p.esz))) := by
  cases hx with
  | flat h => simp [flat] at h
  | sl hm hc => exact ⟨_, hm, rfl, .inl ⟨hc, rfl⟩⟩
  | slu hm hc => exact ⟨_, hm, rfl, .inr ⟨rfl, hc, rfl⟩⟩

theorem firstE_run {P : Program} {m : Pm} {h : Heap} {w : World} (S : Sim m h w) {size n : Nat} {x x' : Value} {l : List Value} (hx : V m x x') (hf : firstE h size n x = some l) :
    ∃ l' : Array Value, (Builtin.firstCells size n x').run P w = .ok l' w ∧ Vs m l l'.toList := by
  unfold firstE at hf
  split at hf
  · rename_i a _ _
    obtain ⟨p, hp, hsp, l', h1, h2⟩ := loadN_run (P := P) S hf
    obtain ⟨q, hq, _, h3⟩ := slice_some hx
    rw [hp] at hq; cases hq
    rcases h3 with ⟨_, rfl⟩ | ⟨_, _, rfl⟩ <;> exact ⟨l', h1, h2⟩
  · cases hf
    obtain rfl := flat_inv rfl hx
    exact ⟨#[], rfl, .nil⟩
  · cases hf
    obtain rfl := string_inv hx
    refine ⟨_, rfl, ?_⟩
    simp only [Array.toList_map]
    exact Vs.of_flat fun v hv => by
      obtain ⟨b, _, rfl⟩ := List.mem_map.1 hv
      rfl
  · cases hf

theorem nextslicecap_le {need cap : Nat} (h : cap < need) : Builtin.nextslicecap need cap ≤ 2 * need + 256 := by
  have key : ∀ (r c : Nat), c < need → Builtin.growBy need r c ≤ 2 * need + 256 := by
    intro r
    induction r with
    | zero => intro c hc; simp only [Builtin.growBy]; omega
    | succ r ih =>
      intro c hc
      simp only [Builtin.growBy]
      rw [if_neg (by omega)]
      by_cases hn : c + (c + 768) / 4 < need
      · exact ih _ hn
      · cases r with
        | zero => simp only [Builtin.growBy]; omega
        | succ r => simp only [Builtin.growBy]; rw [if_pos (by omega)]; omega
  unfold Builtin.nextslicecap
  split
  · omega
  · split
    · omega
    · exact key 4 cap h

/-- A row that is given up and grows in its place. -/
theorem Sim.regrow {m : Pm} {h : Heap} {w w' : World} (S : Sim m h w) {b : Nat} {o o' : Obj} {p q : Pl} (hb : h.get b = some o) (_ : roO o = false) (_ : roO o' = false) (hp : m b = some p) (hq : q.blk = p.blk)
    (ho : ObjR (m.put h.nx q) q w' o') (hw : ∀ k, k ≠ p.blk → w'.heap[k]? = w.heap[k]?) (hs : w'.heap.size = w.heap.size) (ht : w'.tape = w.tape) (hos : w'.os = w.os) (hout : w'.output = w.output) :
    Sim (m.put h.nx q) ((h.put b none).add o') w' ∧ Stp m h w (m.put h.nx q) ((h.put b none).add o') w' := by
  have hle : m.Le (m.put h.nx q) := Pm.le_put (S.fresh _ (Nat.le_refl _))
  have hget : ∀ k, ((h.put b none).add o').get k = if k = h.nx then some o' else if k = b then none else h.get k := fun k => by
    rw [Heap.get_add]
    show (if k = h.nx then some o' else (h.put b none).get k) = _
    rw [Heap.get_put]
  have hput : ∀ i r, (m.put h.nx q) i = some r → i ≠ h.nx → m i = some r := fun i r e hi => by
    unfold Pm.put at e; rwa [if_neg hi] at e
  have hother : ∀ i oi r, h.get i = some oi → m i = some r → i ≠ b → r.blk ≠ p.blk := fun i oi r h1 h2 h3 e => S.inj b i o oi p r hb h1 hp h2 (Ne.symm h3) e.symm
  refine ⟨⟨fun i hi => ?_, fun i oi hi => ?_, fun i j oi oj pi pj hi hj mi mj hne => ?_⟩, ?_⟩
  · have : h.nx + 1 ≤ i := hi
    unfold Pm.put
    rw [if_neg (by omega)]
    exact S.fresh i (by omega)
  · rw [hget] at hi
    split at hi
    · rename_i e; subst e; cases hi; exact ⟨q, put_self, ho⟩
    · split at hi
      · cases hi
      · rename_i e1 e2
        obtain ⟨r, hr1, hr2⟩ := S.live i oi hi
        exact ⟨r, hle _ _ hr1, (hr2.congr (hw _ (hother i oi r hi hr1 e2))).mono hle⟩
  · rw [hget] at hi hj
    split at hi <;> split at hj
    · rename_i e1 e2; exact absurd (e1.trans e2.symm) hne
    · rename_i e1 e2
      split at hj
      · cases hj
      · rename_i e3
        subst e1; rw [put_self] at mi; cases mi
        rw [hq]
        exact fun e => hother j oj pj hj (hput j _ mj e2) e3 e.symm
    · rename_i e1 e2
      split at hi
      · cases hi
      · rename_i e3
        subst e2; rw [put_self] at mj; cases mj
        rw [hq]
        exact hother i oi pi hi (hput i _ mi e1) e3
    · rename_i e1 e2
      split at hi
      · cases hi
      · split at hj
        · cases hj
        · exact S.inj i j oi oj pi pj hi hj (hput i _ mi e1) (hput j _ mj e2) hne
  · refine ⟨hle, fun i q hi e => hput i q e (by omega), Nat.le_succ _, Nat.le_of_eq hs.symm, fun k hk ⟨i, oi, r, h1, h3, h4⟩ => ?_, fun k _ hk => hw k (fun e => hk ⟨b, o, p, hb, hp, e.symm⟩), ht, hos, hout⟩
    rw [hget] at h1
    split at h1
    · rename_i e; subst e; rw [put_self] at h3; cases h3
      exact ⟨b, o, p, hb, hp, by rw [← hq]; exact h4⟩
    · split at h1
      · cases h1
      · rename_i e1 e2; exact ⟨i, oi, r, h1, hput i _ h3 e1, h4⟩

/-- A row that is given up, a new one in its stead. -/
theorem Sim.renew {m : Pm} {h : Heap} {w : World} (S : Sim m h w) {b : Nat} {o : Obj} {x : Go.Obj} {p : Pl} (hp : p.blk = w.heap.size) (ho : ObjR (m.put h.nx p) p (w.alloc x) o) :
    Sim (m.put h.nx p) ((h.put b none).add o) (w.alloc x) ∧ Stp m h w (m.put h.nx p) ((h.put b none).add o) (w.alloc x) := by
  obtain ⟨h1, h2⟩ := S.new hp ho
  have hget : ∀ k, ((h.put b none).add o).get k = if k = h.nx then some o else if k = b then none else h.get k := fun k => by
    rw [Heap.get_add]
    show (if k = h.nx then some o else (h.put b none).get k) = _
    rw [Heap.get_put]
  have hsub : ∀ i oi, ((h.put b none).add o).get i = some oi → (h.add o).get i = some oi := fun i oi e => by
    rw [hget] at e
    rw [Heap.get_add]
    split at e
    · rename_i e1; rw [if_pos e1]; exact e
    · split at e
      · cases e
      · rename_i e1 e2; rw [if_neg e1]; exact e
  refine ⟨h1.sub hsub (Nat.le_refl _), ⟨h2.le, h2.ids, h2.nx, h2.size, fun k hk ⟨i, oi, q, g1, g3, g4⟩ => h2.own k hk ⟨i, oi, q, hsub i oi g1, g3, g4⟩, h2.keep, rfl, rfl, rfl⟩⟩

end
end Go.Em
