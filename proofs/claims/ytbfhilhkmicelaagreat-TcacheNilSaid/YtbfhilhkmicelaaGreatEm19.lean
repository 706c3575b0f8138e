/-
  What a step changes of the evaluator's memory.
-/
import Derived.Test.YtbfhilhkmicelaaGreatEm18
namespace Go.Em

/-- Two blocks that are alike in a part. -/
def AgreeO (t : Part) (o o' : Option Obj) : Prop := o = o' ∨ ∃ size base tr base' tr' elem esz ro, o = some (.row size base tr elem esz ro) ∧ o' = some (.row size base' tr' elem esz ro) ∧
  ∀ i, t.off ≤ i → i < t.off + t.len → rowAt base tr i = rowAt base' tr' i

theorem AgreeO.refl (t : Part) (o : Option Obj) : AgreeO t o o := .inl rfl

theorem AgreeO.trans {t : Part} {a b c : Option Obj} (h1 : AgreeO t a b) (h2 : AgreeO t b c) : AgreeO t a c := by
  rcases h1 with rfl | ⟨s, b1, t1, b2, t2, e, z, r, rfl, hb, hi⟩
  · exact h2
  · rcases h2 with rfl | ⟨s', b3, t3, b4, t4, e', z', r', hb', rfl, hi'⟩
    · exact .inr ⟨s, b1, t1, b2, t2, e, z, r, rfl, hb, hi⟩
    · rw [hb] at hb'
      cases hb'
      exact .inr ⟨_, _, _, _, _, _, _, _, rfl, rfl, fun i h1 h2 => (hi i h1 h2).trans (hi' i h1 h2)⟩

theorem hits_append (t : Part) : ∀ (a b : List Part), hits t (a ++ b) = (hits t a || hits t b)
  | [], b => by simp [hits]
  | x :: a, b => by
    simp only [List.cons_append, hits, hits_append t a b]
    split
    · split
      · rfl
      · split <;> first | rfl | skip
    · rfl

/-- What a step changes. -/
structure Chg (h h' : Heap) : Prop where
  nx : h.nx ≤ h'.nx
  old : ∀ x, x < h.nx → h.get x = none → h'.get x = none
  dt : ∃ ws, h'.dt = ws ++ h.dt ∧ ∀ t : Part, hits t ws = false → AgreeO t (h.get t.n) (h'.get t.n)

theorem Chg.refl (h : Heap) : Chg h h := ⟨Nat.le_refl _, fun _ _ e => e, [], rfl, fun _ _ => .refl _ _⟩

theorem Chg.trans {a b c : Heap} (h1 : Chg a b) (h2 : Chg b c) : Chg a c := by
  obtain ⟨n1, o1, w1, e1, a1⟩ := h1
  obtain ⟨n2, o2, w2, e2, a2⟩ := h2
  refine ⟨Nat.le_trans n1 n2, fun x hx e => o2 x (Nat.lt_of_lt_of_le hx n1) (o1 x hx e), w2 ++ w1, by rw [e2, e1, List.append_assoc], fun t hh => ?_⟩
  rw [hits_append, Bool.or_eq_false_iff] at hh
  exact (a1 t hh.2).trans (a2 t hh.1)

theorem hits_whole {t : Part} {n : Nat} (h : hits t [⟨n, 0, unk⟩] = false) : t.n ≠ n := by
  intro e
  subst e
  simp [hits, Nat.beq_refl] at h

theorem Chg.put {h : Heap} {n : Nat} {o : Option Obj} (hn : h.get n ≠ none) : Chg h (h.put n o) := by
  refine ⟨Nat.le_refl _, fun x _ e => ?_, [⟨n, 0, unk⟩], rfl, fun t hh => ?_⟩
  · rw [Heap.get_put, if_neg]
    · exact e
    · intro hx; subst hx; exact hn e
  · rw [Heap.get_put, if_neg (hits_whole hh)]
    exact .refl _ _

theorem Chg.add (h : Heap) (o : Obj) : Chg h (h.add o) := by
  refine ⟨Nat.le_succ _, fun x hx e => ?_, [⟨h.nx, 0, unk⟩], rfl, fun t hh => ?_⟩
  · rw [Heap.get_add, if_neg (by omega)]; exact e
  · rw [Heap.get_add, if_neg (hits_whole hh)]; exact .refl _ _

theorem hits_at {t : Part} {n off len i : Nat} (h : hits t [⟨n, off, len⟩] = false) (hn : t.n = n) (h1 : t.off ≤ i) (h2 : i < t.off + t.len) : ¬ (off ≤ i ∧ i < off + len) := by
  intro ⟨h3, h4⟩
  subst hn
  simp only [hits, Nat.beq_refl] at h
  split at h
  · cases h
  · have a1 : Nat.blt off (t.off + t.len) = true := by simp [Nat.blt, Nat.ble_eq]; omega
    have a2 : Nat.blt t.off (off + len) = true := by simp [Nat.blt, Nat.ble_eq]; omega
    rw [a1, a2] at h
    cases h

theorem Chg.putAt {h : Heap} {n off : Nat} {vs : List Value} {size : Nat} {base : Nat → Value} {tr : Tr Value} {elem esz : Nat} {ro : Bool} (hn : h.get n = some (.row size base tr elem esz ro)) :
    Chg h (h.putAt n off vs.length (.row size base (setCells tr off vs) elem esz ro)) := by
  refine ⟨Nat.le_refl _, fun x _ e => ?_, [⟨n, off, vs.length⟩], rfl, fun t hh => ?_⟩
  · rw [Heap.get_putAt, if_neg]
    · exact e
    · intro hx; subst hx; rw [hn] at e; cases e
  · rw [Heap.get_putAt]
    split
    · rename_i e
      rw [e, hn]
      refine .inr ⟨_, _, _, _, _, _, _, _, rfl, rfl, fun i h1 h2 => ?_⟩
      rw [rowAt_setCells, if_neg (hits_at hh e h1 h2)]
    · exact .refl _ _

def KeepsF (cf : CallFn) : Prop := ∀ f args h r h', cf f args h = some (r, h') → Chg h h'

theorem storeN_chg {h h' : Heap} {a : Addr} {vs : List Value} (hs : storeN h a vs = some h') : Chg h h' := by
  unfold storeN at hs
  split at hs
  · cases hs
  · split at hs
    · rename_i hg
      split at hs
      · cases hs
        exact .putAt hg
      · cases hs
    · cases hs

section
variable {cx : Cx}

theorem storeT_chg {h h' : Heap} {t : Nat} {a : Addr} {v : Value} (hs : storeT cx h t a v = some h') : Chg h h' := by
  unfold storeT at hs
  split at hs
  · split at hs
    · exact storeN_chg hs
    · cases hs
  · cases hs

theorem updateE_chg {h h' : Heap} {t : Nat} {m k v : Value} (hs : updateE cx h t m k v = some h') : Chg h h' := by
  unfold updateE at hs
  split at hs
  · split at hs
    · rename_i hg
      split at hs
      · split at hs
        · cases hs; exact .put (by rw [hg]; simp)
        · cases hs
      · cases hs; exact .put (by rw [hg]; simp)
      · cases hs
    · cases hs
  · cases hs

theorem deleteE_chg {h h' : Heap} {t : Nat} {m k : Value} (hs : deleteE cx h t m k = some h') : Chg h h' := by
  unfold deleteE at hs
  split at hs
  · split at hs
    · rename_i hg
      split at hs
      · cases hs; exact .put (by rw [hg]; simp)
      · cases hs; exact .put (by rw [hg]; simp)
      · cases hs
    · cases hs
  · cases hs

theorem clearE_chg {h h' : Heap} {t : Nat} {x : Value} (hs : clearE cx h t x = some h') : Chg h h' := by
  unfold clearE at hs
  split at hs
  · cases hs
  · split at hs
    · cases hs; exact .refl _
    · split at hs
      · rename_i hg
        cases hs; exact .put (by rw [hg]; simp)
      · cases hs
    · cases hs; exact .refl _
    · cases hs; exact .refl _
    · split at hs
      · exact storeN_chg hs
      · cases hs
    · cases hs

theorem appendE_chg {h h' : Heap} {ts : List Nat} {s x v : Value} (hs : appendE cx h ts s x = some (v, h')) : Chg h h' := by
  unfold appendE at hs
  split at hs
  · split at hs
    · split at hs
      · split at hs
        · split at hs
          · split at hs
            · cases hs
            · split at hs
              · split at hs
                · split at hs
                  · rename_i hst
                    cases hs
                    exact storeN_chg hst
                  · cases hs
                · cases hs; exact .refl _
              · split at hs
                · split at hs
                  · cases hs; exact .add _ _
                  · cases hs
                · cases hs
            · split at hs
              · cases hs
              · split at hs
                · rename_i hg
                  split at hs
                  · cases hs
                    exact .putAt hg
                  · split at hs
                    · cases hs
                      exact (Chg.put (by rw [hg]; simp)).trans (.add _ _)
                    · cases hs
                      exact (Chg.put (by rw [hg]; simp)).trans (.add _ _)
                  · cases hs
                · cases hs
          · cases hs
        · cases hs
      · cases hs
    · cases hs
  · cases hs

theorem builtinE_chg {h h' : Heap} {b : Builtin} {ts : List Nat} {args : List Value} {out : Out} (hs : builtinE cx h b ts args = some (out, h')) : Chg h h' := by
  unfold builtinE at hs
  split at hs
  · split at hs
    · obtain ⟨_, _, _, rfl⟩ := val_some hs; exact .refl _
    · cases hs
  · split at hs
    · rename_i ha
      cases hs
      exact appendE_chg ha
    · cases hs
  · split at hs
    · split at hs
      · split at hs
        · split at hs
          · split at hs
            · split at hs
              · split at hs
                · rename_i hst
                  cases hs
                  exact storeN_chg hst
                · cases hs
              · cases hs; exact .refl _
            · cases hs
          · cases hs
        · cases hs
      · cases hs
    · cases hs
  · split at hs
    · split at hs
      · rename_i hd
        cases hs
        exact deleteE_chg hd
      · cases hs
    · cases hs
  · split at hs
    · split at hs
      · rename_i hd
        cases hs
        exact clearE_chg hd
      · cases hs
    · cases hs
  · obtain ⟨_, _, _, rfl⟩ := val_some hs; exact .refl _
  · obtain ⟨_, _, _, rfl⟩ := val_some hs; exact .refl _
  · cases hs; exact .refl _
  · cases hs

theorem opE_chg {cf : CallFn} (K : KeepsF cf) {tm : Tr Value} {h h' : Heap} {op : Op} {out : Out} (hs : opE cx cf tm h op = some (out, h')) : Chg h h' := by
  have mk : ∀ {o : Op}, (match makeE cx tm h o with
      | some (v, b) => some (Out.val v, h.add b)
      | none => none) = some (out, h') → Chg h h' := by
    intro o ho
    split at ho
    · cases ho; exact .add _ _
    · cases ho
  have sk : ∀ {o : Option Heap}, (∀ h2, o = some h2 → Chg h h2) → skp o = some (out, h') → Chg h h' := fun hk hq => by
    obtain ⟨e, _⟩ := skp_some hq
    exact hk _ e
  cases op <;> simp only [opE] at hs
  case call c =>
    split at hs
    · split at hs
      · exact builtinE_chg hs
      · cases hs
    · split at hs
      · split at hs
        · split at hs
          · rename_i hcf
            cases hs
            exact K _ _ _ _ _ hcf
          · rename_i hcf
            cases hs
            exact K _ _ _ _ _ hcf
          · cases hs
        · cases hs
      · cases hs
    · cases hs
  case store t a x =>
    split at hs
    · exact sk (fun h2 e => storeT_chg e) hs
    · cases hs
  case insert t a x y =>
    split at hs
    · exact sk (fun h2 e => updateE_chg e) hs
    · cases hs
  case mapUpdate t a x y =>
    split at hs
    · exact sk (fun h2 e => updateE_chg e) hs
    · cases hs
  all_goals first
    | exact mk hs
    | (obtain ⟨_, _, _, rfl⟩ := val_some hs; exact .refl _)
    | ((repeat' split at hs) <;> first | (cases hs; exact .refl _) | (cases hs; exact .add _ _) | (cases hs; done) | (obtain ⟨_, _, _, rfl⟩ := val_some hs; exact .refl _))

end
end Go.Em
