/-
  A statement whose order is open: every order comes to what the text's order comes to.
-/
import Derived.Test.YtbfhilhkmicelaaGreatEm23
namespace Go.Em

/-- How many are not done. -/
def unl (listed : Array Bool) : Nat → Nat
  | 0 => 0
  | k + 1 => unl listed k + (if listed.getD k false = true then 0 else 1)

theorem unl_zero {listed : Array Bool} : ∀ (n : Nat), unl listed n = 0 → ∀ k, k < n → listed.getD k false = true
  | 0, _, k, hk => by omega
  | n + 1, h, k, hk => by
    simp only [unl] at h
    rcases Nat.lt_or_ge k n with hlt | hge
    · exact unl_zero n (by omega) k hlt
    · have : k = n := by omega
      subst this
      cases hl : listed.getD k false with
      | true => rfl
      | false => rw [hl] at h; simp at h

theorem getD_set {listed : Array Bool} {j : Nat} (hj : j < listed.size) (i : Nat) : (listed.setIfInBounds j true).getD i false = (decide (i = j) || listed.getD i false) := by
  by_cases h : i = j
  · subst h; simp [hj]
  · rw [getD_set_ne false (Ne.symm h)]; simp [h]

theorem unl_set {listed : Array Bool} {j : Nat} (hj : j < listed.size) (hl : listed.getD j false = false) : ∀ (n : Nat), unl (listed.setIfInBounds j true) n + (if j < n then 1 else 0) = unl listed n
  | 0 => by simp [unl]
  | n + 1 => by
    have ih := unl_set hj hl n
    simp only [unl, getD_set hj]
    by_cases h : n = j
    · subst h
      rw [hl]
      simp at ih ⊢
      omega
    · simp only [h, decide_false, Bool.false_or]
      generalize (if listed.getD n false = true then 0 else 1) = z
      by_cases h1 : j < n
      · have h2 : j < n + 1 := by omega
        rw [if_pos h1] at ih
        rw [if_pos h2]
        omega
      · have h2 : ¬ j < n + 1 := by omega
        rw [if_neg h1] at ih
        rw [if_neg h2]
        omega

theorem unl_new (n : Nat) : ∀ k, unl (Array.replicate n false) k = k
  | 0 => rfl
  | k + 1 => by
    have e : (Array.replicate n false).getD k false = false := by
      rcases Nat.lt_or_ge k n with h | h <;> simp [h]
    simp only [unl, unl_new n k, e]
    simp

section
variable {cx : Cx} {cf : CallFn} {base : Nat} {ops : Array Oper} {X : Nat → Po} {S : Nat → Sn}

def UnR (S : Nat → Sn) (q i : Nat) : Prop := ∀ e, i < e → e < q → isE (S e).kd = true → (S e).mask.testBit i = false

theorem Tc.eff_chg (T : Tc cx cf base ops X S) (K : KeepsF cf) {j : Nat} (hj : j < ops.size) (he : isE (S j).kd = true) :
    ∃ h1, Chg (release (S j).mask (X j).mks ⟨(X j).h.tr, (X j).h.nx, []⟩) h1 ∧ (∀ x, (X (j + 1)).h.get x = h1.get x) ∧ (X (j + 1)).h.nx = h1.nx ∧ wsOf (S j).kd = h1.dt := by
  have hk := T.kd hj
  have hn := T.heap_next hj
  generalize (S j).kd = kd at he hk hn
  cases hk with
  | eff a b c d =>
    refine ⟨_, opE_chg K d, fun x => ?_, ?_, rfl⟩
    · rw [hn]; rfl
    · rw [hn]
  | pan a b c d =>
    refine ⟨_, opE_chg K d, fun x => ?_, ?_, rfl⟩
    · rw [hn]; rfl
    · rw [hn]
  | _ => cases he

theorem Tc.heap_not (T : Tc cx cf base ops X S) {j : Nat} (hj : j < ops.size) (he : isE (S j).kd = false) : (X (j + 1)).h = (X j).h :=
  T.heap_same (j + 1) (by omega) (by omega) fun k h1 h2 => by
    have : k = j := by omega
    subst this; exact he

theorem Tc.nx_mono (T : Tc cx cf base ops X S) (K : KeepsF cf) {i : Nat} : ∀ (j : Nat), i ≤ j → j ≤ ops.size → (X i).h.nx ≤ (X j).h.nx := by
  intro j
  induction j with
  | zero => intro h _; have : i = 0 := by omega
            subst this; exact Nat.le_refl _
  | succ j ih =>
    intro hij hj
    rcases Nat.lt_or_ge i (j + 1) with hlt | hge
    · refine Nat.le_trans (ih (by omega) (by omega)) ?_
      cases he : isE (S j).kd with
      | true =>
        obtain ⟨h1, hc, _, h3, _⟩ := T.eff_chg K (by omega) he
        rw [h3]
        have := hc.nx
        rw [release_nx] at this
        exact this
      | false => rw [T.heap_not (by omega) he]; exact Nat.le_refl _
    · have : i = j + 1 := by omega
      subst this; exact Nat.le_refl _

theorem Tc.agree (T : Tc cx cf base ops X S) (K : KeepsF cf) {i : Nat} {t : Part} : ∀ (j : Nat), i ≤ j → j ≤ ops.size → (∀ k, i ≤ k → k < j → isE (S k).kd = true → hits t (wsOf (S k).kd) = false) →
    AgreeO t ((X i).h.get t.n) ((X j).h.get t.n) := by
  intro j
  induction j with
  | zero => intro h _ _; have : i = 0 := by omega
            subst this; exact .refl _ _
  | succ j ih =>
    intro hij hj hh
    rcases Nat.lt_or_ge i (j + 1) with hlt | hge
    · refine (ih (by omega) (by omega) fun k h1 h2 => hh k h1 (by omega)).trans ?_
      cases he : isE (S j).kd with
      | true =>
        obtain ⟨h1, hc, h2, _, h4⟩ := T.eff_chg K (by omega) he
        have hj' := hh j (by omega) (by omega) he
        obtain ⟨ws, e1, e2⟩ := hc.dt
        rw [h4, e1, hits_append, Bool.or_eq_false_iff] at hj'
        have e3 := release_dt _ t _ _ hj'.2
        have := e2 t hj'.1
        rw [e3.1] at this
        rw [h2]
        exact this
      | false => rw [T.heap_not (by omega) he]; exact .refl _ _
    · have : i = j + 1 := by omega
      subst this; exact .refl _ _

/-- A block that was made and not given to memory is not there. -/
theorem Tc.fresh (T : Tc cx cf base ops X S) (K : KeepsF cf) (h0 : ∀ x, base ≤ x → (X 0).h.get x = none) (hb : base + ops.size ≤ (X 0).h.nx) : ∀ (j : Nat), j ≤ ops.size → ∀ i, i < ops.size → UnR S j i → (X j).h.get (base + i) = none := by
  intro j
  induction j with
  | zero => intro _ i _ _; exact h0 _ (by omega)
  | succ j ih =>
    intro hj i hi hu
    have IH := ih (by omega) i hi fun e h1 h2 => hu e h1 (by omega)
    cases he : isE (S j).kd with
    | true =>
      obtain ⟨h1, hc, h2, _, _⟩ := T.eff_chg K (by omega) he
      rw [h2]
      refine hc.old _ ?_ ?_
      · rw [release_nx]
        have := T.nx_mono K (i := 0) j (by omega) (by omega)
        show base + i < (X j).h.nx
        omega
      · rcases release_get (S j).mask (X j).mks ⟨(X j).h.tr, (X j).h.nx, []⟩ (base + i) with ⟨i', b, a1, a2, _⟩ | ⟨_, a2⟩
        · obtain ⟨b1, ⟨v, b2⟩, _⟩ := (T.mks j (by omega) i' (base + i) b).1 a1
          have e := T.mak_id (by omega) b2
          have : i' = i := by omega
          subst this
          rw [hu j b1 (by omega) he] at a2
          cases a2
        · rw [a2]; exact IH
    | false => rw [T.heap_not (by omega) he]; exact IH

/-- The model's memory behind what is done. -/
structure Mem (base : Nat) (ops : Array Oper) (X : Nat → Po) (S : Nat → Sn) (L : Nat → Bool) (q : Nat) (H : Heap) : Prop where
  le : q ≤ ops.size
  eff : ∀ i, i < ops.size → isE (S i).kd = true → (L i = true ↔ i < q)
  nx : H.nx = (X q).h.nx
  h1 : ∀ x o, (X q).h.get x = some o → H.get x = some o
  h2 : ∀ i x b v, i < ops.size → L i = true → (S i).kd = .mak x b v → UnR S q i → H.get x = some b
  h3 : ∀ x o, H.get x = some o → (X q).h.get x = some o ∨ ∃ i v, i < ops.size ∧ L i = true ∧ (S i).kd = .mak x o v ∧ UnR S q i

noncomputable def unrB (S : Nat → Sn) (q i : Nat) : Bool := (List.range q).all fun e => !(decide (i < e) && (isE (S e).kd && (S e).mask.testBit i))

theorem unrB_iff (q i : Nat) : unrB S q i = true ↔ UnR S q i := by
  unfold unrB UnR
  rw [List.all_eq_true]
  constructor
  · intro h e h1 h2 h3
    have := h e (by simpa using h2)
    simp only [h1, decide_true, Bool.true_and, h3, Bool.not_eq_true'] at this
    exact this
  · intro h e he
    have he : e < q := by simpa using he
    cases h3 : isE (S e).kd with
    | false => simp
    | true =>
      by_cases h1 : i < e
      · simp [h1, h e h1 he h3]
      · simp [h1]

noncomputable def asl (S : Nat → Sn) (L : Nat → Bool) (q n : Nat) : List (Nat × Nat × Obj) := (List.range n).filterMap fun i => match (S i).kd with
  | .mak x b _ => match L i && unrB S q i with
    | true => some (i, x, b)
    | false => none
  | _ => none

theorem mem_asl (L : Nat → Bool) (q n i x : Nat) (b : Obj) : (i, x, b) ∈ asl S L q n ↔ i < n ∧ L i = true ∧ (∃ v, (S i).kd = .mak x b v) ∧ UnR S q i := by
  unfold asl
  rw [List.mem_filterMap]
  constructor
  · rintro ⟨k, h1, h2⟩
    split at h2
    · rename_i x' b' v hk
      split at h2
      · rename_i hh
        rw [Bool.and_eq_true] at hh
        cases h2
        exact ⟨by simpa using h1, hh.1, ⟨v, hk⟩, (unrB_iff _ _).1 hh.2⟩
      · cases h2
    · cases h2
  · rintro ⟨h1, h2, ⟨v, h3⟩, h4⟩
    refine ⟨i, by simpa using h1, ?_⟩
    rw [h3]
    simp only [h2, (unrB_iff _ _).2 h4, Bool.and_self]

/-- That memory can be put together. -/
theorem mem_can (T : Tc cx cf base ops X S) (K : KeepsF cf) (h0 : ∀ x, base ≤ x → (X 0).h.get x = none) (hb : base + ops.size ≤ (X 0).h.nx) {L : Nat → Bool} {q : Nat} (hq : q ≤ ops.size) (he : ∀ i, i < ops.size → isE (S i).kd = true → (L i = true ↔ i < q)) :
    Mem base ops X S L q (giveAll (asl S L q ops.size) (X q).h) := by
  refine ⟨hq, he, giveAll_nx _ _, fun x o hx => ?_, fun i x b v hi hL hk hu => ?_, fun x o hx => ?_⟩
  · rcases giveAll_get (asl S L q ops.size) (X q).h x with ⟨i, b, a1, _⟩ | ⟨_, a2⟩
    · obtain ⟨b1, b2, ⟨v, b3⟩, b4⟩ := (mem_asl L q _ i x b).1 a1
      have := T.mak_id b1 b3
      subst this
      rw [T.fresh K h0 hb q hq i b1 b4] at hx
      cases hx
    · rw [a2]; exact hx
  · rcases giveAll_get (asl S L q ops.size) (X q).h x with ⟨i', b', a1, a2⟩ | ⟨a1, _⟩
    · obtain ⟨b1, b2, ⟨v', b3⟩, b4⟩ := (mem_asl L q _ i' x b').1 a1
      have e1 := T.mak_id b1 b3
      have e2 := T.mak_id hi hk
      have : i' = i := by omega
      subst this
      rw [hk] at b3
      cases b3
      exact a2
    · exact absurd ((mem_asl L q _ i x b).2 ⟨hi, hL, ⟨v, hk⟩, hu⟩) (a1 i b)
  · rcases giveAll_get (asl S L q ops.size) (X q).h x with ⟨i, b, a1, a2⟩ | ⟨_, a2⟩
    · obtain ⟨b1, b2, ⟨v, b3⟩, b4⟩ := (mem_asl L q _ i x b).1 a1
      rw [hx] at a2
      cases a2
      exact .inr ⟨i, v, b1, b2, b3, b4⟩
    · rw [a2] at hx; exact .inl hx

/-- Done besides: what neither makes nor acts. -/
theorem Mem.keep {L L' : Nat → Bool} {q : Nat} {H : Heap} {j : Nat} (M : Mem base ops X S L q H) (hL : ∀ i, L' i = (decide (i = j) || L i)) (he : isE (S j).kd = false) (hm : ∀ n b v, (S j).kd ≠ .mak n b v) : Mem base ops X S L' q H := by
  have ne : ∀ i, i ≠ j → L' i = L i := fun i h => by rw [hL]; simp [h]
  refine ⟨M.le, fun i hi h => ?_, M.nx, M.h1, fun i x b v hi h1 h2 h3 => ?_, fun x o hx => ?_⟩
  · rw [ne i (fun e => by rw [e, he] at h; cases h)]
    exact M.eff i hi h
  · rw [ne i (fun e => hm x b v (e ▸ h2))] at h1
    exact M.h2 i x b v hi h1 h2 h3
  · rcases M.h3 x o hx with h | ⟨i, v, a1, a2, a3, a4⟩
    · exact .inl h
    · refine .inr ⟨i, v, a1, ?_, a3, a4⟩
      rw [hL, a2, Bool.or_true]

end
end Go.Em
