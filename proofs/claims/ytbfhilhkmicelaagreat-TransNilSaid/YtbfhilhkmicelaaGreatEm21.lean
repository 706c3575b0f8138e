/-
  A statement whose order is open: masks, slots, memory, made blocks at each place.
-/
import Derived.Test.YtbfhilhkmicelaaGreatEm20
namespace Go.Em

structure Tc (cx : Cx) (cf : CallFn) (base : Nat) (ops : Array Oper) (X : Nat → Po) (S : Nat → Sn) : Prop where
  at' : ∀ k, k < ops.size → ∃ o, ops[k]? = some o ∧ At cx cf base ops.toList X S k o
  pairs : ∀ i j, i < j → j < ops.size → pairOk ops.toList i (S i) (S j) = true
  ms0 : (X 0).ms = .nil
  dead0 : (X 0).dead = none
  mks0 : (X 0).mks = []

section
variable {cx : Cx} {cf : CallFn} {base : Nat} {ops : Array Oper} {X : Nat → Po} {S : Nat → Sn}

theorem Tc.oper (T : Tc cx cf base ops X S) {k : Nat} (hk : k < ops.size) : ops[k]? = some (S k).o := by
  obtain ⟨o, ho, A⟩ := T.at' k hk
  rw [A.eqo]; exact ho

theorem Tc.mask (T : Tc cx cf base ops X S) {k : Nat} (hk : k < ops.size) : maskE (X k).ms k (S k).o.after.toList = some (S k).mask := by
  obtain ⟨o, ho, A⟩ := T.at' k hk
  rw [A.eqo]; exact A.mask

theorem Tc.kd (T : Tc cx cf base ops X S) {k : Nat} (hk : k < ops.size) : KdI cx cf base k ops.toList (S k).o (S k).mask (X k).dead (X k).tm (X k).h (X k).mks (S k).kd := by
  obtain ⟨o, ho, A⟩ := T.at' k hk
  rw [A.eqo]; exact kdE_inv A.kd

theorem Tc.next (T : Tc cx cf base ops X S) {k : Nat} (hk : k < ops.size) : X (k + 1) = nextP k (S k).o (S k).mask (X k) (S k).kd := by
  obtain ⟨o, ho, A⟩ := T.at' k hk
  rw [A.eqo]; exact A.next

theorem nextP_ms (i : Nat) (o : Oper) (mask : Nat) (s : Po) (kd : Kd) : (nextP i o mask s kd).ms = s.ms.set i (some mask) := by cases kd <;> rfl

theorem nextP_tm (i : Nat) (o : Oper) (mask : Nat) (s : Po) (kd : Kd) : (nextP i o mask s kd).tm = match outV kd with
    | some v => putT s.tm o.dst v
    | none => s.tm := by cases kd <;> rfl

theorem Tc.ms (T : Tc cx cf base ops X S) : ∀ (j : Nat), j ≤ ops.size → ∀ k, (X j).ms.get k = if k < j then some (S k).mask else none := by
  intro j
  induction j with
  | zero => intro _ k; rw [T.ms0, Tr.get_nil, if_neg (by omega)]
  | succ j ih =>
    intro hj k
    rw [T.next (by omega), nextP_ms, Tr.get_set, ih (by omega)]
    by_cases h : k = j
    · subst h; rw [if_pos rfl, if_pos (by omega)]
    · rw [if_neg h]
      by_cases h2 : k < j
      · rw [if_pos h2, if_pos (by omega)]
      · rw [if_neg h2, if_neg (by omega)]

theorem maskE_spec {ms : Tr Nat} {i : Nat} : ∀ (l : List Edge) (m : Nat), maskE ms i l = some m →
    (∀ e ∈ l, edgeAny e.ground = true → e.on < i ∧ m.testBit e.on = true ∧ ∃ k, ms.get e.on = some k ∧ ∀ b, k.testBit b = true → m.testBit b = true) ∧
    (∀ b, m.testBit b = true → ∃ e ∈ l, edgeAny e.ground = true ∧ e.on < i ∧ (b = e.on ∨ ∃ k, ms.get e.on = some k ∧ k.testBit b = true))
  | [], m, h => by
    simp only [maskE] at h
    cases h
    exact ⟨fun e he => (by cases he), fun b hb => by simp at hb⟩
  | e :: l, m, h => by
    simp only [maskE] at h
    split at h
    · cases h
    · rename_i m0 hm0
      obtain ⟨h1, h2⟩ := maskE_spec l m0 hm0
      split at h
      · rename_i he
        cases h
        refine ⟨fun x hx hb => ?_, fun b hb => ?_⟩
        · rcases List.mem_cons.1 hx with rfl | hx
          · rw [he] at hb; cases hb
          · exact h1 x hx hb
        · obtain ⟨x, hx, r⟩ := h2 b hb
          exact ⟨x, List.mem_cons_of_mem _ hx, r⟩
      · rename_i he
        split at h
        · rename_i k hlt hk
          have hlt : e.on < i := Nat.le_of_ble_eq_true hlt
          cases h
          have tb : ∀ b, Nat.testBit (Nat.lor m0 (Nat.lor k (Nat.pow 2 e.on))) b = (m0.testBit b || (k.testBit b || decide (e.on = b))) := fun b => by
            show Nat.testBit (m0 ||| (k ||| 2 ^ e.on)) b = _
            rw [Nat.testBit_or, Nat.testBit_or, Nat.testBit_two_pow]
          refine ⟨fun x hx hb => ?_, fun b hb => ?_⟩
          · rcases List.mem_cons.1 hx with rfl | hx
            · refine ⟨hlt, by rw [tb]; simp, k, hk, fun b hb => by rw [tb, hb]; simp⟩
            · obtain ⟨a1, a2, k2, a3, a4⟩ := h1 x hx hb
              exact ⟨a1, by rw [tb, a2]; simp, k2, a3, fun b hb => by rw [tb, a4 b hb]; simp⟩
          · rw [tb, Bool.or_eq_true, Bool.or_eq_true] at hb
            rcases hb with hb | hb | hb
            · obtain ⟨x, hx, r⟩ := h2 b hb
              exact ⟨x, List.mem_cons_of_mem _ hx, r⟩
            · exact ⟨e, List.mem_cons_self, he, hlt, .inr ⟨k, hk, hb⟩⟩
            · exact ⟨e, List.mem_cons_self, he, hlt, .inl (of_decide_eq_true hb).symm⟩
        · cases h

theorem Tc.edge (T : Tc cx cf base ops X S) {j : Nat} (hj : j < ops.size) {e : Edge} (he : e ∈ (S j).o.after.toList) (hb : edgeAny e.ground = true) :
    e.on < j ∧ (S j).mask.testBit e.on = true ∧ ∀ b, (S e.on).mask.testBit b = true → (S j).mask.testBit b = true := by
  obtain ⟨h1, _⟩ := maskE_spec _ _ (T.mask hj)
  obtain ⟨a1, a2, k, a3, a4⟩ := h1 e he hb
  rw [T.ms j (by omega), if_pos a1] at a3
  cases a3
  exact ⟨a1, a2, a4⟩

theorem Tc.bit (T : Tc cx cf base ops X S) {j : Nat} (hj : j < ops.size) {b : Nat} (hb : (S j).mask.testBit b = true) :
    ∃ e ∈ (S j).o.after.toList, edgeAny e.ground = true ∧ e.on < j ∧ (b = e.on ∨ (S e.on).mask.testBit b = true) := by
  obtain ⟨_, h2⟩ := maskE_spec _ _ (T.mask hj)
  obtain ⟨e, a1, a2, a3, a4⟩ := h2 b hb
  refine ⟨e, a1, a2, a3, ?_⟩
  rcases a4 with a4 | ⟨k, a4, a5⟩
  · exact .inl a4
  · rw [T.ms j (by omega), if_pos a3] at a4
    cases a4
    exact .inr a5

theorem Tc.bit_lt (T : Tc cx cf base ops X S) : ∀ (j : Nat), j < ops.size → ∀ b, (S j).mask.testBit b = true → b < j := by
  intro j
  induction j using Nat.strongRecOn with
  | _ j ih =>
    intro hj b hb
    obtain ⟨e, _, _, h3, h4⟩ := T.bit hj hb
    rcases h4 with rfl | h4
    · exact h3
    · exact Nat.lt_trans (ih e.on h3 (by omega) b h4) h3

theorem Tc.bit_trans (T : Tc cx cf base ops X S) : ∀ (j : Nat), j < ops.size → ∀ b c, (S j).mask.testBit b = true → (S b).mask.testBit c = true → (S j).mask.testBit c = true := by
  intro j
  induction j using Nat.strongRecOn with
  | _ j ih =>
    intro hj b c hb hc
    obtain ⟨e, h1, h2, h3, h4⟩ := T.bit hj hb
    obtain ⟨_, _, h5⟩ := T.edge hj h1 h2
    rcases h4 with rfl | h4
    · exact h5 c hc
    · exact h5 c (ih e.on h3 (by omega) b c h4 hc)

/-- Slots are written once. -/
theorem Tc.dsts (T : Tc cx cf base ops X S) {i j : Nat} (hij : i < j) (hj : j < ops.size) {t : Nat} (hi : (S i).o.dst = some t) : (S j).o.dst ≠ some t := by
  intro h
  have := T.pairs i j hij hj
  unfold pairOk at this
  split at this
  · rw [hi, h] at this
    simp [Nat.beq_refl] at this
  · rw [hi, h] at this
    simp [Nat.beq_refl] at this

/-- Two that stand in no order do not look at each other's slots. -/
theorem Tc.apart (T : Tc cx cf base ops X S) {i j : Nat} (hij : i < j) (hj : j < ops.size) (hm : (S j).mask.testBit i = false) :
    (∀ t, (S i).o.dst = some t → memN t (reads ops.toList (S j).o) = false) ∧ (∀ t, (S j).o.dst = some t → memN t (reads ops.toList (S i).o) = false) := by
  have := T.pairs i j hij hj
  unfold pairOk at this
  rw [hm] at this
  simp only [Bool.and_eq_true] at this
  obtain ⟨⟨h1, h2⟩, _⟩ := this
  refine ⟨fun t ht => ?_, fun t ht => ?_⟩
  · rw [ht] at h1
    simp only [Bool.and_eq_true, Bool.not_eq_true'] at h1
    exact h1.1
  · rw [ht] at h2
    simpa using h2

theorem Tc.effs (T : Tc cx cf base ops X S) {i j : Nat} (hij : i < j) (hj : j < ops.size) (h1 : isE (S i).kd = true) (h2 : isE (S j).kd = true) : (S j).mask.testBit i = true := by
  cases hm : (S j).mask.testBit i with
  | true => rfl
  | false =>
    have := T.pairs i j hij hj
    unfold pairOk at this
    rw [hm] at this
    simp only [Bool.and_eq_true] at this
    obtain ⟨_, h3⟩ := this
    cases hi : (S i).kd <;> rw [hi] at h1 <;> simp only [isE] at h1 <;> try (cases h1; done)
    all_goals
      cases hj : (S j).kd <;> rw [hj] at h2 <;> simp only [isE] at h2 <;> try (cases h2; done)
      all_goals
        rw [hi, hj] at h3
        cases h3

def wsOf : Kd → List Part
  | .eff ws _ _ => ws
  | .pan ws _ _ => ws
  | _ => []

theorem Tc.lods (T : Tc cx cf base ops X S) {i j : Nat} (hij : i < j) (hj : j < ops.size) (hm : (S j).mask.testBit i = false) :
    (∀ t v, (S i).kd = .lod t v → isE (S j).kd = true → hits t (wsOf (S j).kd) = false) ∧ (∀ t v, (S j).kd = .lod t v → isE (S i).kd = true → hits t (wsOf (S i).kd) = false) := by
  have := T.pairs i j hij hj
  unfold pairOk at this
  rw [hm] at this
  simp only [Bool.and_eq_true] at this
  obtain ⟨_, h3⟩ := this
  refine ⟨fun t v hi he => ?_, fun t v hj he => ?_⟩
  · rw [hi] at h3
    cases hj : (S j).kd <;> rw [hj] at he <;> simp only [isE] at he <;> try (cases he; done)
    all_goals
      rw [hj] at h3
      simpa [wsOf] using h3
  · rw [hj] at h3
    cases hi : (S i).kd <;> rw [hi] at he <;> simp only [isE] at he <;> try (cases he; done)
    all_goals
      rw [hi] at h3
      simpa [wsOf] using h3

/-- What a slot holds. -/
theorem Tc.slot_old (T : Tc cx cf base ops X S) : ∀ (j : Nat), j ≤ ops.size → ∀ t, (∀ i, i < j → (S i).o.dst ≠ some t) → (X j).tm.get t = (X 0).tm.get t := by
  intro j
  induction j with
  | zero => intro _ t _; rfl
  | succ j ih =>
    intro hj t h
    rw [T.next (by omega), nextP_tm, ← ih (by omega) t fun i hi => h i (by omega)]
    split
    · rename_i v hv
      have := h j (by omega)
      cases hd : (S j).o.dst with
      | none => rfl
      | some d =>
        simp only [putT, Tr.get_set]
        rw [if_neg]
        intro e
        rw [hd, e] at this
        exact this rfl
    · rfl

theorem Tc.slot_new (T : Tc cx cf base ops X S) {i : Nat} {t : Nat} {v : Value} (hd : (S i).o.dst = some t) (hv : outV (S i).kd = some v) : ∀ (j : Nat), i < j → j ≤ ops.size → (X j).tm.get t = some v := by
  intro j
  induction j with
  | zero => intro h; omega
  | succ j ih =>
    intro hij hj
    rw [T.next (by omega), nextP_tm]
    rcases Nat.lt_or_ge i j with hlt | hge
    · rw [← ih hlt (by omega)]
      split
      · rename_i u hu
        cases hd2 : (S j).o.dst with
        | none => rfl
        | some d =>
          simp only [putT, Tr.get_set]
          rw [if_neg]
          intro e
          exact T.dsts hlt (by omega) hd (e ▸ hd2)
      · rfl
    · have : i = j := by omega
      subst this
      rw [hv, hd]
      simp [putT, Tr.get_set]

/-- Memory changes only at effects. -/
theorem Tc.heap_same (T : Tc cx cf base ops X S) {i : Nat} : ∀ (j : Nat), i ≤ j → j ≤ ops.size → (∀ k, i ≤ k → k < j → isE (S k).kd = false) → (X j).h = (X i).h := by
  intro j
  induction j with
  | zero => intro h _ _; have : i = 0 := by omega
            subst this; rfl
  | succ j ih =>
    intro hij hj h
    rcases Nat.lt_or_ge i (j + 1) with hlt | hge
    · rw [← ih (by omega) (by omega) fun k h1 h2 => h k h1 (by omega), T.next (by omega)]
      have := h j (by omega) (by omega)
      cases hk : (S j).kd <;> rw [hk] at this <;> simp only [isE] at this <;> first | rfl | cases this
    · have : i = j + 1 := by omega
      subst this; rfl

theorem Tc.heap_next (T : Tc cx cf base ops X S) {j : Nat} (hj : j < ops.size) : (X (j + 1)).h = match (S j).kd with
    | .eff _ h1 _ => h1
    | .pan _ h1 _ => h1
    | _ => (X j).h := by
  rw [T.next hj]
  cases (S j).kd <;> rfl

theorem mem_unmade (mask : Nat) : ∀ (l : List (Nat × Nat × Obj)) (x : Nat × Nat × Obj), x ∈ unmade mask l ↔ x ∈ l ∧ mask.testBit x.1 = false
  | [], x => by simp [unmade]
  | (i, n, o) :: l, x => by
    simp only [unmade]
    cases hm : mask.testBit i with
    | true =>
      simp only [mem_unmade mask l x, List.mem_cons]
      constructor
      · rintro ⟨a, b⟩; exact ⟨.inr a, b⟩
      · rintro ⟨rfl | a, b⟩
        · simp only at b; rw [hm] at b; cases b
        · exact ⟨a, b⟩
    | false =>
      simp only [mem_unmade mask l x, List.mem_cons]
      constructor
      · rintro (rfl | ⟨a, b⟩)
        · exact ⟨.inl rfl, hm⟩
        · exact ⟨.inr a, b⟩
      · rintro ⟨rfl | a, b⟩
        · exact .inl rfl
        · exact .inr ⟨a, b⟩

/-- The blocks that were made and not given to memory yet. -/
theorem Tc.mks (T : Tc cx cf base ops X S) : ∀ (j : Nat), j ≤ ops.size → ∀ (i n : Nat) (b : Obj), (i, n, b) ∈ (X j).mks ↔ i < j ∧ (∃ v, (S i).kd = .mak n b v) ∧ ∀ e, i < e → e < j → isE (S e).kd = true → (S e).mask.testBit i = false := by
  intro j
  induction j with
  | zero =>
    intro _ i n b
    rw [T.mks0]
    simp
  | succ j ih =>
    intro hj i n b
    have IH := ih (by omega) i n b
    rw [T.next (by omega)]
    have same : isE (S j).kd = false → (∀ v, (S j).kd ≠ .mak n b v ∨ i ≠ j) → ((i < j ∧ (∃ v, (S i).kd = .mak n b v) ∧ ∀ e, i < e → e < j → isE (S e).kd = true → (S e).mask.testBit i = false) ↔
        (i < j + 1 ∧ (∃ v, (S i).kd = .mak n b v) ∧ ∀ e, i < e → e < j + 1 → isE (S e).kd = true → (S e).mask.testBit i = false)) := by
      intro hE hM
      constructor
      · rintro ⟨a1, a2, a3⟩
        refine ⟨by omega, a2, fun e h1 h2 h3 => ?_⟩
        rcases Nat.lt_or_ge e j with hlt | hge
        · exact a3 e h1 hlt h3
        · have : e = j := by omega
          subst this; rw [hE] at h3; cases h3
      · rintro ⟨a1, ⟨v, a2⟩, a3⟩
        rcases Nat.lt_or_ge i j with hlt | hge
        · exact ⟨hlt, ⟨v, a2⟩, fun e h1 h2 h3 => a3 e h1 (by omega) h3⟩
        · have : i = j := by omega
          subst this
          rcases hM v with h | h
          · exact absurd a2 h
          · exact absurd rfl h
    have effect : isE (S j).kd = true → ((i, n, b) ∈ unmade (S j).mask (X j).mks ↔ (i < j + 1 ∧ (∃ v, (S i).kd = .mak n b v) ∧ ∀ e, i < e → e < j + 1 → isE (S e).kd = true → (S e).mask.testBit i = false)) := by
      intro hE
      rw [mem_unmade, IH]
      constructor
      · rintro ⟨⟨a1, a2, a3⟩, a4⟩
        refine ⟨by omega, a2, fun e h1 h2 h3 => ?_⟩
        rcases Nat.lt_or_ge e j with hlt | hge
        · exact a3 e h1 hlt h3
        · have : e = j := by omega
          subst this; exact a4
      · rintro ⟨a1, ⟨v, a2⟩, a3⟩
        have hlt : i < j := by
          rcases Nat.lt_or_ge i j with hlt | hge
          · exact hlt
          · have : i = j := by omega
            subst this
            rw [a2] at hE
            cases hE
        exact ⟨⟨hlt, ⟨v, a2⟩, fun e h1 h2 h3 => a3 e h1 (by omega) h3⟩, a3 j hlt (by omega) hE⟩
    cases hk : (S j).kd with
    | dead => rw [hk] at same; exact IH.trans (same rfl fun v => .inl (by simp))
    | no => rw [hk] at same; exact IH.trans (same rfl fun v => .inl (by simp))
    | pur u => rw [hk] at same; exact IH.trans (same rfl fun v => .inl (by simp))
    | lod t u => rw [hk] at same; exact IH.trans (same rfl fun v => .inl (by simp))
    | eff ws h1 u => rw [hk] at effect; exact effect rfl
    | pan ws h1 c => rw [hk] at effect; exact effect rfl
    | mak n' b' u =>
      show (i, n, b) ∈ (j, n', b') :: (X j).mks ↔ _
      rw [List.mem_cons, IH]
      constructor
      · rintro (h | ⟨a1, a2, a3⟩)
        · cases h
          exact ⟨by omega, ⟨u, hk⟩, fun e h1 h2 => by omega⟩
        · refine ⟨by omega, a2, fun e h1 h2 h3 => ?_⟩
          rcases Nat.lt_or_ge e j with hlt | hge
          · exact a3 e h1 hlt h3
          · have : e = j := by omega
            subst this; rw [hk] at h3; cases h3
      · rintro ⟨a1, ⟨v, a2⟩, a3⟩
        rcases Nat.lt_or_ge i j with hlt | hge
        · exact .inr ⟨hlt, ⟨v, a2⟩, fun e h1 h2 h3 => a3 e h1 (by omega) h3⟩
        · have : i = j := by omega
          subst this
          rw [hk] at a2
          cases a2
          exact .inl rfl

theorem Tc.mak_id (T : Tc cx cf base ops X S) {i n : Nat} {b : Obj} {v : Value} (hi : i < ops.size) (h : (S i).kd = .mak n b v) : n = base + i := by
  have := T.kd hi
  rw [h] at this
  cases this
  rfl

/-- No panic yet: nothing is dead. -/
theorem Tc.alive (T : Tc cx cf base ops X S) : ∀ (j : Nat), j ≤ ops.size → ∀ p, (X j).dead = some p → p < j ∧ ∃ ws h1 c, (S p).kd = .pan ws h1 c := by
  intro j
  induction j with
  | zero => intro _ p h; rw [T.dead0] at h; cases h
  | succ j ih =>
    intro hj p h
    rw [T.next (by omega)] at h
    cases hk : (S j).kd <;> rw [hk] at h <;> simp only [nextP] at h
    case pan ws h1 c =>
      cases h
      exact ⟨by omega, ws, h1, c, hk⟩
    all_goals
      obtain ⟨a, b⟩ := ih (by omega) p h
      exact ⟨by omega, b⟩

theorem Tc.dead_stays (T : Tc cx cf base ops X S) {p : Nat} {ws : List Part} {h1 : Heap} {c : List PanicEntry} (_ : p < ops.size) (hk : (S p).kd = .pan ws h1 c) : ∀ (j : Nat), p < j → j ≤ ops.size → (X j).dead = some p := by
  intro j
  induction j with
  | zero => intro h; omega
  | succ j ih =>
    intro hpj hj
    rw [T.next (by omega)]
    rcases Nat.lt_or_ge p j with hlt | hge
    · have hd := ih hlt (by omega)
      have hkd := T.kd (k := j) (by omega)
      rw [hd] at hkd
      cases hkj : (S j).kd <;> rw [hkj] at hkd <;> simp only [nextP] <;> first | exact hd | skip
      cases hkd with
      | pan hn => cases hn
    · have : p = j := by omega
      subst this
      rw [hk]
      rfl

theorem Tc.pan_last (T : Tc cx cf base ops X S) {p : Nat} {ws : List Part} {h1 : Heap} {c : List PanicEntry} (hp : p < ops.size) (hk : (S p).kd = .pan ws h1 c) {j : Nat} (h : p < j) (hj : j < ops.size) : isE (S j).kd = false := by
  have hd := T.dead_stays hp hk j h (by omega)
  have hkd := T.kd hj
  rw [hd] at hkd
  cases hkj : (S j).kd <;> rw [hkj] at hkd <;> first | rfl | skip
  · cases hkd with
    | eff hn => cases hn
  · cases hkd with
    | pan hn => cases hn

theorem panOf_spec (S : Nat → Sn) : ∀ (n : Nat), (panOf ((List.range' 0 n).map S).reverse = none → ∀ k, k < n → ∀ ws h1 c, (S k).kd ≠ .pan ws h1 c) ∧
    (∀ c, panOf ((List.range' 0 n).map S).reverse = some c → ∃ k, k < n ∧ ∃ ws h1, (S k).kd = .pan ws h1 c)
  | 0 => ⟨fun _ k hk => by omega, fun c h => by simp [panOf] at h⟩
  | n + 1 => by
    obtain ⟨h1, h2⟩ := panOf_spec S n
    rw [List.range'_concat]
    simp only [List.map_append, List.map_cons, List.map_nil, List.reverse_append, List.reverse_cons, List.reverse_nil, List.nil_append, List.singleton_append, Nat.zero_add, Nat.one_mul, panOf]
    cases hk : (S n).kd
    case pan ws h c =>
      refine ⟨fun h => (by simp at h), fun c' h => ?_⟩
      simp only [Option.some.injEq] at h
      subst h
      exact ⟨n, by omega, _, _, hk⟩
    all_goals
      refine ⟨fun h k hkn ws hh c => ?_, fun c h => ?_⟩
      · rcases Nat.lt_or_ge k n with hlt | hge
        · exact h1 h k hlt ws hh c
        · have : k = n := by omega
          subst this
          rw [hk]
          simp
      · obtain ⟨k, a, b⟩ := h2 c h
        exact ⟨k, by omega, b⟩

end
end Go.Em
