/-
  A statement whose order is open, gone through in the text's order: what holds at each place.
-/
import Derived.Test.YtbfhilhkmicelaaGreatEm19
namespace Go.Em

structure Po where
  ms : Tr Nat
  dead : Option Nat
  tm : Tr Value
  h : Heap
  mks : List (Nat × Nat × Obj)

/-- What a kind leaves in its slot. -/
def outV : Kd → Option Value
  | .no => some undef
  | .pur v => some v
  | .lod _ v => some v
  | .mak _ _ v => some v
  | .eff _ _ v => some v
  | .dead => none
  | .pan _ _ _ => none

def isE : Kd → Bool
  | .eff _ _ _ => true
  | .pan _ _ _ => true
  | _ => false

noncomputable def nextP (i : Nat) (o : Oper) (mask : Nat) (s : Po) : Kd → Po
  | .dead => ⟨s.ms.set i (some mask), s.dead, s.tm, s.h, s.mks⟩
  | .no => ⟨s.ms.set i (some mask), s.dead, putT s.tm o.dst undef, s.h, s.mks⟩
  | .pur v => ⟨s.ms.set i (some mask), s.dead, putT s.tm o.dst v, s.h, s.mks⟩
  | .lod _ v => ⟨s.ms.set i (some mask), s.dead, putT s.tm o.dst v, s.h, s.mks⟩
  | .mak n b v => ⟨s.ms.set i (some mask), s.dead, putT s.tm o.dst v, s.h, (i, n, b) :: s.mks⟩
  | .eff _ h1 v => ⟨s.ms.set i (some mask), s.dead, putT s.tm o.dst v, h1, unmade mask s.mks⟩
  | .pan _ h1 _ => ⟨s.ms.set i (some mask), some i, s.tm, h1, unmade mask s.mks⟩

section
variable (cx : Cx) (cf : CallFn) (base : Nat) (all : List Oper)

/-- One place. -/
structure At (X : Nat → Po) (S : Nat → Sn) (k : Nat) (o : Oper) : Prop where
  eqo : (S k).o = o
  mask : maskE (X k).ms k o.after.toList = some (S k).mask
  kd : kdE cx cf base k all o (S k).mask (X k).dead (X k).tm (X k).h (X k).mks = some (S k).kd
  next : X (k + 1) = nextP k o (S k).mask (X k) (S k).kd

theorem traceE_spec : ∀ (l : List Oper) (i : Nat) (s : Po) (acc tr : List Sn) (tm : Tr Value) (h : Heap) (mks : List (Nat × Nat × Obj)),
    traceE cx cf base all l i s.ms s.dead s.tm s.h s.mks acc = some (tr, tm, h, mks) →
    ∃ (X : Nat → Po) (S : Nat → Sn), X i = s ∧ (∀ k, k < l.length → ∃ o, l[k]? = some o ∧ At cx cf base all X S (i + k) o) ∧
      (X (i + l.length)).tm = tm ∧ (X (i + l.length)).h = h ∧ (X (i + l.length)).mks = mks ∧ tr = ((List.range' i l.length).map S).reverse ++ acc
  | [], i, s, acc, tr, tm, h, mks, ht => by
    simp only [traceE] at ht
    cases ht
    exact ⟨fun _ => s, fun _ => ⟨⟨none, .ready 0, 0, "", #[], none⟩, .nil, ⟨.nil, 0, []⟩, 0, .no⟩, rfl, fun k hk => by simp at hk, rfl, rfl, rfl, by simp⟩
  | o :: l, i, s, acc, tr, tm, h, mks, ht => by
    simp only [traceE] at ht
    split at ht
    · cases ht
    · rename_i mask hmask
      split at ht
      · cases ht
      · rename_i kd hkd
        have ht' : traceE cx cf base all l (i + 1) (nextP i o mask s kd).ms (nextP i o mask s kd).dead (nextP i o mask s kd).tm (nextP i o mask s kd).h (nextP i o mask s kd).mks (⟨o, s.tm, s.h, mask, kd⟩ :: acc) = some (tr, tm, h, mks) := by
          cases kd <;> exact ht
        obtain ⟨X, S, hX, hA, e1, e2, e3, e4⟩ := traceE_spec l (i + 1) _ _ tr tm h mks ht'
        refine ⟨fun k => if k = i then s else X k, fun k => if k = i then ⟨o, s.tm, s.h, mask, kd⟩ else S k, by simp, fun k hk => ?_, ?_, ?_, ?_, ?_⟩
        · cases k with
          | zero =>
            refine ⟨o, by simp, ⟨by simp, by simpa using hmask, by simpa using hkd, ?_⟩⟩
            simp [hX]
          | succ k =>
            obtain ⟨o', ho', a1, a2, a3, a4⟩ := hA k (by simpa using hk)
            have n1 : ¬ i + (k + 1) = i := by omega
            have n2 : ¬ i + (k + 1) + 1 = i := by omega
            have n3 : i + (k + 1) = i + 1 + k := by omega
            refine ⟨o', by simpa using ho', ⟨?_, ?_, ?_, ?_⟩⟩ <;> simp only [if_neg n1, if_neg n2] <;> rw [n3] <;> assumption
        · have n1 : ¬ i + (l.length + 1) = i := by omega
          simp only [List.length_cons, if_neg n1]
          rw [show i + (l.length + 1) = i + 1 + l.length from by omega]; exact e1
        · have n1 : ¬ i + (l.length + 1) = i := by omega
          simp only [List.length_cons, if_neg n1]
          rw [show i + (l.length + 1) = i + 1 + l.length from by omega]; exact e2
        · have n1 : ¬ i + (l.length + 1) = i := by omega
          simp only [List.length_cons, if_neg n1]
          rw [show i + (l.length + 1) = i + 1 + l.length from by omega]; exact e3
        · rw [e4]
          simp only [List.length_cons, List.range'_succ, List.map_cons, if_true, List.reverse_cons, List.append_assoc, List.singleton_append]
          congr 2
          refine List.map_congr_left fun k hk => ?_
          have := List.mem_range'_1.1 hk
          rw [if_neg (by omega)]

theorem pairsOk_spec (y : Sn) (S : Nat → Sn) : ∀ (i : Nat), pairsOk all y i ((List.range' 0 i).map S).reverse = true → ∀ k, k < i → pairOk all k (S k) y = true
  | 0, _, k, hk => by omega
  | i + 1, h, k, hk => by
    rw [List.range'_concat] at h
    simp only [List.map_append, List.map_cons, List.map_nil, List.reverse_append, List.reverse_cons, List.reverse_nil, List.nil_append, List.singleton_append, Nat.zero_add, Nat.one_mul, pairsOk] at h
    split at h
    · rename_i h1
      rcases Nat.lt_or_ge k i with hlt | hge
      · exact pairsOk_spec y S i h k hlt
      · have : k = i := by omega
        subst this; exact h1
    · cases h

theorem traceOk_spec (S : Nat → Sn) : ∀ (n : Nat), traceOk all n ((List.range' 0 n).map S).reverse = true → ∀ i j, i < j → j < n → pairOk all i (S i) (S j) = true
  | 0, _, i, j, h1, h2 => by omega
  | n + 1, h, i, j, h1, h2 => by
    rw [List.range'_concat] at h
    simp only [List.map_append, List.map_cons, List.map_nil, List.reverse_append, List.reverse_cons, List.reverse_nil, List.nil_append, List.singleton_append, Nat.zero_add, Nat.one_mul, traceOk] at h
    split at h
    · rename_i hp
      rcases Nat.lt_or_ge j n with hlt | hge
      · exact traceOk_spec S n h i j h1 hlt
      · have : j = n := by omega
        subst this
        exact pairsOk_spec all _ S j hp i h1
    · cases h

end

/-- How a kind came about. -/
inductive KdI (cx : Cx) (cf : CallFn) (base i : Nat) (all : List Oper) (o : Oper) (mask : Nat) (dead : Option Nat) (tm : Tr Value) (h : Heap) (mks : List (Nat × Nat × Obj)) : Kd → Prop
  | dead {p : Nat} : dead = some p → mask.testBit p = true → KdI cx cf base i all o mask dead tm h mks .dead
  | no : (∀ p, dead = some p → mask.testBit p = false) → wantE all tm o = some false → KdI cx cf base i all o mask dead tm h mks .no
  | mak {v : Value} {b : Obj} : (∀ p, dead = some p → mask.testBit p = false) → wantE all tm o = some true → isMake o.op = true → makeE cx tm ⟨.nil, base + i, []⟩ o.op = some (v, b) → KdI cx cf base i all o mask dead tm h mks (.mak (base + i) b v)
  | eff {v : Value} {h1 : Heap} : dead = none → wantE all tm o = some true → isOdd o.op = false → opE cx cf tm (release mask mks ⟨h.tr, h.nx, []⟩) o.op = some (.val v, h1) → KdI cx cf base i all o mask dead tm h mks (.eff h1.dt ⟨h1.tr, h1.nx, h1.dt ++ h.dt⟩ v)
  | pan {c : List PanicEntry} {h1 : Heap} : dead = none → wantE all tm o = some true → isOdd o.op = false → opE cx cf tm (release mask mks ⟨h.tr, h.nx, []⟩) o.op = some (.pan c, h1) → KdI cx cf base i all o mask dead tm h mks (.pan h1.dt ⟨h1.tr, h1.nx, h1.dt ++ h.dt⟩ c)
  | pur {v : Value} {h1 : Heap} : (∀ p, dead = some p → mask.testBit p = false) → wantE all tm o = some true → isMake o.op = false → isEff o.op = false → isOdd o.op = false → opE cx noCall tm (bare big) o.op = some (.val v, h1) → KdI cx cf base i all o mask dead tm h mks (.pur v)
  | lod {t : Part} {b : Obj} {v : Value} {h1 : Heap} : (∀ p, dead = some p → mask.testBit p = false) → wantE all tm o = some true → isMake o.op = false → isEff o.op = false → isOdd o.op = false → targetE cx tm o.op = some t → h.get t.n = some b → opE cx noCall tm (only big t.n b) o.op = some (.val v, h1) →
      KdI cx cf base i all o mask dead tm h mks (.lod t v)

theorem kdE_inv {cx : Cx} {cf : CallFn} {base i : Nat} {all : List Oper} {o : Oper} {mask : Nat} {dead : Option Nat} {tm : Tr Value} {h : Heap} {mks : List (Nat × Nat × Obj)} {kd : Kd} (hk : kdE cx cf base i all o mask dead tm h mks = some kd) :
    KdI cx cf base i all o mask dead tm h mks kd := by
  unfold kdE at hk
  split at hk
  · rename_i hd
    cases hk
    split at hd
    · exact .dead rfl hd
    · cases hd
  · rename_i hd
    have hnd : ∀ p, dead = some p → mask.testBit p = false := fun p hp => by
      subst hp
      exact hd
    split at hk
    · cases hk
    · cases hk; exact .no hnd (by assumption)
    · rename_i hw
      split at hk
      · cases hk
      · rename_i hodd hmk _
        split at hk
        · rename_i hme
          cases hk
          exact .mak hnd hw (by assumption) hme
        · cases hk
      · split at hk
        · cases hk
        · split at hk
          · rename_i ho
            cases hk
            exact .eff rfl hw (by assumption) ho
          · rename_i ho
            cases hk
            exact .pan rfl hw (by assumption) ho
          · cases hk
      · split at hk
        · rename_i ho
          cases hk
          exact .pur hnd hw (by assumption) (by assumption) (by assumption) ho
        · cases hk
        · split at hk
          · cases hk
          · rename_i t ht
            split at hk
            · cases hk
            · rename_i b hb
              split at hk
              · rename_i ho
                cases hk
                exact .lod hnd hw (by assumption) (by assumption) (by assumption) ht hb ho
              · cases hk

end Go.Em
