/-
  The evaluator's memory and the model's: how they are alike; and what a step keeps.
-/
import Derived.Test.YtbfhilhkmicelaaGreatEm1
import Derived.Laws.Sem
import Derived.Laws.World
namespace Go.Em

namespace Tr
variable {α : Type}
theorem get_nil (k : Nat) : (Tr.nil : Tr α).get k = none := rfl
theorem get_zero (v : Option α) (l r : Tr α) : (Tr.node v l r).get 0 = v := rfl
theorem get_succ (v : Option α) (l r : Tr α) (n : Nat) : (Tr.node v l r).get (n + 1) = if n % 2 = 0 then l.get (n / 2) else r.get (n / 2) := by
  show Bool.rec (motive := fun _ => Option α) (r.get (n / 2)) (l.get (n / 2)) (Nat.beq (n % 2) 0) = _
  rcases Nat.mod_two_eq_zero_or_one n with e | e <;> rw [e] <;> rfl
theorem setF_nil_zero (f : Nat) (o : Option α) : setF (f + 1) .nil 0 o = .node o .nil .nil := rfl
theorem setF_node_zero (f : Nat) (v : Option α) (l r : Tr α) (o : Option α) : setF (f + 1) (.node v l r) 0 o = .node o l r := rfl
theorem setF_nil_succ (f n : Nat) (o : Option α) : setF (f + 1) .nil (n + 1) o = if n % 2 = 0 then .node none (setF f .nil (n / 2) o) .nil else .node none .nil (setF f .nil (n / 2) o) := by
  show Bool.rec (motive := fun _ => Tr α) (Tr.node none .nil (setF f .nil (n / 2) o)) (Tr.node none (setF f .nil (n / 2) o) .nil) (Nat.beq (n % 2) 0) = _
  rcases Nat.mod_two_eq_zero_or_one n with e | e <;> rw [e] <;> rfl
theorem setF_node_succ (f n : Nat) (v : Option α) (l r : Tr α) (o : Option α) : setF (f + 1) (.node v l r) (n + 1) o = if n % 2 = 0 then .node v (setF f l (n / 2) o) r else .node v l (setF f r (n / 2) o) := by
  show Bool.rec (motive := fun _ => Tr α) (Tr.node v l (setF f r (n / 2) o)) (Tr.node v (setF f l (n / 2) o) r) (Nat.beq (n % 2) 0) = _
  rcases Nat.mod_two_eq_zero_or_one n with e | e <;> rw [e] <;> rfl

theorem get_setF : ∀ (f : Nat) (t : Tr α) (n : Nat) (o : Option α) (k : Nat), n < f → (setF f t n o).get k = if k = n then o else t.get k := by
  intro f
  induction f with
  | zero => intro t n o k h; omega
  | succ f ih =>
    intro t n o k h
    cases t with
    | nil =>
      cases n with
      | zero =>
        rw [setF_nil_zero]
        cases k with
        | zero => simp [get_zero]
        | succ k => simp [get_succ, get_nil]
      | succ n =>
        have hd : n / 2 < f := by omega
        rw [setF_nil_succ]
        cases k with
        | zero => split <;> simp [get_zero, get_nil]
        | succ k =>
          split <;> simp only [get_succ, get_nil, ih _ _ _ _ hd] <;> (repeat' split) <;> first | rfl | omega
    | node v l r =>
      cases n with
      | zero =>
        rw [setF_node_zero]
        cases k with
        | zero => simp [get_zero]
        | succ k => simp [get_succ]
      | succ n =>
        have hd : n / 2 < f := by omega
        rw [setF_node_succ]
        cases k with
        | zero => split <;> simp [get_zero]
        | succ k =>
          split <;> simp only [get_succ, ih _ _ _ _ hd] <;> (repeat' split) <;> first | rfl | omega

theorem get_set (t : Tr α) (n : Nat) (o : Option α) (k : Nat) : (t.set n o).get k = if k = n then o else t.get k :=
  get_setF _ t n o k (Nat.lt_succ_self n)

end Tr

/-- Where a block lies: the model's block, the first cell, how many cells there are from it on, how many an element has. -/
structure Pl where
  blk : Nat
  base : Nat
  lim : Nat
  esz : Nat

abbrev Pm := Nat → Option Pl

def Pm.Le (m m' : Pm) : Prop := ∀ i p, m i = some p → m' i = some p

theorem Pm.Le.refl (m : Pm) : m.Le m := fun _ _ h => h
theorem Pm.Le.trans {m m' m'' : Pm} (h : m.Le m') (h' : m'.Le m'') : m.Le m'' := fun i p e => h' i p (h i p e)

/-- The model's values for the evaluator's. -/
inductive V (m : Pm) : Value → Value → Prop
  | flat {v : Value} : flat v = true → V m v v
  | ptr {b o : Nat} {p : Pl} : m b = some p → V m (.pointer (some ⟨b, o, none⟩)) (.pointer (some ⟨p.blk, p.base + o, none⟩))
  | sl {b o n c : Nat} {p : Pl} : m b = some p → c ≠ unk → V m (.slice (some ⟨b, o, none⟩) n c) (.slice (some ⟨p.blk, p.base + o, none⟩) n c)
  | slu {b o n : Nat} {p : Pl} : m b = some p → 0 < p.esz → V m (.slice (some ⟨b, o, none⟩) n unk) (.slice (some ⟨p.blk, p.base + o, none⟩) n ((p.lim - o) / p.esz))
  | map {r : Nat} {p : Pl} : m r = some p → V m (.map (some r)) (.map (some p.blk))
  | chan {r : Nat} {p : Pl} : m r = some p → V m (.chan (some r)) (.chan (some p.blk))
  | func {fn : Fn} {a a' b b' : Array Value} : a'.size = a.size → b'.size = b.size → (∀ i, i < a.size → V m (a.getD i undef) (a'.getD i undef)) →
      (∀ i, i < b.size → V m (b.getD i undef) (b'.getD i undef)) → V m (.func fn a b) (.func fn a' b')
  | iface {t : Nat} {v v' : Value} : V m v v' → V m (.iface t v) (.iface t v')
  | agg {a a' : Array Value} : a'.size = a.size → (∀ i, i < a.size → V m (a.getD i undef) (a'.getD i undef)) → V m (.agg a) (.agg a')
  | tuple {a a' : Array Value} : a'.size = a.size → (∀ i, i < a.size → V m (a.getD i undef) (a'.getD i undef)) → V m (.tuple a) (.tuple a')

theorem V.mono {m m' : Pm} (hm : m.Le m') {v v' : Value} (h : V m v v') : V m' v v' := by
  induction h with
  | flat h => exact .flat h
  | ptr h => exact .ptr (hm _ _ h)
  | sl h c => exact .sl (hm _ _ h) c
  | slu h c => exact .slu (hm _ _ h) c
  | map h => exact .map (hm _ _ h)
  | chan h => exact .chan (hm _ _ h)
  | func h1 h2 _ _ i1 i2 => exact .func h1 h2 i1 i2
  | iface _ ih => exact .iface ih
  | agg h _ ih => exact .agg h ih
  | tuple h _ ih => exact .tuple h ih

/-- Lists of values. -/
inductive Vs (m : Pm) : List Value → List Value → Prop
  | nil : Vs m [] []
  | cons {v v' : Value} {l l' : List Value} : V m v v' → Vs m l l' → Vs m (v :: l) (v' :: l')

theorem Vs.mono {m m' : Pm} (hm : m.Le m') {l l' : List Value} (h : Vs m l l') : Vs m' l l' := by
  induction h with
  | nil => exact .nil
  | cons h _ ih => exact .cons (h.mono hm) ih

theorem Vs.length {m : Pm} {l l' : List Value} (h : Vs m l l') : l'.length = l.length := by
  induction h with
  | nil => rfl
  | cons _ _ ih => simp [ih]

theorem Vs.append {m : Pm} {a a' b b' : List Value} (h : Vs m a a') (h' : Vs m b b') : Vs m (a ++ b) (a' ++ b') := by
  induction h with
  | nil => exact h'
  | cons h _ ih => exact .cons h ih

theorem Vs.get {m : Pm} {l l' : List Value} (h : Vs m l l') : ∀ (i : Nat) (v : Value), l[i]? = some v → ∃ v', l'[i]? = some v' ∧ V m v v' := by
  induction h with
  | nil => intro i v h; simp at h
  | cons h _ ih =>
    intro i v hi
    cases i with
    | zero => simp at hi; subst hi; exact ⟨_, rfl, h⟩
    | succ i => simpa using ih i v (by simpa using hi)

theorem Vs.of_get {m : Pm} : ∀ {l l' : List Value}, l'.length = l.length → (∀ i, i < l.length → V m (l.getD i undef) (l'.getD i undef)) → Vs m l l'
  | [], [], _, _ => .nil
  | [], _ :: _, h, _ => by simp at h
  | _ :: _, [], h, _ => by simp at h
  | v :: l, v' :: l', h, hg => .cons (by simpa using hg 0 (by simp)) (Vs.of_get (by simpa using h) (fun i hi => by simpa using hg (i + 1) (by simpa using hi)))

theorem Vs.getD {m : Pm} {l l' : List Value} (h : Vs m l l') (i : Nat) (hi : i < l.length) : V m (l.getD i undef) (l'.getD i undef) := by
  obtain ⟨v', e, hv⟩ := h.get i l[i] (by simp [hi])
  simpa [hi, e] using hv

theorem agg_iff {m : Pm} {a a' : Array Value} : V m (.agg a) (.agg a') ↔ Vs m a.toList a'.toList := by
  constructor
  · intro h
    cases h with
    | flat h => simp [flat] at h
    | agg h1 h2 => exact Vs.of_get (by simpa using h1) (fun i hi => by simpa using h2 i (by simpa using hi))
  · intro h
    refine .agg (by simpa using h.length) fun i hi => ?_
    simpa using h.getD i (by simpa using hi)

theorem tuple_iff {m : Pm} {a a' : Array Value} : V m (.tuple a) (.tuple a') ↔ Vs m a.toList a'.toList := by
  constructor
  · intro h
    cases h with
    | flat h => simp [flat] at h
    | tuple h1 h2 => exact Vs.of_get (by simpa using h1) (fun i hi => by simpa using h2 i (by simpa using hi))
  · intro h
    refine .tuple (by simpa using h.length) fun i hi => ?_
    simpa using h.getD i (by simpa using hi)

theorem agg_inv {m : Pm} {a : Array Value} {v' : Value} (h : V m (.agg a) v') : ∃ a' : Array Value, v' = .agg a' ∧ Vs m a.toList a'.toList := by
  cases h with
  | flat h => simp [flat] at h
  | agg h1 h2 => exact ⟨_, rfl, agg_iff.1 (.agg h1 h2)⟩

theorem tuple_inv {m : Pm} {a : Array Value} {v' : Value} (h : V m (.tuple a) v') : ∃ a' : Array Value, v' = .tuple a' ∧ Vs m a.toList a'.toList := by
  cases h with
  | flat h => simp [flat] at h
  | tuple h1 h2 => exact ⟨_, rfl, tuple_iff.1 (.tuple h1 h2)⟩

theorem func_inv {m : Pm} {fn : Fn} {a b : Array Value} {v' : Value} (h : V m (.func fn a b) v') :
    ∃ a' b' : Array Value, v' = .func fn a' b' ∧ Vs m a.toList a'.toList ∧ Vs m b.toList b'.toList := by
  cases h with
  | flat h => simp [flat] at h
  | func h1 h2 h3 h4 =>
    exact ⟨_, _, rfl, Vs.of_get (by simpa using h1) (fun i hi => by simpa using h3 i (by simpa using hi)),
      Vs.of_get (by simpa using h2) (fun i hi => by simpa using h4 i (by simpa using hi))⟩

theorem func_mk {m : Pm} {fn : Fn} {a b a' b' : Array Value} (h : Vs m a.toList a'.toList) (h' : Vs m b.toList b'.toList) : V m (.func fn a b) (.func fn a' b') :=
  .func (by simpa using h.length) (by simpa using h'.length) (fun i hi => by simpa using h.getD i (by simpa using hi)) (fun i hi => by simpa using h'.getD i (by simpa using hi))

theorem int_inv {m : Pm} {k : IntKind} {n : Int} {v' : Value} (h : V m (.int k n) v') : v' = .int k n := by cases h; rfl
theorem bool_inv {m : Pm} {b : Bool} {v' : Value} (h : V m (.bool b) v') : v' = .bool b := by cases h; rfl
theorem string_inv {m : Pm} {s : ByteArray} {v' : Value} (h : V m (.string s) v') : v' = .string s := by cases h; rfl
theorem flat_inv {m : Pm} {v v' : Value} (hf : flat v = true) (h : V m v v') : v' = v := by
  cases h <;> first | rfl | simp [flat] at hf
theorem ptr_inv {m : Pm} {a : Addr} {v' : Value} (h : V m (.pointer (some a)) v') :
    ∃ p, m a.block = some p ∧ a.spot = none ∧ v' = .pointer (some ⟨p.blk, p.base + a.off, none⟩) := by
  cases h with
  | flat h => simp [flat] at h
  | ptr h => exact ⟨_, h, rfl, rfl⟩

theorem V.int (m : Pm) (k : IntKind) (n : Int) : V m (.int k n) (.int k n) := .flat rfl
theorem V.bool (m : Pm) (b : Bool) : V m (.bool b) (.bool b) := .flat rfl
theorem V.string (m : Pm) (s : ByteArray) : V m (.string s) (.string s) := .flat rfl
theorem V.undef (m : Pm) : V m undef undef := .tuple rfl (fun i hi => by simp at hi)

/-- A value of one cell has a value of one cell. -/
theorem V.isCell {m : Pm} {v v' : Value} (h : V m v v') : Em.isCell v' = Em.isCell v := by cases h <;> rfl

theorem V.cells {m : Pm} {v v' : Value} (h : V m v v') : Vs m v.cells.toList v'.cells.toList := by
  have one : ∀ {v v' : Value}, V m v v' → Vs m #[v].toList #[v'].toList := fun h => .cons h .nil
  cases h with
  | agg h1 h2 => exact agg_iff.1 (.agg h1 h2)
  | flat h => cases v <;> first | exact one (.flat h) | exact Bool.noConfusion h
  | ptr h => exact one (.ptr h)
  | sl h c => exact one (.sl h c)
  | slu h c => exact one (.slu h c)
  | map h => exact one (.map h)
  | chan h => exact one (.chan h)
  | func h1 h2 h3 h4 => exact one (.func h1 h2 h3 h4)
  | iface h => exact one (.iface h)
  | tuple h1 h2 => exact one (.tuple h1 h2)

/-- Entries of maps. -/
inductive Es (m : Pm) : List MapEntry → List MapEntry → Prop
  | nil : Es m [] []
  | cons {k k' v v' : Value} {b : Nat} {l l' : List MapEntry} : V m k k' → V m v v' → Es m l l' → Es m (⟨k, v, b⟩ :: l) (⟨k', v', b⟩ :: l')

theorem Es.mono {m m' : Pm} (hm : m.Le m') {l l' : List MapEntry} (h : Es m l l') : Es m' l l' := by
  induction h with
  | nil => exact .nil
  | cons h h' _ ih => exact .cons (h.mono hm) (h'.mono hm) ih

/-- A block and what the model has in its place. -/
def ObjR (m : Pm) (p : Pl) (w : World) : Obj → Prop
  | .row size base tr _ esz ro => ∃ (c : Array Value) (e : Nat) (fz : Nat × Nat), w.heap[p.blk]? = some (.cells c e fz) ∧ (ro = false → fz = (0, 0)) ∧
      (esz ≠ 0 → p.esz = esz) ∧ size ≤ p.lim ∧ p.base + p.lim ≤ c.size ∧ ∀ i, i < size → ∃ v', c[p.base + i]? = some v' ∧ V m (rowAt base tr i) v'
  | .map es clock => ∃ es' : Array MapEntry, w.heap[p.blk]? = some (.map es' clock) ∧ Es m es es'.toList
  | .chan cap buf => ∃ (buf' : Array Value) (s r : Nat), w.heap[p.blk]? = some (.chan cap buf' false s r false) ∧ Vs m buf buf'.toList

def roO : Obj → Bool
  | .row _ _ _ _ _ ro => ro
  | _ => false

/-- The evaluator's memory and the model's are alike. -/
structure Sim (m : Pm) (h : Heap) (w : World) : Prop where
  fresh : ∀ i, h.nx ≤ i → m i = none
  live : ∀ i o, h.get i = some o → ∃ p, m i = some p ∧ ObjR m p w o
  inj : ∀ i j oi oj pi pj, h.get i = some oi → h.get j = some oj → m i = some pi → m j = some pj → i ≠ j → pi.blk ≠ pj.blk

/-- The model's blocks that may be written to. -/
def Own (m : Pm) (h : Heap) (b : Nat) : Prop := ∃ i o p, h.get i = some o ∧ m i = some p ∧ p.blk = b

/-- What a step keeps. -/
structure Stp (m : Pm) (h : Heap) (w : World) (m' : Pm) (h' : Heap) (w' : World) : Prop where
  le : m.Le m'
  ids : ∀ i p, i < h.nx → m' i = some p → m i = some p
  nx : h.nx ≤ h'.nx
  size : w.heap.size ≤ w'.heap.size
  own : ∀ b, b < w.heap.size → Own m' h' b → Own m h b
  keep : ∀ b, b < w.heap.size → ¬ Own m h b → w'.heap[b]? = w.heap[b]?
  tape : w'.tape = w.tape
  os : w'.os = w.os
  output : w'.output = w.output

theorem Stp.refl (m : Pm) (h : Heap) (w : World) : Stp m h w m h w :=
  ⟨.refl m, fun _ _ _ h => h, Nat.le_refl _, Nat.le_refl _, fun _ _ h => h, fun _ _ _ => rfl, rfl, rfl, rfl⟩

theorem Stp.trans {m m1 m2 : Pm} {h h1 h2 : Heap} {w w1 w2 : World} (a : Stp m h w m1 h1 w1) (b : Stp m1 h1 w1 m2 h2 w2) : Stp m h w m2 h2 w2 where
  le := a.le.trans b.le
  ids := fun i p hi e => a.ids i p hi (b.ids i p (Nat.lt_of_lt_of_le hi a.nx) e)
  nx := Nat.le_trans a.nx b.nx
  size := Nat.le_trans a.size b.size
  own := fun x hx ho => a.own x hx (b.own x (Nat.lt_of_lt_of_le hx a.size) ho)
  keep := fun x hx hn => by
    rw [b.keep x (Nat.lt_of_lt_of_le hx a.size) (fun ho => hn (a.own x hx ho)), a.keep x hx hn]
  tape := b.tape.trans a.tape
  os := b.os.trans a.os
  output := b.output.trans a.output

/-- Slots. -/
def Tm (m : Pm) (tm : Tr Value) (ts : Array Value) : Prop := ∀ t v, tm.get t = some v → V m v (ts.getD t undef)

theorem Tm.mono {m m' : Pm} (hm : m.Le m') {tm : Tr Value} {ts : Array Value} (h : Tm m tm ts) : Tm m' tm ts := fun t v e => (h t v e).mono hm

end Go.Em
