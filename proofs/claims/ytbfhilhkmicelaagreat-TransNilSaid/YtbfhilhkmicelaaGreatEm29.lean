/-
  What is told of a program, from tables.
-/
import Derived.Test.YtbfhilhkmicelaaGreatEm28
namespace Go.Em
section
variable {α : Type} {p : Nat → α → Prop}

/-- Something holds of all that a table has, each at its number a * n + b. -/
def AllT (p : Nat → α → Prop) : Nat → Nat → Tr α → Prop
  | _, _, .nil => True
  | a, b, .node v l r => (∀ x, v = some x → p b x) ∧ AllT p (2 * a) (a + b) l ∧ AllT p (2 * a) (2 * a + b) r

theorem AllT.get : ∀ (t : Tr α) (a b : Nat), AllT p a b t → ∀ n x, t.get n = some x → p (a * n + b) x
  | .nil, a, b, _, n, x, h => by rw [Tr.get_nil] at h; cases h
  | .node v l r, a, b, ⟨h1, h2, h3⟩, n, x, h => by
    cases n with
    | zero =>
      rw [Tr.get_zero] at h
      simpa using h1 x h
    | succ n =>
      rw [Tr.get_succ] at h
      split at h
      · rename_i e
        have := AllT.get l (2 * a) (a + b) h2 (n / 2) x h
        have e2 : n = 2 * (n / 2) := by omega
        have e3 : 2 * a * (n / 2) + (a + b) = a * (n + 1) + b := by
          rw [Nat.mul_add, Nat.mul_comm 2 a, Nat.mul_assoc, ← e2]; omega
        rwa [e3] at this
      · rename_i e
        have := AllT.get r (2 * a) (2 * a + b) h3 (n / 2) x h
        have e2 : n = 2 * (n / 2) + 1 := by omega
        have e3 : 2 * a * (n / 2) + (2 * a + b) = a * (n + 1) + b := by
          have e4 : a * (n + 1) = a * (2 * (n / 2)) + a * 2 := by rw [← Nat.mul_add]; congr 1; omega
          rw [e4, Nat.mul_comm 2 a, Nat.mul_assoc]; omega
        rwa [e3] at this

theorem AllT.mk {a b : Nat} {v : Option α} {l r : Tr α} (h1 : ∀ x, v = some x → p b x) (h2 : AllT p (2 * a) (a + b) l) (h3 : AllT p (2 * a) (2 * a + b) r) : AllT p a b (.node v l r) := ⟨h1, h2, h3⟩
theorem AllT.none (a b : Nat) : AllT p a b (.nil : Tr α) := trivial
theorem AllT.one {b : Nat} {y : α} (h : p b y) : ∀ x, some y = some x → p b x := fun x e => by cases e; exact h
theorem AllT.zero (b : Nat) : ∀ x, (Option.none : Option α) = some x → p b x := fun x e => by cases e
end

def allFlat : List Value → Bool
  | [] => true
  | v :: l => match flat v with
    | true => allFlat l
    | false => false

def isAggV : Value → Bool
  | .agg _ => true
  | _ => false

def fieldsB (P : Program) : List Field → Bool
  | [] => true
  | f :: l => match (P.info? f.type).isSome, f.name == "_" with
    | true, false => fieldsB P l
    | _, _ => false

def tyB (P : Program) (t : Nat) (i : Ty) : Bool :=
  allFlat i.zero.cells.toList && (flat i.zero || isAggV i.zero) && Nat.beq i.zero.cells.size i.size && (match i.d with
    | .struct fs => fieldsB P fs.toList
    | _ => true) && !P.stoodInHeld t && (match aggD i.d with
    | true => !P.eqGuardType P.depth t
    | false => true)

structure TyOk (P : Program) (t : Nat) (i : Ty) : Prop where
  under : P.underlying t = some i.d
  info : ∃ x, P.info? t = some x ∧ x.size = i.size ∧ x.bytes = i.bytes ∧ x.zero = some i.zero
  chk : tyB P t i = true

structure FnOk (P : Program) (f : Nat) (x : Func × Code) : Prop where
  func : P.funcs[f]? = some x.1
  body : x.1.body = some x.2
  name : (x.1.name == "runtime.NumGoroutine") = false
  code : codeB x.1.ntmps x.2 = true

theorem allFlat_spec : ∀ (l : List Value), allFlat l = true → ∀ v ∈ l, flat v = true
  | [], _, v, h => by cases h
  | x :: l, h, v, hv => by
    simp only [allFlat] at h
    split at h
    · rcases List.mem_cons.1 hv with rfl | hv
      · assumption
      · exact allFlat_spec l h v hv
    · cases h

theorem fieldsB_spec {P : Program} : ∀ (l : List Field), fieldsB P l = true → ∀ f ∈ l, (P.info? f.type).isSome = true ∧ f.name ≠ "_"
  | [], _, f, h => by cases h
  | x :: l, h, f, hf => by
    simp only [fieldsB] at h
    split at h
    · rename_i h1 h2
      rcases List.mem_cons.1 hf with rfl | hf
      · exact ⟨h1, fun e => by rw [e] at h2; simp at h2⟩
      · exact fieldsB_spec l h f hf
    · cases h

/-- Tables that are right. -/
theorem ok_of {cx : Cx} (ht : ∀ t i, cx.ty t = some i → TyOk cx.P t i) (hf : ∀ f x, cx.fn f = some x → FnOk cx.P f x) : Ok cx ∧ Bd cx := by
  have chk : ∀ t i, cx.ty t = some i → allFlat i.zero.cells.toList = true ∧ (flat i.zero || isAggV i.zero) = true ∧ Nat.beq i.zero.cells.size i.size = true ∧ (match i.d with
    | .struct fs => fieldsB cx.P fs.toList
    | _ => true) = true ∧ cx.P.stoodInHeld t = false ∧ (match aggD i.d with
    | true => !cx.P.eqGuardType cx.P.depth t
    | false => true) = true := fun t i h => by
    have := (ht t i h).chk
    unfold tyB at this
    simp only [Bool.and_eq_true, Bool.not_eq_true'] at this
    obtain ⟨⟨⟨⟨⟨a, b⟩, c⟩, d⟩, e⟩, f⟩ := this
    exact ⟨a, b, c, d, e, f⟩
  refine ⟨⟨fun t i h => (ht t i h).under, fun t i h => (ht t i h).info, fun t i h => ?_, fun t i h => ?_, fun t i fs h hd f hf => ?_, fun t i fs h hd f hf => ?_, fun t i h => ?_, fun t i h ha => ?_, fun f x h => ?_⟩, fun f x h => (hf f x h).code⟩
  · obtain ⟨a, b, _⟩ := chk t i h
    refine ⟨allFlat_spec _ a, ?_⟩
    rw [Bool.or_eq_true] at b
    rcases b with b | b
    · exact .inl b
    · right
      cases hz : i.zero <;> rw [hz] at b <;> simp only [isAggV] at b <;> first | (cases b; done) | exact ⟨_, rfl⟩
  · exact Nat.eq_of_beq_eq_true (chk t i h).2.2.1
  · have := (chk t i h).2.2.2.1
    rw [hd] at this
    exact (fieldsB_spec _ this f hf).1
  · have := (chk t i h).2.2.2.1
    rw [hd] at this
    exact (fieldsB_spec _ this f hf).2
  · exact (chk t i h).2.2.2.2.1
  · have := (chk t i h).2.2.2.2.2
    rw [ha] at this
    simpa using this
  · exact ⟨(hf f x h).func, (hf f x h).body, (hf f x h).name⟩

end Go.Em
