/-
  Code.
-/
import Derived.Test.YtbfhilhkmicelaaGreatEm15
import Derived.Scope
namespace Go.Em
section
variable {cx : Cx}

def emask (md : Region.Mode) : List Edge → Nat
  | [] => 0
  | e :: l => match Region.binds md e with
    | true => Nat.lor (Nat.pow 2 e.on) (emask md l)
    | false => emask md l

/-- One pass: what may be done behind what is done. -/
def drainPass (md : Region.Mode) : Nat → List Oper → Nat → Nat
  | _, [], done => done
  | i, o :: l, done => match Nat.beq (Nat.land (emask md o.after.toList) done) (emask md o.after.toList) with
    | true => drainPass md (i + 1) l (Nat.lor done (Nat.pow 2 i))
    | false => drainPass md (i + 1) l done

def drain (md : Region.Mode) (ops : List Oper) (full : Nat) : Nat → Nat → Bool
  | 0, done => Nat.beq done full
  | f + 1, done => match Nat.beq done full with
    | true => true
    | false => drain md ops full f (drainPass md 0 ops done)

/-- Is no operation of an open statement left behind, in each mode? -/
def drainsB (ops : List Oper) : Bool := match drain .gc ops (Nat.pow 2 ops.length - 1) ops.length 0 with
  | true => match drain .text ops (Nat.pow 2 ops.length - 1) ops.length 0 with
    | true => drain .any ops (Nat.pow 2 ops.length - 1) ops.length 0
    | false => false
  | false => false

/-- What is to be shown of a statement whose order is open. -/
def DrawOk (cx : Cx) (cf : CallFn) : Prop := ∀ (N : Nat) (ops : Array Oper) (st : St) (ex : Ex) (st' : St), drawE cx cf ops.toList st = some (ex, st') → dstsB N ops.toList = true → drainsB ops.toList = true →
  st'.u = st.u ∧ ∀ (m : Pm) (a : Act) (w : World), Fr N m st a w → ∀ (Q : Exit → Act → World → Prop),
    (∀ m' e a' w', Fr N m' st' a' w' → Stp m st.h w m' st'.h w' → ExR m' ex e → Q e a' w') → ∀ t, wpOps cx.P ops Q (Region.schedule (cx.P.follows .mixedOrders) ops t) a { w with drawn := w.drawn + 1 }

def codeB (N : Nat) : Code → Bool
  | .region _ ops false => dstsB N ops.toList
  | .region _ ops true => match dstsB N ops.toList with
    | true => drainsB ops.toList
    | false => false
  | .seq a b => match codeB N a with
    | true => codeB N b
    | false => false
  | .cond _ a b => match codeB N a with
    | true => codeB N b
    | false => false
  | .block _ a => codeB N a
  | .loop a => codeB N a
  | .scope a => codeB N a
  | _ => true

/-- Where the run of a piece of code begins. -/
def starts (c : Code) (k : List Item) : List Item := match c with
  | .loop x => .code x :: .inLoop x :: k
  | c => .code c :: k

theorem starts_code {P : Program} {b : Frame} {a a' : Act} {c : Code} {k : List Item} {cs cs' : List Frame} {w w' : World} {e : Exit} (h : Arrives P (lone (b.at a (starts c k)) cs w) b k cs' e a' w') :
    Arrives P (lone (b.at a (.code c :: k)) cs w) b k cs' e a' w' := by
  cases c <;> first | exact h | exact .of_steps (.one step_loop) h

/-- What is kept of a run. -/
structure Kept (N : Nat) (dk : Bool) (c₀ : Frame) (rest : List Frame) (m : Pm) (st : St) (cs : List Frame) (w : World) (ex : Ex) (st' : St) (m' : Pm) (e : Exit) (a' : Act) (cs' : List Frame) (w' : World) : Prop where
  fr : Fr N m' st' a' w'
  below : dk = true → Below m' st'.u c₀ rest cs'
  same : dk = false → cs' = cs
  stp : Stp m st.h w m' st'.h w'
  ex : ExR m' ex e

theorem Kept.first {N : Nat} {dk : Bool} {c₀ : Frame} {rest : List Frame} {m m1 m' : Pm} {st st1 st' : St} {cs cs1 : List Frame} {w w1 w' : World} {ex ex1 : Ex} {e1 e : Exit} {a1 a' : Act} {cs' : List Frame}
    (h1 : Kept N dk c₀ rest m st cs w ex1 st1 m1 e1 a1 cs1 w1) (h2 : Kept N dk c₀ rest m1 st1 cs1 w1 ex st' m' e a' cs' w') : Kept N dk c₀ rest m st cs w ex st' m' e a' cs' w' :=
  ⟨h2.fr, h2.below, fun h => (h2.same h).trans (h1.same h), h1.stp.trans h2.stp, h2.ex⟩

theorem exec_run (O : Ok cx) {cf : CallFn} (C : CallsOk cx cf) (D : DrawOk cx cf) {N : Nat} {dk : Bool} {c₀ : Frame} {rest : List Frame} : ∀ (n : Nat) (c : Code) (st : St) (ex : Ex) (st' : St), exec cx cf dk n c st = some (ex, st') → codeB N c = true →
    ∀ (m : Pm) (a : Act) (cs : List Frame) (w : World), Fr N m st a w → (dk = true → Below m st.u c₀ rest cs) → ∀ (b : Frame) (k : List Item), (dk = true → b.kind = .deferred ∧ b.roundOf = none) →
    ∃ m' e a' cs' w', Arrives cx.P (lone (b.at a (starts c k)) cs w) b k cs' e a' w' ∧ Kept N dk c₀ rest m st cs w ex st' m' e a' cs' w' := by
  intro n
  induction n with
  | zero => intro c st ex st' h; cases h
  | succ n ih =>
    intro c st ex st' h hB m a cs w F B b k hb
    have here : ∀ {e}, ExR m ex e → st' = st → Kept N dk c₀ rest m st cs w ex st' m e a cs w := fun he hs => by
      subst hs
      exact ⟨F, B, fun _ => rfl, .refl _ _ _, he⟩
    cases c with
    | skip =>
      simp only [exec] at h; cases h
      exact ⟨m, .normal, a, cs, w, .one step_skip, here .normal rfl⟩
    | label l =>
      simp only [exec] at h; cases h
      exact ⟨m, .normal, a, cs, w, .one step_label, here .normal rfl⟩
    | exit id =>
      simp only [exec] at h; cases h
      exact ⟨m, .exit id, a, cs, w, fun _ hk => .one (step_exit hk), here .exit rfl⟩
    | ret =>
      simp only [exec] at h; cases h
      exact ⟨m, .ret, a, cs, w, ⟨_, .one step_ret⟩, here .ret rfl⟩
    | region id ops d =>
      cases d with
      | false =>
        simp only [codeB] at hB
        simp only [exec] at h
        have hlen : List.range ops.size = List.range' 0 ops.toList.length := by rw [List.range_eq_range']; simp
        cases dk with
        | false =>
          have := opsE_run O C (N := N) (ops := ops) ops.toList 0 st ex st' rfl hB h m a w F (fun e a' w' => ∃ m', Kept N false c₀ rest m st cs w ex st' m' e a' cs w') fun m' e a' w' g1 g2 g3 =>
            ⟨m', g1, (fun h => by cases h), fun _ => rfl, g2, g3⟩
          rw [← hlen] at this
          obtain ⟨e, a', w', ⟨m', hK⟩, hA⟩ := wp_region (id := id) this b k cs
          exact ⟨m', e, a', cs, w', hA, hK⟩
        | true =>
          have := opsE_runS O C (N := N) (ops := ops) (c₀ := c₀) (rest := rest) ops.toList 0 st ex st' rfl hB h m a cs w F (B rfl) (fun e a' cs' w' => ∃ m', Kept N true c₀ rest m st cs w ex st' m' e a' cs' w') fun m' e a' cs' w' g1 g2 g3 g4 =>
            ⟨m', g1, fun _ => g2, (fun h => by cases h), g3, g4⟩
          rw [← hlen] at this
          obtain ⟨e, a', cs', w', ⟨m', hK⟩, hA⟩ := wpS_region (id := id) this b k (hb rfl).1 (hb rfl).2
          exact ⟨m', e, a', cs', w', hA, hK⟩
      | true =>
        simp only [codeB] at hB
        have hB2 : dstsB N ops.toList = true ∧ drainsB ops.toList = true := by
          split at hB
          · exact ⟨by assumption, hB⟩
          · cases hB
        simp only [exec] at h
        obtain ⟨hu, hD⟩ := D N ops st ex st' h hB2.1 hB2.2
        have := wp_region_draw (id := id) (fun t => hD m a w F (fun e a' w' => ∃ m', Kept N dk c₀ rest m st cs w ex st' m' e a' cs w') (fun m' e a' w' g1 g2 g3 =>
            ⟨m', g1, fun h => hu ▸ (let ⟨u', e, hu'⟩ := B h; ⟨u', e, hu'.mono g2.le⟩), fun _ => rfl, g2, g3⟩) t)
        obtain ⟨e, a', w', ⟨m', hK⟩, hA⟩ := this b k cs
        exact ⟨m', e, a', cs, w', hA, hK⟩
    | seq x y =>
      simp only [codeB] at hB
      split at hB
      · rename_i hBx
        simp only [exec] at h
        split at h
        · rename_i st1 hx
          obtain ⟨m1, e1, a1, cs1, w1, hA1, hK1⟩ := ih x st _ st1 hx hBx m a cs w F B b (.code y :: k) hb
          have := hK1.ex
          cases this with
          | normal =>
            obtain ⟨m', e, a', cs', w', hA, hK⟩ := ih y st1 ex st' h hB m1 a1 cs1 w1 hK1.fr hK1.below b k hb
            exact ⟨m', e, a', cs', w', .of_steps (.head step_seq (starts_code (e := .normal) hA1)) (starts_code hA), hK1.first hK⟩
        · rename_i hne
          obtain ⟨m1, e1, a1, cs1, w1, hA1, hK1⟩ := ih x st ex st' h hBx m a cs w F B b (.code y :: k) hb
          refine ⟨m1, e1, a1, cs1, w1, .of_steps (.one step_seq) (.pass (x := .code y) rfl (fun _ _ => .inl ?_) (starts_code hA1)), hK1⟩
          intro he
          subst he
          have := hK1.ex
          cases this
          exact hne st' h
      · cases hB
    | cond c x y =>
      simp only [codeB] at hB
      split at hB
      · rename_i hBx
        simp only [exec] at h
        split at h
        · rename_i hc
          obtain ⟨m', e, a', cs', w', hA, hK⟩ := ih x st ex st' h hBx m a cs w F B b k hb
          exact ⟨m', e, a', cs', w', .of_steps (.one (step_cond (t := true) (bool_inv (ev_V F.tm hc)))) (starts_code hA), hK⟩
        · rename_i hc
          obtain ⟨m', e, a', cs', w', hA, hK⟩ := ih y st ex st' h hB m a cs w F B b k hb
          exact ⟨m', e, a', cs', w', .of_steps (.one (step_cond (t := false) (bool_inv (ev_V F.tm hc)))) (starts_code hA), hK⟩
        · cases h
      · cases hB
    | block id x =>
      simp only [codeB] at hB
      simp only [exec] at h
      split at h
      · rename_i id' st1 hx
        obtain ⟨m1, e1, a1, cs1, w1, hA1, hK1⟩ := ih x st _ st1 hx hB m a cs w F B b (.inBlock id :: k) hb
        have hex := hK1.ex
        have hA1' := starts_code hA1
        cases hex with
        | exit =>
          split at h
          · rename_i hid
            have hid := Nat.eq_of_beq_eq_true hid
            cases h
            refine ⟨m1, .normal, a1, cs1, w1, .head step_block (hA1' k (by simp [exitTo, hid])), ⟨hK1.fr, hK1.below, hK1.same, hK1.stp, .normal⟩⟩
          · rename_i hid
            cases h
            refine ⟨m1, .exit id', a1, cs1, w1, fun k' hk => .head step_block (hA1' k' ?_), ⟨hK1.fr, hK1.below, hK1.same, hK1.stp, .exit⟩⟩
            have : (id == id') = false := by
              simp only [beq_eq_false_iff_ne, ne_eq]
              intro e
              rw [e, Nat.beq_refl] at hid
              cases hid
            simp [exitTo, this, hk]
      · rename_i hne
        obtain ⟨m1, e1, a1, cs1, w1, hA1, hK1⟩ := ih x st ex st' h hB m a cs w F B b (.inBlock id :: k) hb
        have hex := hK1.ex
        have hA1' := starts_code hA1
        cases hex with
        | normal => exact ⟨m1, .normal, a1, cs1, w1, .head step_block (Steps.trans hA1' (.one step_inBlock)), hK1⟩
        | exit => exact absurd h (hne _ _)
        | ret => exact ⟨m1, .ret, a1, cs1, w1, .of_steps (.one step_block) hA1', hK1⟩
        | pan hc => exact ⟨m1, .panic _, a1, cs1, w1, .of_steps (.one step_block) hA1', hK1⟩
    | loop x =>
      simp only [codeB] at hB
      simp only [exec] at h
      split at h
      · rename_i st1 hx
        obtain ⟨m1, e1, a1, cs1, w1, hA1, hK1⟩ := ih x st _ st1 hx hB m a cs w F B b (.inLoop x :: k) hb
        have hex := hK1.ex
        cases hex with
        | normal =>
          obtain ⟨m', e, a', cs', w', hA, hK⟩ := ih (.loop x) st1 ex st' h hB m1 a1 cs1 w1 hK1.fr hK1.below b k hb
          exact ⟨m', e, a', cs', w', .of_steps (Steps.trans (starts_code (e := .normal) hA1) (.one step_inLoop)) hA, hK1.first hK⟩
      · rename_i hne
        obtain ⟨m1, e1, a1, cs1, w1, hA1, hK1⟩ := ih x st ex st' h hB m a cs w F B b (.inLoop x :: k) hb
        refine ⟨m1, e1, a1, cs1, w1, .pass (x := .inLoop x) rfl (fun _ _ => .inl ?_) (starts_code hA1), hK1⟩
        intro he
        subst he
        have := hK1.ex
        cases this
        exact hne st' h
    | scope x =>
      simp only [codeB] at hB
      simp only [exec] at h
      obtain ⟨m1, e1, a1, cs1, w1, hA1, hK1⟩ := ih x st ex st' h hB m a cs w F B b (.inScope x :: k) hb
      have hex := hK1.ex
      have hA1' := starts_code hA1
      cases hex with
      | normal => exact ⟨m1, .normal, a1, cs1, w1, .head step_scope (Steps.trans hA1' (.one step_inScope)), hK1⟩
      | exit => exact ⟨m1, .exit _, a1, cs1, w1, fun k' hk => .head step_scope (hA1' k' (by simp [exitTo, hk])), hK1⟩
      | ret => exact ⟨m1, .ret, a1, cs1, w1, .of_steps (.one step_scope) hA1', hK1⟩
      | pan hc => exact ⟨m1, .panic _, a1, cs1, w1, .of_steps (.one step_scope) hA1', hK1⟩
    | _ => simp only [exec] at h; cases h

end
end Go.Em
