/-
  Operations one behind the other.
-/
import Derived.Test.YtbfhilhkmicelaaGreatEm14
import Derived.Recover
namespace Go.Em
section
variable {cx : Cx}

/-- A frame's state. -/
structure Fr (N : Nat) (m : Pm) (st : St) (a : Act) (w : World) : Prop where
  sim : Sim m st.h w
  tm : Tm m st.tm a.tmps
  ds : Ds m st.df a.defers
  size : N ≤ a.tmps.size

theorem put_size (a : Act) (dst : Option Nat) (v : Value) : (a.put dst v).tmps.size = a.tmps.size := by
  cases dst <;> simp [Act.put]

theorem put_defers' (a : Act) (dst : Option Nat) (v : Value) : (a.put dst v).defers = a.defers := by
  cases dst <;> simp [Act.put]

theorem Tm.put {m : Pm} {tm : Tr Value} {a : Act} (T : Tm m tm a.tmps) {dst : Option Nat} (hd : ∀ d, dst = some d → d < a.tmps.size) {v v' : Value} (hv : V m v v') : Tm m (putT tm dst v) (a.put dst v').tmps := by
  cases dst with
  | none => exact T
  | some d =>
    intro t u h
    simp only [putT, Tr.get_set] at h
    have hlt := hd d rfl
    split at h
    · rename_i e
      cases h
      subst e
      simpa [Act.put, hlt] using hv
    · rename_i e
      have := T t u h
      simpa [Act.put, Array.getElem?_setIfInBounds_ne (Ne.symm e)] using this

theorem operAt_eq : ∀ (l : List Oper) (n : Nat), operAt l n = l[n]?
  | [], n => by simp [operAt]
  | o :: l, 0 => by simp [operAt]
  | o :: l, n + 1 => by simpa [operAt] using operAt_eq l n

theorem wantE_run {m : Pm} {tm : Tr Value} {a : Act} (T : Tm m tm a.tmps) {ops : Array Oper} {o : Oper} {b : Bool} (h : wantE ops.toList tm o = some b) : Region.wanted o (yielded ops a.tmps) = b := by
  unfold wantE at h
  unfold Region.wanted
  split at h
  · rename_i hg
    cases h
    rw [hg]
  · rename_i j want hg
    rw [hg]
    split at h
    · rename_i g hj
      rw [operAt_eq, Array.getElem?_toList] at hj
      split at h
      · rename_i d hd
        split at h
        · rename_i b' ht
          cases h
          have hv := bool_inv (T d _ ht)
          have : a.tmps[d]? = some (.bool b') := by
            rcases Nat.lt_or_ge d a.tmps.size with l | l
            · simpa [l] using hv
            · rw [Array.getD_eq_getD_getElem?, Array.getElem?_eq_none l] at hv
              cases hv
          simp only [yielded, hj, Option.bind_some, hd, this]
          cases b' <;> cases want <;> rfl
        · rename_i vs ht
          cases h
          obtain ⟨vs', hv, _⟩ := tuple_inv (T d _ ht)
          have : yielded ops a.tmps j = none := by
            simp only [yielded, hj, Option.bind_some, hd]
            rcases Nat.lt_or_ge d a.tmps.size with l | l
            · have : a.tmps[d]? = some (.tuple vs') := by simpa [l] using hv
              rw [this]
            · rw [Array.getElem?_eq_none l]
          simp only [this]
          cases want <;> rfl
        · cases h
      · cases h
    · cases h

/-- An operation that comes to a value. -/
theorem OpR.upon_val {o : Oper} {a : Act} {m : Pm} {h h' : Heap} {w : World} {v : Value} (H : OpR cx o a m h w h' (.val v)) {next : Act → World → Prop} {Q : Exit → Act → World → Prop}
    (hn : ∀ m' w' v', Sim m' h' w' → Stp m h w m' h' w' → V m' v v' → next (a.put o.dst v') w') : o.upon cx.P a next Q ((execOp a.eval o).run cx.P w) ∧ ∀ w', (execOp a.eval o).run cx.P w ≠ .ok .recover w' := by
  rcases H with ⟨m', w', v', h1, h2, h3, h4⟩ | ⟨rfl, w', h1, h2, h3⟩ | ⟨g, args', h1, h2⟩
  · rw [h1]
    exact ⟨hn _ _ _ h2 h3 h4, fun w' h => by cases h⟩
  · rw [h1]
    exact ⟨hn _ _ _ h2 h3 (V.undef _), fun w' h => by cases h⟩
  · rw [h1]
    refine ⟨h2.mono fun e w' ⟨m', k1, k2, v', k3, k4⟩ => ?_, fun w' h => by cases h⟩
    subst k3
    exact hn _ _ _ k1 k2 k4

theorem OpR.upon_pan {o : Oper} {a : Act} {m : Pm} {h h' : Heap} {w : World} {c : List PanicEntry} (S : Sim m h w) (H : OpR cx o a m h w h' (.pan c)) {next : Act → World → Prop} {Q : Exit → Act → World → Prop}
    (hn : ∀ m' w' c', Sim m' h' w' → Stp m h w m' h' w' → Cs m' c c' → Q (.panic c') a w') : o.upon cx.P a next Q ((execOp a.eval o).run cx.P w) ∧ ∀ w', (execOp a.eval o).run cx.P w ≠ .ok .recover w' := by
  rcases H with ⟨rfl, v, v', rfl, h1, h2⟩ | ⟨g, args', h1, h2⟩
  · rw [h1]
    exact ⟨hn m w _ S (.refl _ _ _) (.cons h2 .nil), fun w' h => by cases h⟩
  · rw [h1]
    refine ⟨h2.mono fun e w' ⟨m', k1, k2, v', k3, k4⟩ => ?_, fun w' h => by cases h⟩
    subst k3
    exact hn _ _ _ k1 k2 k4

/-- The slots that operations write to. -/
def dstsB (N : Nat) : List Oper → Bool
  | [] => true
  | o :: l => match o.dst with
    | some d => match Nat.blt d N with
      | true => dstsB N l
      | false => false
    | none => dstsB N l

theorem dstsB_cons {N : Nat} {o : Oper} {l : List Oper} (h : dstsB N (o :: l) = true) : (∀ d, o.dst = some d → d < N) ∧ dstsB N l = true := by
  simp only [dstsB] at h
  split at h
  · rename_i d hd
    split at h
    · rename_i hb
      refine ⟨fun d' e => ?_, h⟩
      rw [hd] at e; cases e
      exact Nat.le_of_ble_eq_true hb
    · cases h
  · rename_i hd
    refine ⟨fun d' e => ?_, h⟩
    rw [hd] at e; cases e

/-- How code is left. -/
inductive ExR (m : Pm) : Ex → Exit → Prop
  | normal : ExR m .normal .normal
  | exit {id : Nat} : ExR m (.exit id) (.exit id)
  | ret : ExR m .ret .ret
  | pan {c c' : List PanicEntry} : Cs m c c' → ExR m (.pan c) (.panic c')

/-- How the frame below stands. -/
inductive Um (m : Pm) : FrameMode → FrameMode → Prop
  | run : Um m .run .run
  | returning : Um m .returning .returning
  | panicking {c c' : List PanicEntry} : Cs m c c' → Um m (.panicking c) (.panicking c')

theorem Um.mono {m m' : Pm} (hm : m.Le m') {u u' : FrameMode} (h : Um m u u') : Um m' u u' := by
  cases h with
  | run => exact .run
  | returning => exact .returning
  | panicking h => exact .panicking (h.mono hm)

theorem range'_drop {ops : Array Oper} {i : Nat} {o : Oper} {l : List Oper} (h : ops.toList.drop i = o :: l) : ops[i]? = some o ∧ ops.toList.drop (i + 1) = l := by
  have h0 : (ops.toList.drop i)[0]? = some o := by rw [h]; rfl
  refine ⟨by simpa using h0, ?_⟩
  have := congrArg (List.drop 1) h
  simpa [List.drop_drop, Nat.add_comm] using this

/-- Operations in order, in a frame that was not deferred. -/
theorem opsE_run (O : Ok cx) {cf : CallFn} (C : CallsOk cx cf) {N : Nat} {ops : Array Oper} : ∀ (l : List Oper) (i : Nat) (st : St) (ex : Ex) (st' : St), ops.toList.drop i = l → dstsB N l = true →
    opsE cx cf false ops.toList l st = some (ex, st') → ∀ (m : Pm) (a : Act) (w : World), Fr N m st a w → ∀ (Q : Exit → Act → World → Prop),
    (∀ m' e a' w', Fr N m' st' a' w' → Stp m st.h w m' st'.h w' → ExR m' ex e → Q e a' w') → wpOps cx.P ops Q (List.range' i l.length) a w
  | [], i, st, ex, st', hi, hd, h, m, a, w, F, Q, hQ => by
    cases h
    exact hQ m _ a w F (.refl _ _ _) .normal
  | o :: l, i, st, ex, st', hi, hd, h, m, a, w, F, Q, hQ => by
    obtain ⟨ho, hi'⟩ := range'_drop hi
    obtain ⟨hdo, hd'⟩ := dstsB_cons hd
    have hdo' : ∀ d, o.dst = some d → d < a.tmps.size := fun d e => Nat.lt_of_lt_of_le (hdo d e) F.size
    simp only [List.length_cons, List.range'_succ, wpOps, ho]
    simp only [opsE] at h
    split at h
    · cases h
    · rename_i hw
      rw [wantE_run F.tm hw]
      simp only [Bool.false_eq_true, if_false]
      refine opsE_run O C l (i + 1) _ ex st' hi' hd' h m _ w ⟨F.sim, F.tm.put hdo' (V.undef m), ?_, ?_⟩ Q hQ
      · rw [put_defers']; exact F.ds
      · rw [put_size]; exact F.size
    · rename_i hw
      rw [wantE_run F.tm hw]
      simp only [if_true]
      split at h
      · rename_i v h' hop
        have H := opE_run O C F.sim F.tm hop
        refine .inl (H.upon_val (next := wpOps cx.P ops Q (List.range' (i + 1) l.length)) (Q := Q) fun m' w' v' k1 k2 k3 => ?_).1
        refine opsE_run O C l (i + 1) _ ex st' hi' hd' h m' _ w' ⟨k1, (F.tm.mono k2.le).put hdo' k3, ?_, ?_⟩ Q fun m2 e a2 w2 g1 g2 g3 => hQ m2 e a2 w2 g1 (k2.trans g2) g3
        · rw [put_defers']; exact F.ds.mono k2.le
        · rw [put_size]; exact F.size
      · rename_i c h' hop
        cases h
        have H := opE_run O C F.sim F.tm hop
        refine .inl (H.upon_pan F.sim (next := wpOps cx.P ops Q (List.range' (i + 1) l.length)) (Q := Q) fun m' w' c' k1 k2 k3 => ?_).1
        exact hQ m' _ a w' ⟨k1, F.tm.mono k2.le, F.ds.mono k2.le, F.size⟩ k2 (.pan k3)
      · rename_i d h' hop
        obtain ⟨_, d', h1, h2⟩ := opE_run O C F.sim F.tm hop
        refine .inl ?_
        unfold Oper.wp
        rw [h1]
        simp only [Oper.upon]
        refine opsE_run O C l (i + 1) _ ex st' hi' hd' h m _ w ⟨F.sim, ?_, ?_, ?_⟩ Q hQ
        · exact Tm.put (a := { a with defers := d' :: a.defers }) F.tm hdo' (V.undef m)
        · rw [put_defers']; exact .cons h2 F.ds
        · rw [put_size]; exact F.size
      · cases h
      · cases h

/-- The frame below a deferred one. -/
def Below (m : Pm) (u : FrameMode) (c₀ : Frame) (rest cs : List Frame) : Prop := ∃ u', cs = { c₀ with mode := u' } :: rest ∧ Um m u u'

theorem recE_run {m : Pm} {u : FrameMode} {c₀ : Frame} {rest cs : List Frame} (B : Below m u c₀ rest cs) :
    (∃ v' cs', recoverD cs = some (v', cs') ∧ V m (recE u).1 v' ∧ Below m (recE u).2 c₀ rest cs') ∨ (recoverD cs = none ∧ recE u = (.nilIface, u)) := by
  obtain ⟨u', rfl, hu⟩ := B
  cases hu with
  | run => exact .inr ⟨rfl, rfl⟩
  | returning => exact .inr ⟨rfl, rfl⟩
  | panicking hc =>
    cases hc with
    | nil => exact .inr ⟨rfl, rfl⟩
    | cons hv hl =>
      rename_i v v' r g l l'
      cases r <;> cases g
      · exact .inl ⟨v', _, rfl, hv, _, rfl, .panicking (.cons hv hl)⟩
      all_goals exact .inr ⟨rfl, rfl⟩

/-- Operations in order, in a deferred frame. -/
theorem opsE_runS (O : Ok cx) {cf : CallFn} (C : CallsOk cx cf) {N : Nat} {ops : Array Oper} {c₀ : Frame} {rest : List Frame} : ∀ (l : List Oper) (i : Nat) (st : St) (ex : Ex) (st' : St), ops.toList.drop i = l → dstsB N l = true →
    opsE cx cf true ops.toList l st = some (ex, st') → ∀ (m : Pm) (a : Act) (cs : List Frame) (w : World), Fr N m st a w → Below m st.u c₀ rest cs → ∀ (Q : Exit → Act → List Frame → World → Prop),
    (∀ m' e a' cs' w', Fr N m' st' a' w' → Below m' st'.u c₀ rest cs' → Stp m st.h w m' st'.h w' → ExR m' ex e → Q e a' cs' w') → wpOpsS cx.P ops Q (List.range' i l.length) a cs w
  | [], i, st, ex, st', hi, hd, h, m, a, cs, w, F, B, Q, hQ => by
    cases h
    exact hQ m _ a cs w F B (.refl _ _ _) .normal
  | o :: l, i, st, ex, st', hi, hd, h, m, a, cs, w, F, B, Q, hQ => by
    obtain ⟨ho, hi'⟩ := range'_drop hi
    obtain ⟨hdo, hd'⟩ := dstsB_cons hd
    have hdo' : ∀ d, o.dst = some d → d < a.tmps.size := fun d e => Nat.lt_of_lt_of_le (hdo d e) F.size
    have hmono : ∀ {m' : Pm}, m.Le m' → Below m' st.u c₀ rest cs := fun hm => let ⟨u', e, hu⟩ := B; ⟨u', e, hu.mono hm⟩
    have ordinary : ∀ {r : Result Next} {X : Prop} {Y : World → Prop}, (∀ w', r ≠ .ok .recover w') → X → (match r with
        | .ok .recover w' => Y w'
        | _ => X) := by
      intro r X Y hr hx
      split
      · rename_i w' ; exact absurd rfl (hr w')
      · exact hx
    simp only [List.length_cons, List.range'_succ, wpOpsS, ho]
    simp only [opsE] at h
    split at h
    · cases h
    · rename_i hw
      rw [wantE_run F.tm hw]
      simp only [Bool.false_eq_true, if_false]
      refine opsE_runS O C l (i + 1) _ ex st' hi' hd' h m _ cs w ⟨F.sim, F.tm.put hdo' (V.undef m), ?_, ?_⟩ B Q hQ
      · rw [put_defers']; exact F.ds
      · rw [put_size]; exact F.size
    · rename_i hw
      rw [wantE_run F.tm hw]
      simp only [if_true]
      split at h
      · rename_i v h' hop
        have H := opE_run O C F.sim F.tm hop
        obtain ⟨g1, g2⟩ := H.upon_val (next := fun a' w' => wpOpsS cx.P ops Q (List.range' (i + 1) l.length) a' cs w') (Q := fun e a' w' => Q e a' cs w') fun m' w' v' k1 k2 k3 => by
          refine opsE_runS O C l (i + 1) _ ex st' hi' hd' h m' _ cs w' ⟨k1, (F.tm.mono k2.le).put hdo' k3, ?_, ?_⟩ (hmono k2.le) Q fun m2 e a2 cs2 w2 g1 g2 g3 g4 => hQ m2 e a2 cs2 w2 g1 g2 (k2.trans g3) g4
          · rw [put_defers']; exact F.ds.mono k2.le
          · rw [put_size]; exact F.size
        generalize (execOp a.eval o).run cx.P w = r at g1 g2
        split
        · exact absurd rfl (g2 _)
        · exact g1
      · rename_i c h' hop
        cases h
        have H := opE_run O C F.sim F.tm hop
        obtain ⟨g1, g2⟩ := H.upon_pan F.sim (next := fun a' w' => wpOpsS cx.P ops Q (List.range' (i + 1) l.length) a' cs w') (Q := fun e a' w' => Q e a' cs w') fun m' w' c' k1 k2 k3 =>
          hQ m' _ a cs w' ⟨k1, F.tm.mono k2.le, F.ds.mono k2.le, F.size⟩ (hmono k2.le) k2 (.pan k3)
        generalize (execOp a.eval o).run cx.P w = r at g1 g2
        split
        · exact absurd rfl (g2 _)
        · exact g1
      · rename_i d h' hop
        obtain ⟨_, d', h1, h2⟩ := opE_run O C F.sim F.tm hop
        rw [h1]
        simp only [Oper.upon]
        refine opsE_runS O C l (i + 1) _ ex st' hi' hd' h m _ cs w ⟨F.sim, ?_, ?_, ?_⟩ B Q hQ
        · exact Tm.put (a := { a with defers := d' :: a.defers }) F.tm hdo' (V.undef m)
        · rw [put_defers']; exact .cons h2 F.ds
        · rw [put_size]; exact F.size
      · rename_i h' hop
        obtain ⟨_, h1⟩ := opE_run O C F.sim F.tm hop
        rw [h1]
        simp only
        rcases recE_run B with ⟨v', cs', hr, hv, hB⟩ | ⟨hr, hu⟩
        · rw [hr]
          simp only
          refine opsE_runS O C l (i + 1) _ ex st' hi' hd' h m _ cs' w ⟨F.sim, F.tm.put hdo' hv, ?_, ?_⟩ hB Q hQ
          · rw [put_defers']; exact F.ds
          · rw [put_size]; exact F.size
        · rw [hr]
          simp only
          rw [hu] at h
          refine opsE_runS O C l (i + 1) _ ex st' hi' hd' h m _ cs w ⟨F.sim, F.tm.put hdo' (.flat rfl), ?_, ?_⟩ B Q hQ
          · rw [put_defers']; exact F.ds
          · rw [put_size]; exact F.size
      · cases h

end
end Go.Em
