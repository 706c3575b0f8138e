/-
  A statement whose order is open: one operation.
-/
import Derived.Test.YtbfhilhkmicelaaGreatEm24
namespace Go.Em
section
variable {cx : Cx} {cf : CallFn} {base : Nat} {ops : Array Oper} {X : Nat → Po} {S : Nat → Sn}

/-- What holds behind some of the operations. -/
structure Inv (base : Nat) (ops : Array Oper) (X : Nat → Po) (S : Nat → Sn) (N : Nat) (st : St) (m0 : Pm) (w0 : World) (fuel : Nat) (listed : Array Bool) (m : Pm) (a : Act) (w : World) : Prop where
  size : listed.size = ops.size
  count : unl listed ops.size = fuel
  closed : ∀ i, i < ops.size → listed.getD i false = true → ∀ k, (S i).mask.testBit k = true → listed.getD k false = true
  fine : ∀ i, i < ops.size → listed.getD i false = true → outV (S i).kd ≠ none
  new : ∀ i, i < ops.size → listed.getD i false = true → ∀ t v, (S i).o.dst = some t → outV (S i).kd = some v → V m v (a.tmps.getD t undef)
  old : ∀ t v, (∀ i, i < ops.size → listed.getD i false = true → (S i).o.dst ≠ some t) → st.tm.get t = some v → V m v (a.tmps.getD t undef)
  mem : ∃ q H, Mem base ops X S (fun i => listed.getD i false) q H ∧ Sim m H w ∧ Stp m0 st.h w0 m H w
  unmade : ∀ i, i < ops.size → listed.getD i false = false → m (base + i) = none
  ds : Ds m st.df a.defers
  tsize : N ≤ a.tmps.size

theorem put_other {a : Act} {dst : Option Nat} {v : Value} {t : Nat} (h : dst ≠ some t) : (a.put dst v).tmps.getD t undef = a.tmps.getD t undef := by
  cases dst with
  | none => rfl
  | some d =>
    have hne : d ≠ t := fun e => h (by rw [e])
    simp [Act.put, Array.getElem?_setIfInBounds_ne hne]

theorem put_here {a : Act} {t : Nat} {v : Value} (h : t < a.tmps.size) : (a.put (some t) v).tmps.getD t undef = v := by
  simp [Act.put, h]

variable {N : Nat} {st : St} {m0 : Pm} {w0 : World} {fuel : Nat} {listed : Array Bool} {m : Pm} {a : Act} {w : World}

/-- One more is done. -/
theorem Inv.advance (T : Tc cx cf base ops X S) (I : Inv base ops X S N st m0 w0 (fuel + 1) listed m a w) {j : Nat} (hj : j < ops.size) (hl : listed.getD j false = false) (hmask : ∀ k, (S j).mask.testBit k = true → listed.getD k false = true)
    {v v' : Value} (hv : outV (S j).kd = some v) {m' : Pm} {w' : World} (hle : m.Le m') (hV : V m' v v') (hdst : ∀ d, (S j).o.dst = some d → d < N)
    (hmem : ∃ q H, Mem base ops X S (fun i => (listed.setIfInBounds j true).getD i false) q H ∧ Sim m' H w' ∧ Stp m0 st.h w0 m' H w')
    (hun : ∀ i, i < ops.size → i ≠ j → m (base + i) = none → m' (base + i) = none) : Inv base ops X S N st m0 w0 fuel (listed.setIfInBounds j true) m' (a.put (S j).o.dst v') w' := by
  have hjs : j < listed.size := by rw [I.size]; exact hj
  have hd : ∀ i, i < ops.size → i ≠ j → ∀ t, (S i).o.dst = some t → (S j).o.dst ≠ some t := fun i hi hne t ht => by
    rcases Nat.lt_or_ge i j with h | h
    · exact T.dsts h hj ht
    · intro e
      exact T.dsts (by omega) hi e ht
  refine ⟨by simp [I.size], ?_, fun i hi h k hk => ?_, fun i hi h => ?_, fun i hi h t u ht hu => ?_, fun t u h hu => ?_, hmem, fun i hi h => ?_, ?_, ?_⟩
  · have := unl_set hjs hl ops.size
    rw [if_pos hj, I.count] at this
    omega
  · rw [getD_set hjs] at h ⊢
    rw [Bool.or_eq_true, decide_eq_true_eq] at h
    rcases h with rfl | h
    · rw [hmask k hk, Bool.or_true]
    · rw [I.closed i hi h k hk, Bool.or_true]
  · rw [getD_set hjs, Bool.or_eq_true, decide_eq_true_eq] at h
    rcases h with rfl | h
    · rw [hv]; simp
    · exact I.fine i hi h
  · rw [getD_set hjs, Bool.or_eq_true, decide_eq_true_eq] at h
    by_cases hij : i = j
    · subst hij
      rw [hv] at hu
      cases hu
      rw [ht, put_here (Nat.lt_of_lt_of_le (hdst t ht) I.tsize)]
      exact hV
    · have h : listed.getD i false = true := by
        rcases h with h | h
        · exact absurd h hij
        · exact h
      rw [put_other (hd i hi hij t ht)]
      exact (I.new i hi h t u ht hu).mono hle
  · have hjd : (S j).o.dst ≠ some t := h j hj (by rw [getD_set hjs]; simp)
    rw [put_other hjd]
    refine (I.old t u (fun i hi h' => h i hi ?_) hu).mono hle
    rw [getD_set hjs, h', Bool.or_true]
  · rw [getD_set hjs, Bool.or_eq_false_iff, decide_eq_false_iff_not] at h
    exact hun i hi h.1 (I.unmade i hi h.2)
  · rw [put_defers']; exact I.ds.mono hle
  · rw [put_size]; exact I.tsize

/-- What must be ahead of an operation that may be done is done. -/
theorem Inv.ready_mask {md : Region.Mode} (T : Tc cx cf base ops X S) (I : Inv base ops X S N st m0 w0 fuel listed m a w) {j : Nat} (hr : j ∈ Region.ready md ops listed) :
    j < ops.size ∧ listed.getD j false = false ∧ ∀ k, (S j).mask.testBit k = true → listed.getD k false = true := by
  obtain ⟨h1, o, h2, h3⟩ := mem_ready.1 hr
  have hj : j < ops.size := (Array.getElem?_eq_some_iff.1 h2).1
  have hjs : j < listed.size := by rw [I.size]; exact hj
  have ho : o = (S j).o := by
    have := T.oper hj
    rw [h2] at this
    cases this
    rfl
  subst ho
  refine ⟨hj, by simpa [hjs] using h1, fun k hk => ?_⟩
  obtain ⟨e, a1, a2, a3, a4⟩ := T.bit hj hk
  have hb : Region.binds md e = true := by
    unfold edgeAny at a2
    unfold Region.binds
    cases hg : e.ground <;> rw [hg] at a2 <;> simp only at a2 ⊢ <;> cases a2
  have hl := h3 e (by simpa using a1) hb
  rcases a4 with rfl | a4
  · exact hl
  · exact I.closed e.on (by omega) hl k a4

/-- The slots that an operation looks at. -/
theorem Inv.slots (T : Tc cx cf base ops X S) (h0 : (X 0).tm = st.tm) (I : Inv base ops X S N st m0 w0 fuel listed m a w) {j : Nat} (hj : j < ops.size) (hl : listed.getD j false = false) (hmask : ∀ k, (S j).mask.testBit k = true → listed.getD k false = true) :
    Tm m (rst (reads ops.toList (S j).o) (X j).tm) a.tmps := by
  intro t v h
  rw [rst_get] at h
  split at h
  · rename_i hr
    have hr' := (memN_iff t (reads ops.toList (S j).o)).2 hr
    by_cases he : ∃ i, i < j ∧ (S i).o.dst = some t
    · obtain ⟨i, hij, hd⟩ := he
      have hb : (S j).mask.testBit i = true := by
        cases hm : (S j).mask.testBit i with
        | true => rfl
        | false =>
          have := (T.apart hij hj hm).1 t hd
          rw [hr'] at this
          cases this
      have hli := hmask i hb
      cases ho : outV (S i).kd with
      | none => exact absurd ho (I.fine i (by omega) hli)
      | some u =>
        rw [T.slot_new hd ho j hij (by omega)] at h
        cases h
        exact I.new i (by omega) hli t v hd ho
    · have hno : ∀ i, i < j → (S i).o.dst ≠ some t := fun i hi hd => he ⟨i, hi, hd⟩
      rw [T.slot_old j (by omega) t hno, h0] at h
      refine I.old t v (fun i hi hli hd => ?_) h
      rcases Nat.lt_trichotomy i j with hlt | rfl | hgt
      · exact hno i hlt hd
      · rw [hl] at hli; cases hli
      · cases hm : (S i).mask.testBit j with
        | true =>
          rw [I.closed i hi hli j hm] at hl
          cases hl
        | false =>
          have := (T.apart hgt hi hm).2 t hd
          rw [hr'] at this
          cases this
  · cases h

/-- A new block under a number that was kept for it. -/
theorem Sim.newAt {m : Pm} {H : Heap} {w : World} (S : Sim m H w) {n : Nat} {o : Obj} {x : Go.Obj} {p : Pl} (hn : m n = none) (hlt : n < H.nx) (hp : p.blk = w.heap.size) (ho : ObjR (m.put n p) p (w.alloc x) o) :
    Sim (m.put n p) (H.put n (some o)) (w.alloc x) := by
  have hle : m.Le (m.put n p) := Pm.le_put hn
  have hold : ∀ b, b < w.heap.size → (w.alloc x).heap[b]? = w.heap[b]? := fun b hb => by
    show (w.heap.push x)[b]? = _
    rw [Array.getElem?_push, if_neg (by omega)]
  have hput : ∀ i q, (m.put n p) i = some q → i ≠ n → m i = some q := fun i q e hi => by
    unfold Pm.put at e; rwa [if_neg hi] at e
  have hnx : (m.put n p) n = some p := put_self
  refine ⟨fun i hi => ?_, fun i oi hi => ?_, fun i j oi oj pi pj hi hj mi mj hne => ?_⟩
  · have hi : H.nx ≤ i := hi
    unfold Pm.put
    rw [if_neg (by omega)]
    exact S.fresh i hi
  · rw [Heap.get_put] at hi
    split at hi
    · rename_i e; subst e; cases hi; exact ⟨p, hnx, ho⟩
    · obtain ⟨q, hq, hr⟩ := S.live i oi hi
      exact ⟨q, hle _ _ hq, (hr.congr (hold _ hr.lt)).mono hle⟩
  · rw [Heap.get_put] at hi hj
    split at hi <;> split at hj
    · rename_i e1 e2; exact absurd (e1.trans e2.symm) hne
    · rename_i e1 e2
      subst e1; rw [hnx] at mi; cases mi
      obtain ⟨q, hq, hrr⟩ := S.live j oj hj
      rw [hput j _ mj e2] at hq; cases hq
      have := hrr.lt; omega
    · rename_i e1 e2
      subst e2; rw [hnx] at mj; cases mj
      obtain ⟨q, hq, hrr⟩ := S.live i oi hi
      rw [hput i _ mi e1] at hq; cases hq
      have := hrr.lt; omega
    · rename_i e1 e2
      exact S.inj i j oi oj pi pj hi hj (hput i _ mi e1) (hput j _ mj e2) hne

end
end Go.Em
