/-
  What a call changes of the evaluator's memory; calls without assumptions.
-/
import Derived.Test.YtbfhilhkmicelaaGreatEm27
namespace Go.Em

theorem giveAll_dt : ∀ (l : List (Nat × Nat × Obj)) (h : Heap), ∃ ws, (giveAll l h).dt = ws ++ h.dt ∧ ∀ t : Part, hits t ws = false → (giveAll l h).get t.n = h.get t.n
  | [], h => ⟨[], rfl, fun _ _ => rfl⟩
  | (i, n, o) :: l, h => by
    obtain ⟨ws, h1, h2⟩ := giveAll_dt l h
    refine ⟨⟨n, 0, unk⟩ :: ws, ?_, fun t ht => ?_⟩
    · show ⟨n, 0, unk⟩ :: (giveAll l h).dt = _
      rw [h1]; rfl
    · have e : hits t ([⟨n, 0, unk⟩] ++ ws) = false := ht
      rw [hits_append, Bool.or_eq_false_iff] at e
      simp only [giveAll, Heap.get_put]
      rw [if_neg (hits_whole e.1)]
      exact h2 t e.2

section
variable {cx : Cx} {cf : CallFn} {base : Nat} {ops : Array Oper} {X : Nat → Po} {S : Nat → Sn}

theorem opsE_chg (K : KeepsF cf) {dk : Bool} {all : List Oper} : ∀ (l : List Oper) (st : St) (ex : Ex) (st' : St), opsE cx cf dk all l st = some (ex, st') → Chg st.h st'.h
  | [], st, ex, st', h => by cases h; exact .refl _
  | o :: l, st, ex, st', h => by
    simp only [opsE] at h
    split at h
    · cases h
    · have := opsE_chg K l _ _ _ h
      exact this
    · split at h
      · rename_i hop
        have := opsE_chg K l _ _ _ h
        exact (opE_chg K hop).trans this
      · rename_i hop
        cases h
        exact opE_chg K hop
      · have := opsE_chg K l _ _ _ h
        exact this
      · split at h
        · have := opsE_chg K l _ _ _ h
          exact this
        · cases h
      · cases h

theorem Tc.dtW (T : Tc cx cf base ops X S) : ∀ (j : Nat), j ≤ ops.size → ∃ W, (X j).h.dt = W ++ (X 0).h.dt ∧ ∀ t, hits t W = false → ∀ k, k < j → isE (S k).kd = true → hits t (wsOf (S k).kd) = false := by
  intro j
  induction j with
  | zero => intro _; exact ⟨[], rfl, fun t _ k hk => by omega⟩
  | succ j ih =>
    intro hj
    obtain ⟨W, h1, h2⟩ := ih (by omega)
    have hn := T.heap_next (j := j) (by omega)
    have hk := T.kd (k := j) (by omega)
    have no : isE (S j).kd = false → ∃ W, (X (j + 1)).h.dt = W ++ (X 0).h.dt ∧ ∀ t, hits t W = false → ∀ k, k < j + 1 → isE (S k).kd = true → hits t (wsOf (S k).kd) = false := fun he => by
      refine ⟨W, by rw [T.heap_not (by omega) he]; exact h1, fun t ht k hk hke => ?_⟩
      rcases Nat.lt_or_ge k j with hlt | hge
      · exact h2 t ht k hlt hke
      · have : k = j := by omega
        subst this; rw [he] at hke; cases hke
    have yes : ∀ ws, wsOf (S j).kd = ws → (X (j + 1)).h.dt = ws ++ (X j).h.dt → ∃ W, (X (j + 1)).h.dt = W ++ (X 0).h.dt ∧ ∀ t, hits t W = false → ∀ k, k < j + 1 → isE (S k).kd = true → hits t (wsOf (S k).kd) = false := fun ws hw he => by
      refine ⟨ws ++ W, by rw [he, h1, List.append_assoc], fun t ht k hk hke => ?_⟩
      rw [hits_append, Bool.or_eq_false_iff] at ht
      rcases Nat.lt_or_ge k j with hlt | hge
      · exact h2 t ht.2 k hlt hke
      · have : k = j := by omega
        subst this; rw [hw]; exact ht.1
    cases hkd : (S j).kd with
    | eff ws h1' v =>
      rw [hkd] at hn hk
      cases hk with
      | eff a b c d =>
        rename_i h2'
        exact yes h2'.dt (by simp [hkd, wsOf]) (by simp [hn])
    | pan ws h1' v =>
      rw [hkd] at hn hk
      cases hk with
      | pan a b c d =>
        rename_i h2'
        exact yes h2'.dt (by simp [hkd, wsOf]) (by simp [hn])
    | _ => exact no (by rw [hkd]; rfl)

theorem Tc.old (T : Tc cx cf base ops X S) (K : KeepsF cf) (hb : base ≤ (X 0).h.nx) {x : Nat} (hx : x < base) (h : (X 0).h.get x = none) : ∀ (j : Nat), j ≤ ops.size → (X j).h.get x = none := by
  intro j
  induction j with
  | zero => intro _; exact h
  | succ j ih =>
    intro hj
    have IH := ih (by omega)
    cases he : isE (S j).kd with
    | true =>
      obtain ⟨h1, hc, h2, _, _⟩ := T.eff_chg K (by omega) he
      rw [h2]
      refine hc.old _ ?_ ?_
      · rw [release_nx]
        have := T.nx_mono K (i := 0) j (by omega) (by omega)
        show x < (X j).h.nx
        omega
      · rcases release_get (S j).mask (X j).mks ⟨(X j).h.tr, (X j).h.nx, []⟩ x with ⟨i', b, a1, a2, _⟩ | ⟨_, a2⟩
        · obtain ⟨b1, ⟨v, b2⟩, _⟩ := (T.mks j (by omega) i' x b).1 a1
          have e := T.mak_id (by omega) b2
          omega
        · rw [a2]; exact IH
    | false => rw [T.heap_not (by omega) he]; exact IH

theorem drawE_chg (K : KeepsF cf) {ops : List Oper} {st : St} {ex : Ex} {st' : St} (hd : drawE cx cf ops st = some (ex, st')) : Chg st.h st'.h := by
  unfold drawE at hd
  split at hd
  · cases hd
  · rename_i tr tm h mks htr
    obtain ⟨X, S, hX, hA, e1, e2, e3, e4⟩ := traceE_spec cx cf st.h.nx ops ops 0 ⟨.nil, none, st.tm, ⟨st.h.tr, st.h.nx + ops.length, st.h.dt⟩, []⟩ [] tr tm h mks htr
    simp only [Nat.zero_add, List.append_nil] at hX hA e1 e2 e3 e4
    split at hd
    · cases hd
    · cases hd
    · rename_i hok hbig
      rw [e4] at hok
      have hsz : ops.toArray.size = ops.length := by simp
      have T : Tc cx cf st.h.nx ops.toArray X S := ⟨fun k hk => by
          obtain ⟨o, ho, A⟩ := hA k (by simpa using hk)
          exact ⟨o, by simpa using ho, by simpa using A⟩, fun i j h1 h2 => by simpa using traceOk_spec ops S ops.length hok i j h1 (by simpa using h2), by rw [hX], by rw [hX], by rw [hX]⟩
      have g0 : ∀ x, (X 0).h.get x = st.h.get x := fun x => by rw [hX]; rfl
      have hb : st.h.nx ≤ (X 0).h.nx := by rw [hX]; exact Nat.le_add_right _ _
      have hn : (X ops.length).h.nx = h.nx := by rw [e2]
      obtain ⟨W, w1, w2⟩ := T.dtW ops.length (by simp)
      have hmono := T.nx_mono K (i := 0) ops.length (by omega) (by simp)
      have hXn : Chg st.h (X ops.length).h := by
        refine ⟨by omega, fun x hx hg => T.old K hb hx (by rw [g0]; exact hg) ops.length (by simp), W, by rw [w1, hX], fun t ht => ?_⟩
        rw [← g0]
        exact T.agree K ops.length (by omega) (by simp) fun k _ h2 h3 => w2 t ht k h2 h3
      split at hd
      · cases hd
        obtain ⟨ws, a1, a2⟩ := giveAll_dt mks h
        refine ⟨by show st.h.nx ≤ (giveAll mks h).nx; rw [giveAll_nx, ← hn]; omega, fun x hx hg => ?_, ws ++ W, by show (giveAll mks h).dt = _; rw [a1, ← e2, w1, hX, List.append_assoc], fun t ht => ?_⟩
        · show (giveAll mks h).get x = none
          rcases giveAll_get mks h x with ⟨i, b, c1, _⟩ | ⟨_, c2⟩
          · rw [← e3] at c1
            obtain ⟨b1, ⟨v, b2⟩, _⟩ := (T.mks ops.length (by simp) i x b).1 c1
            have e := T.mak_id (by simpa using b1) b2
            omega
          · rw [c2, ← e2]
            exact hXn.old x hx hg
        · rw [hits_append, Bool.or_eq_false_iff] at ht
          show AgreeO t _ ((giveAll mks h).get t.n)
          rw [a2 t ht.1, ← e2, ← g0]
          exact T.agree K ops.length (by omega) (by simp) fun k _ h2 h3 => w2 t ht.2 k h2 h3
      · cases hd
        rw [← e2]
        exact hXn

theorem exec_chg (K : KeepsF cf) {dk : Bool} : ∀ (n : Nat) (c : Code) (st : St) (ex : Ex) (st' : St), exec cx cf dk n c st = some (ex, st') → Chg st.h st'.h := by
  intro n
  induction n with
  | zero => intro c st ex st' h; cases h
  | succ n ih =>
    intro c st ex st' h
    cases c with
    | skip => simp only [exec] at h; cases h; exact .refl _
    | label l => simp only [exec] at h; cases h; exact .refl _
    | exit id => simp only [exec] at h; cases h; exact .refl _
    | ret => simp only [exec] at h; cases h; exact .refl _
    | region id ops d =>
      cases d with
      | false => simp only [exec] at h; exact opsE_chg K _ _ _ _ h
      | true => simp only [exec] at h; exact drawE_chg K h
    | seq x y =>
      simp only [exec] at h
      split at h
      · rename_i hx
        exact (ih _ _ _ _ hx).trans (ih _ _ _ _ h)
      · exact ih _ _ _ _ h
    | cond c x y =>
      simp only [exec] at h
      split at h
      · exact ih _ _ _ _ h
      · exact ih _ _ _ _ h
      · cases h
    | block id x =>
      simp only [exec] at h
      split at h
      · rename_i hx
        split at h
        · cases h; exact ih _ _ _ _ hx
        · cases h; exact ih _ _ _ _ hx
      · exact ih _ _ _ _ h
    | loop x =>
      simp only [exec] at h
      split at h
      · rename_i hx
        exact (ih _ _ _ _ hx).trans (ih _ _ _ _ h)
      · exact ih _ _ _ _ h
    | scope x => simp only [exec] at h; exact ih _ _ _ _ h
    | _ => simp only [exec] at h; cases h

theorem callD_chg (K : KeepsF cf) {n g : Nat} {args : List Value} {u u1 : FrameMode} {h h1 : Heap} {r : Fin} (hc : callD cx cf n g args u h = some (r, u1, h1)) : Chg h h1 := by
  unfold callD at hc
  split at hc
  · cases hc
  · split at hc
    · cases hc
    · rename_i hex
      have := exec_chg K _ _ _ _ _ hex
      split at hc
      · cases hc
      · split at hc
        · cases hc; exact this
        · cases hc
        · split at hc
          · cases hc; exact this
          · cases hc

theorem leave_chg {cd : Nat → List Value → FrameMode → Heap → Option (Fin × FrameMode × Heap)} (hcd : ∀ g args u h r u1 h1, cd g args u h = some (r, u1, h1) → Chg h h1) {fn : Func} {tm : Tr Value} :
    ∀ (ds : List Deferred) (u : FrameMode) (h : Heap) (r : Fin) (h1 : Heap), leave cx cd fn tm ds u h = some (r, h1) → Chg h h1
  | [], u, h, r, h1, hl => by
    cases u <;> simp only [leave] at hl
    · cases hl
    · split at hl
      · cases hl; exact .refl _
      · cases hl
    · cases hl; exact .refl _
  | d :: ds, u, h, r, h1, hl => by
    cases u <;> simp only [leave] at hl
    · cases hl
    all_goals
      split at hl
      · split at hl
        · rename_i hc
          exact (hcd _ _ _ _ _ _ _ hc).trans (leave_chg hcd ds _ _ _ _ hl)
        · rename_i hc
          exact (hcd _ _ _ _ _ _ _ hc).trans (leave_chg hcd ds _ _ _ _ hl)
        · cases hl
      · cases hl

/-- Functions that are not gone into keep what must be kept. -/
def ExtChg (cx : Cx) : Prop := ∀ f g, cx.ext f = some g → ∀ args h r h', g args h = some (r, h') → Chg h h'

theorem call_chg (E : ExtChg cx) : ∀ n, KeepsF (call cx n)
  | 0 => fun f args h r h' hc => by simp only [call] at hc; cases hc
  | n + 1 => fun f args h r h' hc => by
    have K := call_chg E n
    simp only [call] at hc
    split at hc
    · rename_i g hg
      exact E f g hg args h r h' hc
    · split at hc
      · cases hc
      · split at hc
        · cases hc
        · rename_i hex
          have h1 := exec_chg K _ _ _ _ _ hex
          have hcd : ∀ g args u h r u1 h1, callD cx (call cx n) n g args u h = some (r, u1, h1) → Chg h h1 := fun g args u h r u1 h1 hq => callD_chg K hq
          split at hc
          · exact h1.trans (leave_chg hcd _ _ _ _ _ hc)
          · cases hc
          · exact h1.trans (leave_chg hcd _ _ _ _ _ hc)

/-- What a call's evaluation tells is so. -/
theorem call_sound (O : Ok cx) (hB : Bd cx) (E : ExtOk cx) (E' : ExtChg cx) (n : Nat) : CallsOk cx (call cx n) :=
  call_run O hB E (fun n C => drawE_ok O C (call_chg E' n)) n

end
end Go.Em
