/-
  A statement whose order is open: the step, and all orders.
-/
import Derived.Test.YtbfhilhkmicelaaGreatEm25
namespace Go.Em
section
variable {cx : Cx} {cf : CallFn} {base : Nat} {ops : Array Oper} {X : Nat → Po} {S : Nat → Sn}
variable {N : Nat} {st : St} {m0 : Pm} {w0 : World} {fuel : Nat} {listed : Array Bool} {m : Pm} {a : Act} {w : World}

theorem dstsB_mem : ∀ {l : List Oper}, dstsB N l = true → ∀ o ∈ l, ∀ d, o.dst = some d → d < N
  | [], _, o, ho => by cases ho
  | x :: l, h, o, ho => by
    obtain ⟨h1, h2⟩ := dstsB_cons h
    rcases List.mem_cons.1 ho with rfl | ho
    · exact h1
    · exact dstsB_mem h2 o ho

theorem forget_get : ∀ (l : List Oper) (tm : Tr Value) (t : Nat) (v : Value), (forget l tm).get t = some v → tm.get t = some v ∧ ∀ o ∈ l, o.dst ≠ some t
  | [], tm, t, v, h => ⟨h, fun o ho => by cases ho⟩
  | o :: l, tm, t, v, h => by
    simp only [forget] at h
    split at h
    · rename_i d hd
      obtain ⟨h1, h2⟩ := forget_get l _ t v h
      rw [Tr.get_set] at h1
      split at h1
      · cases h1
      · rename_i hne
        refine ⟨h1, fun x hx => ?_⟩
        rcases List.mem_cons.1 hx with rfl | hx
        · rw [hd]; intro e; cases e; exact hne rfl
        · exact h2 x hx
    · rename_i hd
      obtain ⟨h1, h2⟩ := forget_get l _ t v h
      refine ⟨h1, fun x hx => ?_⟩
      rcases List.mem_cons.1 hx with rfl | hx
      · rw [hd]; intro e; cases e
      · exact h2 x hx

/-- What is fixed while a statement is gone through. -/
structure Fx (cx : Cx) (cf : CallFn) (base : Nat) (ops : Array Oper) (X : Nat → Po) (S : Nat → Sn) (N : Nat) (st : St) : Prop where
  T : Tc cx cf base ops X S
  tm0 : (X 0).tm = st.tm
  h0 : ∀ x, base ≤ x → (X 0).h.get x = none
  nx0 : base + ops.size ≤ (X 0).h.nx
  nxs : st.h.nx = base
  dsts : dstsB N ops.toList = true
  big : (X ops.size).h.nx ≤ big

theorem Inv.step (O : Ok cx) (C : CallsOk cx cf) (K : KeepsF cf) (F : Fx cx cf base ops X S N st) {Q : Exit → Act → World → Prop}
    (hpan : ∀ p ws h1 c m' a' w' c', p < ops.size → (S p).kd = .pan ws h1 c → Fr N m' { st with tm := forget ops.toList st.tm, h := (X ops.size).h } a' w' → Stp m0 st.h w0 m' (X ops.size).h w' → Cs m' c c' → Q (.panic c') a' w')
    (I : Inv base ops X S N st m0 w0 (fuel + 1) listed m a w) {md : Region.Mode} {j : Nat} (hr : j ∈ Region.ready md ops listed) :
    wpOp cx.P ops Q j (fun a' w' => ∃ m', Inv base ops X S N st m0 w0 fuel (listed.setIfInBounds j true) m' a' w') a w := by
  have T := F.T
  obtain ⟨hj, hl, hmask⟩ := I.ready_mask T hr
  have hjs : j < listed.size := by rw [I.size]; exact hj
  have Sl := I.slots T F.tm0 hj hl hmask
  have KD := (T.kd hj).rst
  obtain ⟨q, H, M, SH, PH⟩ := I.mem
  have hL : ∀ i, (listed.setIfInBounds j true).getD i false = (decide (i = j) || listed.getD i false) := getD_set hjs
  have hdst : ∀ d, (S j).o.dst = some d → d < N := fun d hd => dstsB_mem F.dsts _ (by
    have := T.oper hj
    exact Array.mem_toList_iff.2 (Array.mem_of_getElem? this)) d hd
  have hHnx : H.nx ≤ Em.big := by
    rw [M.nx]
    exact Nat.le_trans (T.nx_mono K ops.size M.le (Nat.le_refl _)) F.big
  have hHlow : base + ops.size ≤ H.nx := by
    rw [M.nx]
    exact Nat.le_trans F.nx0 (T.nx_mono K q (by omega) M.le)
  have notl : ∀ k, k < ops.size → (S k).mask.testBit j = true → listed.getD k false = false := fun k hk hb => by
    cases h : listed.getD k false with
    | false => rfl
    | true => rw [I.closed k hk h j hb] at hl; cases hl
  unfold wpOp
  rw [T.oper hj]
  simp only
  -- an effect meets memory as it stands
  have atEff : isE (S j).kd = true → q ≤ j ∧ (X j).h = (X q).h ∧ ∀ i, i < ops.size → isE (S i).kd = true → ((listed.setIfInBounds j true).getD i false = true ↔ i < j + 1) := fun he => by
    have hqj : q ≤ j := by
      rcases Nat.lt_or_ge j q with h | h
      · have := (M.eff j hj he).2 h
        rw [hl] at this; cases this
      · exact h
    refine ⟨hqj, T.heap_same j hqj (by omega) fun k h1 h2 => ?_, fun i hi hie => ?_⟩
    · cases hk : isE (S k).kd with
      | false => rfl
      | true =>
        have := (M.eff k (by omega) hk).1 (hmask k (T.effs h2 hj hk he))
        omega
    · rw [hL, Bool.or_eq_true, decide_eq_true_eq]
      constructor
      · rintro (rfl | h)
        · omega
        · rcases Nat.lt_or_ge j i with hlt | hge
          · rw [notl i hi (T.effs hlt hi he hie)] at h; cases h
          · omega
      · intro h
        rcases Nat.lt_or_ge i j with hlt | hge
        · exact .inr (hmask i (T.effs hlt hj hie he))
        · exact .inl (by omega)
  have subHs : isE (S j).kd = true → ∀ x o, (release (S j).mask (X j).mks ⟨(X j).h.tr, (X j).h.nx, []⟩).get x = some o → H.get x = some o := fun he x o hx => by
    obtain ⟨hqj, hXh, _⟩ := atEff he
    rcases release_get (S j).mask (X j).mks ⟨(X j).h.tr, (X j).h.nx, []⟩ x with ⟨i, b, a1, a2, a3⟩ | ⟨_, a2⟩
    · obtain ⟨b1, ⟨v, b2⟩, b3⟩ := (T.mks j (by omega) i x b).1 a1
      rw [hx] at a3
      cases a3
      exact M.h2 i x o v (by omega) (hmask i a2) b2 fun e h1 h2 h3 => b3 e h1 (by omega) h3
    · rw [a2] at hx
      refine M.h1 x o ?_
      rw [← hXh]
      exact hx
  have hsnx : isE (S j).kd = true → H.nx = (release (S j).mask (X j).mks ⟨(X j).h.tr, (X j).h.nx, []⟩).nx := fun he => by
    rw [release_nx, M.nx, ← (atEff he).2.1]
  generalize hk : (S j).kd = kd at KD
  cases KD with
  | dead hd hb =>
    obtain ⟨h1, ws, h2, c, h3⟩ := T.alive j (by omega) _ hd
    exact absurd (by rw [h3]; rfl) (I.fine _ (by omega) (hmask _ hb))
  | no hnd hw =>
    rw [wantE_run Sl hw]
    simp only [Bool.false_eq_true, if_false]
    exact ⟨m, I.advance T hj hl hmask (by rw [hk]; rfl) (.refl _) (V.undef m) hdst ⟨q, H, M.keep hL (by rw [hk]; rfl) (by rw [hk]; simp), SH, PH⟩ fun _ _ _ h => h⟩
  | pur hnd hw hmk hef hod ho =>
    rw [wantE_run Sl hw]
    simp only [if_true]
    left
    have Sb : Sim m (bare Em.big) w := SH.sub (fun i o e => by cases e) hHnx
    obtain ⟨_, u, v', e, hrun, hV⟩ := opE_read O Sb Sl hmk hef hod ho
    cases e
    unfold Oper.wp
    rw [hrun]
    exact ⟨m, I.advance T hj hl hmask (by rw [hk]; rfl) (.refl _) hV hdst ⟨q, H, M.keep hL (by rw [hk]; rfl) (by rw [hk]; simp), SH, PH⟩ fun _ _ _ h => h⟩
  | lod hnd hw hmk hef hod ht hg ho =>
    rename_i t b v h1
    rw [wantE_run Sl hw]
    simp only [if_true]
    left
    have hag : AgreeO t ((X j).h.get t.n) ((X q).h.get t.n) := by
      rcases Nat.le_total j q with hjq | hqj
      · refine T.agree K q hjq M.le fun k h1 h2 h3 => ?_
        have hne : k ≠ j := fun e => by rw [e, hk] at h3; cases h3
        have hlk := (M.eff k (by have := M.le; omega) h3).2 h2
        have hm : (S k).mask.testBit j = false := by
          cases hb : (S k).mask.testBit j with
          | false => rfl
          | true => rw [notl k (by have := M.le; omega) hb] at hlk; cases hlk
        exact (T.lods (by omega) (by have := M.le; omega) hm).1 t v hk h3
      · refine (T.agree K j hqj (by omega) fun k h1 h2 h3 => ?_).symm
        have hm : (S j).mask.testBit k = false := by
          cases hb : (S j).mask.testBit k with
          | false => rfl
          | true =>
            have := (M.eff k (by omega) h3).1 (hmask k hb)
            omega
        exact (T.lods h2 hj hm).2 t v hk h3
    rw [hg] at hag
    have hex : ∃ b', (X q).h.get t.n = some b' := by
      rcases hag with h | ⟨_, _, _, _, _, _, _, _, _, h, _⟩
      · exact ⟨b, h.symm⟩
      · exact ⟨_, h⟩
    obtain ⟨b', hb'⟩ := hex
    rw [hb'] at hag
    obtain ⟨h2, ho'⟩ := lod_congr hmk hef hod ht ho hag
    have Sb : Sim m (only Em.big t.n b') w := SH.sub (fun i o e => by
      rw [only_get] at e
      split at e
      · rename_i hi
        cases e
        rw [hi]
        exact M.h1 _ _ hb'
      · cases e) hHnx
    obtain ⟨_, u, v', e, hrun, hV⟩ := opE_read O Sb Sl hmk hef hod ho'
    cases e
    unfold Oper.wp
    rw [hrun]
    exact ⟨m, I.advance T hj hl hmask (by rw [hk]; rfl) (.refl _) hV hdst ⟨q, H, M.keep hL (by rw [hk]; rfl) (by rw [hk]; simp), SH, PH⟩ fun _ _ _ h => h⟩
  | mak hnd hw hmk hb =>
    rename_i v b
    rw [wantE_run Sl hw]
    simp only [if_true]
    left
    have hm := I.unmade j hj hl
    obtain ⟨p, x, v', hrun, hp, hV, ho⟩ := makeE_run O Sl hb w hm
    unfold Oper.wp
    rw [hrun]
    have hlt : base + j < H.nx := by omega
    have hnone : H.get (base + j) = none := by
      cases h : H.get (base + j) with
      | none => rfl
      | some o =>
        obtain ⟨p', hp', _⟩ := SH.live _ _ h
        rw [hm] at hp'; cases hp'
    refine ⟨m.put (base + j) p, I.advance T hj hl hmask (by rw [hk]; rfl) (Pm.le_put hm) hV hdst ⟨q, H.put (base + j) (some b), ⟨M.le, fun i hi he => ?_, M.nx, fun y o hy => ?_, fun i y b' u hi h1 h2 h3 => ?_, fun y o hy => ?_⟩, SH.newAt hm hlt hp ho, ?_⟩ fun i hi hne h => ?_⟩
    · rw [hL]
      have : i ≠ j := fun e => by rw [e, hk] at he; cases he
      simpa [this] using M.eff i hi he
    · rw [Heap.get_put, if_neg]
      · exact M.h1 y o hy
      · intro e
        subst e
        rw [M.h1 _ _ hy] at hnone
        cases hnone
    · rw [Heap.get_put]
      by_cases hij : i = j
      · subst hij
        rw [hk] at h2
        cases h2
        rw [if_pos rfl]
      · have e := T.mak_id hi h2
        rw [if_neg (by omega)]
        rw [hL] at h1
        simp only [hij, decide_false, Bool.false_or] at h1
        exact M.h2 i y b' u hi h1 h2 h3
    · rw [Heap.get_put] at hy
      split at hy
      · rename_i e
        cases hy
        subst e
        refine .inr ⟨j, v, hj, by rw [hL]; simp, hk, fun e h1 h2 h3 => ?_⟩
        have hle := M.le
        have hle' := (M.eff e (by omega) h3).2 h2
        cases hb : (S e).mask.testBit j with
        | false => rfl
        | true => rw [notl e (by omega) hb] at hle'; cases hle'
      · rcases M.h3 y o hy with h | ⟨i, u, a1, a2, a3, a4⟩
        · exact .inl h
        · exact .inr ⟨i, u, a1, by rw [hL, a2, Bool.or_true], a3, a4⟩
    · refine ⟨PH.le.trans (Pm.le_put hm), fun i r hi e => PH.ids i r hi ?_, PH.nx, by have := PH.size; simp; omega, fun k hk' ⟨i, o, r, g1, g2, g3⟩ => ?_, fun k hk' hno => ?_, PH.tape, PH.os, PH.output⟩
      · unfold Pm.put at e
        have := F.nxs
        rwa [if_neg (by omega)] at e
      · rw [Heap.get_put] at g1
        split at g1
        · rename_i e
          subst e
          rw [put_self] at g2
          cases g2
          have := PH.size
          omega
        · rename_i e
          unfold Pm.put at g2
          rw [if_neg e] at g2
          exact PH.own k hk' ⟨i, o, r, g1, g2, g3⟩
      · rw [← PH.keep k hk' hno]
        show (w.heap.push x)[k]? = _
        have := PH.size
        rw [Array.getElem?_push, if_neg (by omega)]
    · unfold Pm.put
      rw [if_neg (by omega)]
      exact h
  | eff hdead hw hod ho =>
    rename_i v h1
    rw [wantE_run Sl hw]
    simp only [if_true]
    left
    have he : isE (S j).kd = true := by rw [hk]; rfl
    obtain ⟨hqj, hXh, heff⟩ := atEff he
    have hsub := subHs he
    have hnx := hsnx he
    have Shs := SH.sub hsub (Nat.le_of_eq hnx)
    have R := opE_run O C Shs Sl ho
    have hn1 := T.heap_next hj
    rw [hk] at hn1
    simp only at hn1
    refine (R.upon_val (Q := Q) fun m' w' v' k1 k2 k3 => ?_).1
    have hfr := SH.frame (H' := giveAll (asl S (fun i => (listed.setIfInBounds j true).getD i false) (j + 1) ops.size) (X (j + 1)).h) hsub k1 k2 (by rw [giveAll_nx, hn1]; exact Nat.le_refl _) (Nat.le_of_eq hnx) fun x o hx => by
      rcases giveAll_get (asl S (fun i => (listed.setIfInBounds j true).getD i false) (j + 1) ops.size) (X (j + 1)).h x with ⟨i, b, a1, a2⟩ | ⟨_, a2⟩
      · obtain ⟨b1, b2, ⟨u, b3⟩, b4⟩ := (mem_asl _ _ _ i x b).1 a1
        rw [hx] at a2
        cases a2
        have hij : i ≠ j := fun e => by rw [e, hk] at b3; cases b3
        rw [hL] at b2
        simp only [hij, decide_false, Bool.false_or] at b2
        have e := T.mak_id b1 b3
        subst e
        refine .inr ⟨?_, M.h2 i _ o u b1 b2 b3 fun e g1 g2 g3 => b4 e g1 (by omega) g3⟩
        rcases release_get (S j).mask (X j).mks ⟨(X j).h.tr, (X j).h.nx, []⟩ (base + i) with ⟨i', b', c1, c2, _⟩ | ⟨_, c2⟩
        · obtain ⟨d1, ⟨u', d2⟩, _⟩ := (T.mks j (by omega) i' (base + i) b').1 c1
          have e := T.mak_id (by omega) d2
          have : i' = i := by omega
          subst this
          rw [b4 j d1 (by omega) he] at c2
          cases c2
        · rw [c2]
          exact T.fresh K F.h0 F.nx0 j (by omega) i b1 fun e g1 g2 g3 => b4 e g1 (by omega) g3
      · rw [a2, hn1] at hx
        exact .inl hx
    refine ⟨m', I.advance T hj hl hmask (by rw [hk]; rfl) k2.le k3 hdst ⟨j + 1, _, mem_can T K F.h0 F.nx0 (by omega) heff, hfr.1, PH.trans hfr.2⟩ fun i hi hne h => ?_⟩
    cases hm' : m' (base + i) with
    | none => rfl
    | some p =>
      have := k2.ids (base + i) p (by rw [← hnx]; omega) hm'
      rw [h] at this
      cases this
  | pan hdead hw hod ho =>
    rename_i c h1
    rw [wantE_run Sl hw]
    simp only [if_true]
    left
    have he : isE (S j).kd = true := by rw [hk]; rfl
    obtain ⟨hqj, hXh, heff⟩ := atEff he
    have hsub := subHs he
    have hnx := hsnx he
    have Shs := SH.sub hsub (Nat.le_of_eq hnx)
    have R := opE_run O C Shs Sl ho
    have hn1 := T.heap_next hj
    rw [hk] at hn1
    simp only at hn1
    have hlast : (X ops.size).h = (X (j + 1)).h := T.heap_same ops.size (by omega) (Nat.le_refl _) fun k g1 g2 => T.pan_last hj hk (by omega) g2
    refine (R.upon_pan Shs (next := fun a' w' => ∃ m', Inv base ops X S N st m0 w0 fuel (listed.setIfInBounds j true) m' a' w') (Q := Q) fun m' w' c' k1 k2 k3 => ?_).1
    have hfr := SH.frame (H' := (X ops.size).h) hsub k1 k2 (by rw [hlast, hn1]; exact Nat.le_refl _) (Nat.le_of_eq hnx) fun x o hx => by
      rw [hlast, hn1] at hx
      exact .inl hx
    refine hpan j _ _ c m' a w' c' hj hk ⟨hfr.1, fun t v ht => ?_, I.ds.mono k2.le, I.tsize⟩ (PH.trans hfr.2) k3
    obtain ⟨g1, g2⟩ := forget_get _ _ _ _ ht
    refine (I.old t v (fun i hi _ => g2 _ ?_) g1).mono k2.le
    exact Array.mem_toList_iff.2 (Array.mem_of_getElem? (T.oper hi))

end
end Go.Em
