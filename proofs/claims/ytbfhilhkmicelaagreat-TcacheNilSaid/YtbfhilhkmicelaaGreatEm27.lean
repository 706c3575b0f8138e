/-
  A statement whose order is open: the whole.
-/
import Derived.Test.YtbfhilhkmicelaaGreatEm26
namespace Go.Em
section
variable {cx : Cx} {cf : CallFn} {base : Nat} {ops : Array Oper} {X : Nat → Po} {S : Nat → Sn}
variable {N : Nat} {st : St} {m0 : Pm} {w0 : World}

theorem Inv.all (O : Ok cx) (C : CallsOk cx cf) (K : KeepsF cf) (F : Fx cx cf base ops X S N st) (hdr : drainsB ops.toList = true) {Q : Exit → Act → World → Prop}
    (hpan : ∀ p ws h1 c m' a' w' c', p < ops.size → (S p).kd = .pan ws h1 c → Fr N m' { st with tm := forget ops.toList st.tm, h := (X ops.size).h } a' w' → Stp m0 st.h w0 m' (X ops.size).h w' → Cs m' c c' → Q (.panic c') a' w')
    (hfin : ∀ fuel listed m a w, (∀ k, k < ops.size → listed.getD k false = true) → Inv base ops X S N st m0 w0 fuel listed m a w → Q .normal a w) (md : Region.Mode) :
    ∀ (fuel : Nat) (listed : Array Bool) (m : Pm) (a : Act) (w : World), Inv base ops X S N st m0 w0 fuel listed m a w → wpAny cx.P md ops Q fuel listed a w := by
  intro fuel
  induction fuel with
  | zero =>
    intro listed m a w I
    have hall := unl_zero ops.size I.count
    refine ⟨?_, hfin _ _ m a w hall I⟩
    cases hr : Region.ready md ops listed with
    | nil => rfl
    | cons j l =>
      have hj : j ∈ Region.ready md ops listed := by rw [hr]; simp
      obtain ⟨h1, h2, _⟩ := I.ready_mask F.T hj
      rw [hall j h1] at h2
      cases h2
  | succ fuel ih =>
    intro listed m a w I
    refine ⟨fun hr => hfin _ _ m a w (drainsB_sound hdr md I.size hr) I, fun j hj => ?_⟩
    exact wpOp_mono (fun a' w' ⟨m', I'⟩ => ih _ m' a' w' I') (I.step O C K F hpan hj)

theorem Stp.sub {m m' : Pm} {h h1 h2 : Heap} {w w' : World} (P : Stp m h w m' h1 w') (hg : ∀ i o, h2.get i = some o → h1.get i = some o) (hn : h1.nx ≤ h2.nx) : Stp m h w m' h2 w' :=
  ⟨P.le, P.ids, Nat.le_trans P.nx hn, P.size, fun b hb ⟨i, o, p, a1, a2, a3⟩ => P.own b hb ⟨i, o, p, hg i o a1, a2, a3⟩, P.keep, P.tape, P.os, P.output⟩

/-- Every order of an open statement. -/
theorem drawE_ok (O : Ok cx) (C : CallsOk cx cf) (K : KeepsF cf) : DrawOk cx cf := by
  intro N ops st ex st' hd hN hdr
  unfold drawE at hd
  split at hd
  · cases hd
  · rename_i tr tm h mks htr
    obtain ⟨X, S, hX, hA, e1, e2, e3, e4⟩ := traceE_spec cx cf st.h.nx ops.toList ops.toList 0 ⟨.nil, none, st.tm, ⟨st.h.tr, st.h.nx + ops.toList.length, st.h.dt⟩, []⟩ [] tr tm h mks htr
    simp only [Nat.zero_add, List.append_nil, Array.length_toList] at hX hA e1 e2 e3 e4
    split at hd
    · cases hd
    · cases hd
    · rename_i hok hbig
      rw [e4] at hok hd
      have T : Tc cx cf st.h.nx ops X S := ⟨fun k hk => by
          obtain ⟨o, ho, A⟩ := hA k hk
          exact ⟨o, by simpa using ho, A⟩, fun i j h1 h2 => traceOk_spec ops.toList S ops.size (by simpa using hok) i j h1 h2, by rw [hX], by rw [hX], by rw [hX]⟩
      have hu : st'.u = st.u := by
        split at hd <;> cases hd <;> rfl
      refine ⟨hu, fun m a w F Q hQ t => ?_⟩
      have hbig := Nat.le_of_ble_eq_true hbig
      rw [← e2] at hbig
      have Fx0 : Fx cx cf st.h.nx ops X S N st := ⟨T, by rw [hX], fun x hx => by
          rw [hX]
          show st.h.get x = none
          cases hg : st.h.get x with
          | none => rfl
          | some o => have := F.sim.get_lt hg; omega, by rw [hX]; simp, rfl, hN, hbig⟩
      have hp := panOf_spec S ops.size
      have main : ∀ md, wpAny cx.P md ops Q ops.size (Array.replicate ops.size false) a { w with drawn := w.drawn + 1 } := fun md => by
        refine Inv.all (m0 := m) (w0 := { w with drawn := w.drawn + 1 }) O C K Fx0 hdr ?_ ?_ md ops.size _ m a _ ?_
        · intro p ws h1 c m' a' w' c' hpn hk hF hS hc
          split at hd
          · rename_i hnone
            exact absurd hk (hp.1 hnone p hpn ws h1 c)
          · rename_i chain hsome
            cases hd
            obtain ⟨k, hkn, ws', h1', hk'⟩ := hp.2 chain hsome
            have hpk : p = k := by
              rcases Nat.lt_trichotomy p k with hlt | h | hgt
              · have := T.pan_last hpn hk hlt hkn
                rw [hk'] at this; cases this
              · exact h
              · have := T.pan_last hkn hk' hgt hpn
                rw [hk] at this; cases this
            subst hpk
            rw [hk] at hk'
            cases hk'
            rw [← e2] at hQ
            exact hQ m' _ a' w' hF hS.draw (.pan hc)
        · intro fuel listed m' a' w' hall I
          split at hd
          · cases hd
            obtain ⟨q, H, M, SH, PH⟩ := I.mem
            have hqn : (X ops.size).h = (X q).h := T.heap_same ops.size M.le (Nat.le_refl _) fun k h1 h2 => by
              cases he : isE (S k).kd with
              | false => rfl
              | true =>
                have := (M.eff k h2 he).1 (hall k h2)
                omega
            have hsub : ∀ x o, (giveAll mks h).get x = some o → H.get x = some o := fun x o hx => by
              rw [← e2, ← e3] at hx
              rcases giveAll_get (X ops.size).mks (X ops.size).h x with ⟨i, b, a1, a2⟩ | ⟨_, a2⟩
              · obtain ⟨b1, ⟨v, b2⟩, b3⟩ := (T.mks ops.size (Nat.le_refl _) i x b).1 a1
                rw [hx] at a2
                cases a2
                exact M.h2 i x o v b1 (hall i b1) b2 fun e g1 g2 g3 => b3 e g1 (by have := M.le; omega) g3
              · rw [a2, hqn] at hx
                exact M.h1 x o hx
            have hnx : H.nx = (giveAll mks h).nx := by rw [giveAll_nx, ← e2, hqn, M.nx]
            refine hQ m' _ a' w' ⟨SH.sub hsub (Nat.le_of_eq hnx), fun t v ht => ?_, I.ds, I.tsize⟩ (PH.sub hsub (Nat.le_of_eq hnx)).draw .normal
            have ht : (X ops.size).tm.get t = some v := by rw [e1]; exact ht
            by_cases he : ∃ i, i < ops.size ∧ (S i).o.dst = some t
            · obtain ⟨i, hi, hd⟩ := he
              cases ho : outV (S i).kd with
              | none => exact absurd ho (I.fine i hi (hall i hi))
              | some u =>
                rw [T.slot_new hd ho ops.size hi (Nat.le_refl _)] at ht
                cases ht
                exact I.new i hi (hall i hi) t v hd ho
            · have hno : ∀ i, i < ops.size → (S i).o.dst ≠ some t := fun i hi hd => he ⟨i, hi, hd⟩
              rw [T.slot_old ops.size (Nat.le_refl _) t hno, hX] at ht
              exact I.old t v (fun i hi _ => hno i hi) ht
          · rename_i chain hsome
            obtain ⟨k, hkn, ws', h1', hk'⟩ := hp.2 chain hsome
            exact absurd (by rw [hk']; rfl) (I.fine k hkn (hall k hkn))
        · have none : ∀ k, (Array.replicate ops.size false).getD k false = false := fun k => by
            rcases Nat.lt_or_ge k ops.size with h | h <;> simp [h]
          have S0 : Sim m st.h { w with drawn := w.drawn + 1 } := F.sim.drew
          refine ⟨by simp, unl_new _ _, fun i _ h => ?_, fun i _ h => ?_, fun i _ h => ?_, fun t v _ ht => F.tm t v ht, ⟨0, (X 0).h, ⟨by omega, fun i _ _ => ?_, rfl, fun _ _ h => h, fun i x b v _ h => ?_, fun x o h => .inl h⟩, ?_, ?_⟩, fun i _ _ => F.sim.fresh _ (by omega), F.ds, F.size⟩
          · rw [none] at h; cases h
          · rw [none] at h; cases h
          · rw [none] at h; cases h
          · constructor
            · intro h; rw [none] at h; cases h
            · intro h; omega
          · rw [none] at h; cases h
          · rw [hX]
            exact S0.sub (fun i o h => h) (Nat.le_add_right _ _)
          · rw [hX]
            exact (Stp.refl m st.h _).sub (fun i o h => h) (Nat.le_add_right _ _)
      unfold Region.schedule
      split
      · exact wpAny_sound _ _ _ _ _ (main .any)
      · unfold Region.linearise
        split
        · exact wpAny_sound _ _ _ _ _ (main .text)
        · exact wpAny_sound _ _ _ _ _ (main .gc)

end
end Go.Em
