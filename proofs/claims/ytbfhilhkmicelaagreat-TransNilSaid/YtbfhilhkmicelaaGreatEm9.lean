/-
  copy, what is cut, converted, put together; addresses; numbers.
-/
import Derived.Test.YtbfhilhkmicelaaGreatEm8
namespace Go.Em
section
variable {cx : Cx}

theorem copyE_run (O : Ok cx) {m : Pm} {h h' : Heap} {w : World} (S : Sim m h w) {ts : Array Nat} {dt : Nat} {i j : Ty} {e : Nat} {base : Option Addr} {dl dc n : Nat} {x d' x' : Value} {cs : List Value} (hts : ts[0]? = some dt) (hi : cx.ty dt = some i)
    (hd : i.d = .slice e) (hj : cx.ty e = some j) (hD : V m (.slice base dl dc) d') (hx : V m x x') (hn : lenE x = some n) (hf : firstE h j.size (Nat.min n dl) x = some cs)
    (hs : (match base with
      | some a => storeN h a cs
      | none => some h) = some h') (ty : Nat) :
    ∃ w', (Builtin.copy_ ts ty #[d', x']).run cx.P w = .ok (.int .i64 (Nat.min n dl)) w' ∧ Sim m h' w' ∧ Stp m h w m h' w' := by
  have hu := O.run_under hi w
  rw [hd] at hu
  have e0 : ∀ a b : Value, (#[a, b] : Array Value)[0]? = some a := fun _ _ => rfl
  have e1 : ∀ a b : Value, (#[a, b] : Array Value)[1]? = some b := fun _ _ => rfl
  obtain ⟨l', h1, h2⟩ := firstE_run (P := cx.P) S hx hf
  cases base with
  | none =>
    cases hs
    obtain rfl := flat_inv rfl hD
    refine ⟨w, ?_, S, .refl _ _ _⟩
    simp only [Builtin.copy_, hts, e0, e1, Sem.run_bind, hu, Result.andThen_ok, lenE_run hx hn, O.run_size hj, h1, Sem.run_pure, goInt]
  | some a =>
    obtain ⟨p, hp, hsp, w', h3, h4, h5⟩ := storeN_run (P := cx.P) S h2 hs
    obtain ⟨q, hq, _, h6⟩ := slice_some hD
    rw [hp] at hq; cases hq
    refine ⟨w', ?_, h4, h5⟩
    rcases h6 with ⟨_, rfl⟩ | ⟨_, _, rfl⟩ <;>
      simp only [Builtin.copy_, hts, e0, e1, Sem.run_bind, hu, Result.andThen_ok, lenE_run hx hn, O.run_size hj, h1, h3, Sem.run_pure, goInt]

theorem boundE_run {P : Program} {m : Pm} {w : World} {x x' : Value} {k n : Nat} (hx : V m x x') (h : boundE x k = some n) (code : BoundsCode) : (Instr.sliceBound x' k code).run P w = .ok n w ∧ n ≤ k := by
  unfold boundE at h
  split at h
  · rename_i kk i
    obtain rfl := int_inv hx
    split at h
    · rename_i h1 h2
      cases h
      have h1' : 0 ≤ i := by simpa using h1
      have h2' := Nat.le_of_ble_eq_true h2
      have h3 : i ≤ (k : Int) := by omega
      exact ⟨by simp [Instr.sliceBound, asIntOf, h1', h3], h2'⟩
    · cases h
  · cases h

/-- A bound that is given or not. -/
inductive Vo (m : Pm) : Option Value → Option Value → Prop
  | none : Vo m none none
  | some {v v' : Value} : V m v v' → Vo m (some v) (some v')

theorem Vo.isSome {m : Pm} {o o' : Option Value} (h : Vo m o o') : o'.isSome = o.isSome := by cases h <;> rfl

theorem sliceBounds_run {P : Program} {m : Pm} {w : World} {lo hi mx lo' hi' mx' : Option Value} (hlo : Vo m lo lo') (hhi : Vo m hi hi') (hmx : Vo m mx mx') {len cap M H L : Nat} (h1 : boundO mx cap cap = some M)
    (h2 : boundO hi len M = some H) (h3 : boundO lo 0 H = some L) (h4 : (mx.isSome && hi.isNone) = false) (b : Bool) : (Instr.sliceBounds b len cap lo' hi' mx').run P w = .ok (L, H, M) w := by
  cases hmx with
  | none =>
    cases h1
    cases hhi with
    | none =>
      cases h2
      cases hlo with
      | none => cases h3; simp [Instr.sliceBounds]
      | some hv =>
        have := (boundE_run (P := P) (w := w) hv h3 .sliceB).1
        simp [Instr.sliceBounds, this]
    | some hv =>
      have g2 := fun c => (boundE_run (P := P) (w := w) hv h2 c).1
      cases hlo with
      | none => cases h3; simp [Instr.sliceBounds, g2]
      | some hv' =>
        have := (boundE_run (P := P) (w := w) hv' h3 .sliceB).1
        simp [Instr.sliceBounds, g2, this]
  | some hm =>
    have g1 := fun c => (boundE_run (P := P) (w := w) hm h1 c).1
    cases hhi with
    | none => simp at h4
    | some hv =>
      have g2 := fun c => (boundE_run (P := P) (w := w) hv h2 c).1
      cases hlo with
      | none => cases h3; simp [Instr.sliceBounds, g1, g2]
      | some hv' =>
        have g3 := fun c => (boundE_run (P := P) (w := w) hv' h3 c).1
        simp [Instr.sliceBounds, g1, g2, g3]

theorem beq_unk {n : Nat} (h : Nat.beq n unk = false) : n ≠ unk := fun e => by rw [e, Nat.beq_refl] at h; cases h

theorem beq_ne {a b : Nat} (h : a ≠ b) : Nat.beq a b = false := by
  cases hb : Nat.beq a b with
  | false => rfl
  | true => exact absurd (Nat.eq_of_beq_eq_true hb) h

theorem addOff_none {a : Addr} (n : Nat) (h : a.spot = none) : (addOff a n).spot = none ∧ (addOff a n).block = a.block ∧ (addOff a n).off = a.off + n := ⟨h, rfl, rfl⟩

theorem sliceE_run (O : Ok cx) {m : Pm} {h : Heap} {w : World} (S : Sim m h w) {t : Nat} {x x' v : Value} {lo hi mx lo' hi' mx' : Option Value} (hx : V m x x') (hlo : Vo m lo lo') (hhi : Vo m hi hi') (hmx : Vo m mx mx')
    (hs : sliceE cx h t x lo hi mx = some v) : Rd cx (Instr.sliceAt t x' lo' hi' mx') w m v := by
  unfold sliceE at hs
  split at hs
  · cases hs
  · rename_i i hi0
    have hu := O.run_under hi0 w
    generalize i.d = dd at hs hu
    split at hs
    · -- an array's address
      rename_i n e a
      split at hs
      · rename_i j hsp hj
        split at hs
        · rename_i H h2
          split at hs
          · rename_i L h3
            split at hs
            · cases hs
            · rename_i hcu
              cases hs
              cases hmx
              obtain ⟨p, hp, _, rfl⟩ := ptr_inv hx
              have hb := sliceBounds_run (P := cx.P) (w := w) (mx := none) (M := n) hlo hhi .none (len := n) (cap := n) rfl h2 h3 rfl false
              refine ⟨_, by simp only [Instr.sliceAt, Sem.run_bind, hu, Result.andThen_ok, Instr.sureAddr, Sem.run_pure, hb, O.run_size hj]; rfl, ?_⟩
              by_cases hnl : n = L
              · subst hnl
                simp only [Nat.beq_refl, if_true]
                exact .sl' hsp hp (beq_unk hcu)
              · rw [if_neg hnl, beq_ne hnl, addr_add]
                have := V.sl' (m := m) (a := addOff a (L * j.size)) (p := p) (n := H - L) (c := n - L) hsp hp (beq_unk hcu)
                simpa [addOff, Nat.add_assoc] using this
          · cases hs
        · cases hs
      · cases hs
    · rename_i e b len cap
      split at hs
      · -- a known capacity
        rename_i j hj hcap
        have hcap' := beq_unk hcap
        split at hs
        · rename_i M h1
          split at hs
          · rename_i H h2
            split at hs
            · rename_i L h3 h4
              split at hs
              · cases hs
              · rename_i hcu
                cases hs
                have hb := sliceBounds_run (P := cx.P) (w := w) hlo hhi hmx (len := len) (cap := cap) h1 h2 h3 h4 true
                cases b with
                | none =>
                  obtain rfl := flat_inv rfl hx
                  refine ⟨_, by simp only [Instr.sliceAt, Instr.slice, Sem.run_bind, hu, Result.andThen_ok, Sem.run_pure, hb, O.run_size hj]; rfl, ?_⟩
                  by_cases hml : M = L
                  · subst hml
                    simp only [Nat.beq_refl, if_true]
                    exact .flat rfl
                  · rw [if_neg hml, beq_ne hml]
                    exact .flat rfl
                | some a =>
                  obtain ⟨p, hp, hsp, hc⟩ := slice_some hx
                  rcases hc with ⟨_, rfl⟩ | ⟨e0, _⟩
                  · refine ⟨_, by simp only [Instr.sliceAt, Instr.slice, Sem.run_bind, hu, Result.andThen_ok, Sem.run_pure, hb, O.run_size hj]; rfl, ?_⟩
                    by_cases hml : M = L
                    · subst hml
                      simp only [Nat.beq_refl, if_true]
                      exact .sl' hsp hp (beq_unk hcu)
                    · rw [if_neg hml, beq_ne hml]
                      simp only [Option.map_some, addr_add]
                      have := V.sl' (m := m) (a := addOff a (L * j.size)) (p := p) (n := H - L) (c := M - L) hsp hp (beq_unk hcu)
                      simpa [addOff, Nat.add_assoc] using this
                  · exact absurd e0 hcap'
            · cases hs
          · cases hs
        · cases hs
      · -- a capacity that is not known
        rename_i j hj hcap
        have hcap' : cap = unk := Nat.eq_of_beq_eq_true hcap
        subst hcap'
        split at hs
        · rename_i a
          cases hmx
          obtain ⟨p, hp, hsp, hc⟩ := slice_some hx
          rcases hc with ⟨e0, _⟩ | ⟨_, hesz, rfl⟩
          · exact absurd rfl e0
          · split at hs
            · rename_i size bs tr el esz ro hg _
              obtain ⟨p', hp', hr⟩ := S.live _ _ hg
              rw [hp] at hp'; cases hp'
              obtain ⟨c, ce, fz, k1, k2, k3, k4, k5, k6⟩ := hr
              split at hs
              · rename_i H h2 hes hez hle
                have hle' := Nat.le_of_ble_eq_true hle
                have hes' := Nat.eq_of_beq_eq_true hes
                have hez' : esz ≠ 0 := fun e0 => by rw [e0] at hez; cases hez
                have hpe := k3 hez'
                split at hs
                · rename_i L h3
                  have hpos : 0 < p.esz := by omega
                  have hlen : len ≤ (p.lim - a.off) / p.esz := by
                    rw [Nat.le_div_iff_mul_le hpos, hpe]
                    omega
                  have h2' : boundO hi len ((p.lim - a.off) / p.esz) = some H := by
                    cases hi with
                    | none => exact h2
                    | some v =>
                      cases v with
                      | int kk z =>
                        simp only [boundO, boundE] at h2 ⊢
                        split at h2
                        · rename_i q1 q2
                          cases h2
                          rw [q1, Nat.ble_eq_true_of_le (Nat.le_trans (Nat.le_of_ble_eq_true q2) hlen)]
                        · cases h2
                      | _ => cases h2
                  have hb := sliceBounds_run (P := cx.P) (w := w) (mx := none) (M := (p.lim - a.off) / p.esz) hlo hhi .none (len := len) (cap := (p.lim - a.off) / p.esz) rfl h2' h3 rfl true
                  refine ⟨_, by simp only [Instr.sliceAt, Instr.slice, Sem.run_bind, hu, Result.andThen_ok, Sem.run_pure, hb, O.run_size hj]; rfl, ?_⟩
                  split at hs
                  · rename_i hl0
                    have hl0' : L = 0 := Nat.eq_of_beq_eq_true hl0
                    cases hs
                    subst hl0'
                    have e2 : (if (p.lim - a.off) / p.esz = 0 then (some ⟨p.blk, p.base + a.off, none⟩ : Option Addr) else Option.map (fun x : Addr => x.add (0 * j.size)) (some ⟨p.blk, p.base + a.off, none⟩)) = some ⟨p.blk, p.base + a.off, none⟩ := by
                      split
                      · rfl
                      · simp [Addr.add]
                    rw [e2, Nat.sub_zero, Nat.sub_zero]
                    exact .slu' hsp hp hesz
                  · rename_i hl0 hll
                    have hll' : L < len := by
                      have := Nat.le_of_ble_eq_true hll
                      exact this
                    cases hs
                    rw [if_neg (by omega)]
                    simp only [Option.map_some, addr_add]
                    have := V.slu' (m := m) (a := addOff a (L * j.size)) (p := p) (n := H - L) hsp hp hesz
                    have hc : (p.lim - (addOff a (L * j.size)).off) / p.esz = (p.lim - a.off) / p.esz - L := by
                      rw [← Nat.sub_mul_div, hpe, hes']
                      simp only [addOff]
                      rw [Nat.sub_sub, Nat.mul_comm]
                    rw [hc] at this
                    simpa [addOff, Nat.add_assoc] using this
                  · cases hs
                · cases hs
              · cases hs
            · cases hs
        · cases hs
      · cases hs
    · cases hs

end
end Go.Em
