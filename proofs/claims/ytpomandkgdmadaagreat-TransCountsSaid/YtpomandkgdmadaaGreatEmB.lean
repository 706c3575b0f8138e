/-
  copy, what is cut, converted, put together; addresses; numbers.
-/
import Derived.Test.YtpomandkgdmadaaGreatEmA
import Derived.Laws.Tables
import Derived.Laws.MakeOwn
import Derived.Great.BuildSlice
import Derived.Laws.StructEq
import Derived.Orders
import Derived.Recover
import Derived.Scope
namespace Go.Em
section
variable {cx : Cx}

theorem copyE_run (O : Ok cx) {m : Pm} {h h' : Heap} {w : World} (S : Sim m h w) {ts : Array Nat} {dt : Nat} {i j : Ty} {e : Nat} {base : Option Addr} {dl dc n : Nat} {x d' x' : Value} {cs : List Value} (hts : ts[0]? = some dt) (hi : cx.ty dt = some i)
    (hd : i.d = .slice e) (hj : cx.ty e = some j) (hD : V m (.slice base dl dc) d') (hx : V m x x') (hn : lenE x = some n) (hf : firstE h j.size (Nat.min n dl) x = some cs)
    (hs : (match base with
      | some a => storeN h a cs
      | none => some h) = some h') (ty : Nat) :
    ∃ w', (Builtin.copy_ ts ty #[d', x']).run cx.P w = .ok (.int .i64 (Nat.min n dl)) w' ∧ Sim m h' w' ∧ Stp m h w m h' w' := by
  have hu := O.run_under hi w
  rw [hd] at hu
  have e0 : ∀ a b : Value, (#[a, b] : Array Value)[0]? = some a := fun _ _ => rfl
  have e1 : ∀ a b : Value, (#[a, b] : Array Value)[1]? = some b := fun _ _ => rfl
  obtain ⟨l', h1, h2⟩ := firstE_run (P := cx.P) S hx hf
  cases base with
  | none =>
    cases hs
    obtain rfl := flat_inv rfl hD
    refine ⟨w, ?_, S, .refl _ _ _⟩
    simp only [Builtin.copy_, hts, e0, e1, Sem.run_bind, hu, Result.andThen_ok, lenE_run hx hn, O.run_size hj, h1, Sem.run_pure, goInt]
  | some a =>
    obtain ⟨p, hp, hsp, w', h3, h4, h5⟩ := storeN_run (P := cx.P) S h2 hs
    obtain ⟨q, hq, _, h6⟩ := slice_some hD
    rw [hp] at hq; cases hq
    refine ⟨w', ?_, h4, h5⟩
    rcases h6 with ⟨_, rfl⟩ | ⟨_, _, rfl⟩ <;>
      simp only [Builtin.copy_, hts, e0, e1, Sem.run_bind, hu, Result.andThen_ok, lenE_run hx hn, O.run_size hj, h1, h3, Sem.run_pure, goInt]

theorem boundE_run {P : Program} {m : Pm} {w : World} {x x' : Value} {k n : Nat} (hx : V m x x') (h : boundE x k = some n) (code : BoundsCode) : (Instr.sliceBound x' k code).run P w = .ok n w ∧ n ≤ k := by
  unfold boundE at h
  split at h
  · rename_i kk i
    obtain rfl := int_inv hx
    split at h
    · rename_i h1 h2
      cases h
      have h1' : 0 ≤ i := by simpa using h1
      have h2' := Nat.le_of_ble_eq_true h2
      have h3 : i ≤ (k : Int) := by omega
      exact ⟨by simp [Instr.sliceBound, asIntOf, h1', h3], h2'⟩
    · cases h
  · cases h

/-- A bound that is given or not. -/
inductive Vo (m : Pm) : Option Value → Option Value → Prop
  | none : Vo m none none
  | some {v v' : Value} : V m v v' → Vo m (some v) (some v')

theorem Vo.isSome {m : Pm} {o o' : Option Value} (h : Vo m o o') : o'.isSome = o.isSome := by cases h <;> rfl

theorem sliceBounds_run {P : Program} {m : Pm} {w : World} {lo hi mx lo' hi' mx' : Option Value} (hlo : Vo m lo lo') (hhi : Vo m hi hi') (hmx : Vo m mx mx') {len cap M H L : Nat} (h1 : boundO mx cap cap = some M)
    (h2 : boundO hi len M = some H) (h3 : boundO lo 0 H = some L) (h4 : (mx.isSome && hi.isNone) = false) (b : Bool) : (Instr.sliceBounds b len cap lo' hi' mx').run P w = .ok (L, H, M) w := by
  cases hmx with
  | none =>
    cases h1
    cases hhi with
    | none =>
      cases h2
      cases hlo with
      | none => cases h3; simp [Instr.sliceBounds]
      | some hv =>
        have := (boundE_run (P := P) (w := w) hv h3 .sliceB).1
        simp [Instr.sliceBounds, this]
    | some hv =>
      have g2 := fun c => (boundE_run (P := P) (w := w) hv h2 c).1
      cases hlo with
      | none => cases h3; simp [Instr.sliceBounds, g2]
      | some hv' =>
        have := (boundE_run (P := P) (w := w) hv' h3 .sliceB).1
        simp [Instr.sliceBounds, g2, this]
  | some hm =>
    have g1 := fun c => (boundE_run (P := P) (w := w) hm h1 c).1
    cases hhi with
    | none => simp at h4
    | some hv =>
      have g2 := fun c => (boundE_run (P := P) (w := w) hv h2 c).1
      cases hlo with
      | none => cases h3; simp [Instr.sliceBounds, g1, g2]
      | some hv' =>
        have g3 := fun c => (boundE_run (P := P) (w := w) hv' h3 c).1
        simp [Instr.sliceBounds, g1, g2, g3]

theorem beq_unk {n : Nat} (h : Nat.beq n unk = false) : n ≠ unk := fun e => by rw [e, Nat.beq_refl] at h; cases h

theorem beq_ne {a b : Nat} (h : a ≠ b) : Nat.beq a b = false := by
  cases hb : Nat.beq a b with
  | false => rfl
  | true => exact absurd (Nat.eq_of_beq_eq_true hb) h

theorem addOff_none {a : Addr} (n : Nat) (h : a.spot = none) : (addOff a n).spot = none ∧ (addOff a n).block = a.block ∧ (addOff a n).off = a.off + n := ⟨h, rfl, rfl⟩

theorem sliceE_run (O : Ok cx) {m : Pm} {h : Heap} {w : World} (S : Sim m h w) {t : Nat} {x x' v : Value} {lo hi mx lo' hi' mx' : Option Value} (hx : V m x x') (hlo : Vo m lo lo') (hhi : Vo m hi hi') (hmx : Vo m mx mx')
    (hs : sliceE cx h t x lo hi mx = some v) : Rd cx (Instr.sliceAt t x' lo' hi' mx') w m v := by
  unfold sliceE at hs
  split at hs
  · cases hs
  · rename_i i hi0
    have hu := O.run_under hi0 w
    generalize i.d = dd at hs hu
    split at hs
    · -- an array's address
      rename_i n e a
      split at hs
      · rename_i j hsp hj
        split at hs
        · rename_i H h2
          split at hs
          · rename_i L h3
            split at hs
            · cases hs
            · rename_i hcu
              cases hs
              cases hmx
              obtain ⟨p, hp, _, rfl⟩ := ptr_inv hx
              have hb := sliceBounds_run (P := cx.P) (w := w) (mx := none) (M := n) hlo hhi .none (len := n) (cap := n) rfl h2 h3 rfl false
              refine ⟨_, by simp only [Instr.sliceAt, Sem.run_bind, hu, Result.andThen_ok, Instr.sureAddr, Sem.run_pure, hb, O.run_size hj]; rfl, ?_⟩
              by_cases hnl : n = L
              · subst hnl
                simp only [Nat.beq_refl, if_true]
                exact .sl' hsp hp (beq_unk hcu)
              · rw [if_neg hnl, beq_ne hnl, addr_add]
                have := V.sl' (m := m) (a := addOff a (L * j.size)) (p := p) (n := H - L) (c := n - L) hsp hp (beq_unk hcu)
                simpa [addOff, Nat.add_assoc] using this
          · cases hs
        · cases hs
      · cases hs
    · rename_i e b len cap
      split at hs
      · -- a known capacity
        rename_i j hj hcap
        have hcap' := beq_unk hcap
        split at hs
        · rename_i M h1
          split at hs
          · rename_i H h2
            split at hs
            · rename_i L h3 h4
              split at hs
              · cases hs
              · rename_i hcu
                cases hs
                have hb := sliceBounds_run (P := cx.P) (w := w) hlo hhi hmx (len := len) (cap := cap) h1 h2 h3 h4 true
                cases b with
                | none =>
                  obtain rfl := flat_inv rfl hx
                  refine ⟨_, by simp only [Instr.sliceAt, Instr.slice, Sem.run_bind, hu, Result.andThen_ok, Sem.run_pure, hb, O.run_size hj]; rfl, ?_⟩
                  by_cases hml : M = L
                  · subst hml
                    simp only [Nat.beq_refl, if_true]
                    exact .flat rfl
                  · rw [if_neg hml, beq_ne hml]
                    exact .flat rfl
                | some a =>
                  obtain ⟨p, hp, hsp, hc⟩ := slice_some hx
                  rcases hc with ⟨_, rfl⟩ | ⟨e0, _⟩
                  · refine ⟨_, by simp only [Instr.sliceAt, Instr.slice, Sem.run_bind, hu, Result.andThen_ok, Sem.run_pure, hb, O.run_size hj]; rfl, ?_⟩
                    by_cases hml : M = L
                    · subst hml
                      simp only [Nat.beq_refl, if_true]
                      exact .sl' hsp hp (beq_unk hcu)
                    · rw [if_neg hml, beq_ne hml]
                      simp only [Option.map_some, addr_add]
                      have := V.sl' (m := m) (a := addOff a (L * j.size)) (p := p) (n := H - L) (c := M - L) hsp hp (beq_unk hcu)
                      simpa [addOff, Nat.add_assoc] using this
                  · exact absurd e0 hcap'
            · cases hs
          · cases hs
        · cases hs
      · -- a capacity that is not known
        rename_i j hj hcap
        have hcap' : cap = unk := Nat.eq_of_beq_eq_true hcap
        subst hcap'
        split at hs
        · rename_i a
          cases hmx
          obtain ⟨p, hp, hsp, hc⟩ := slice_some hx
          rcases hc with ⟨e0, _⟩ | ⟨_, hesz, rfl⟩
          · exact absurd rfl e0
          · split at hs
            · rename_i size bs tr el esz ro hg _
              obtain ⟨p', hp', hr⟩ := S.live _ _ hg
              rw [hp] at hp'; cases hp'
              obtain ⟨c, ce, fz, k1, k2, k3, k4, k5, k6⟩ := hr
              split at hs
              · rename_i H h2 hes hez hle
                have hle' := Nat.le_of_ble_eq_true hle
                have hes' := Nat.eq_of_beq_eq_true hes
                have hez' : esz ≠ 0 := fun e0 => by rw [e0] at hez; cases hez
                have hpe := k3 hez'
                split at hs
                · rename_i L h3
                  have hpos : 0 < p.esz := by omega
                  have hlen : len ≤ (p.lim - a.off) / p.esz := by
                    rw [Nat.le_div_iff_mul_le hpos, hpe]
                    omega
                  have h2' : boundO hi len ((p.lim - a.off) / p.esz) = some H := by
                    cases hi with
                    | none => exact h2
                    | some v =>
                      cases v with
                      | int kk z =>
                        simp only [boundO, boundE] at h2 ⊢
                        split at h2
                        · rename_i q1 q2
                          cases h2
                          rw [q1, Nat.ble_eq_true_of_le (Nat.le_trans (Nat.le_of_ble_eq_true q2) hlen)]
                        · cases h2
                      | _ => cases h2
                  have hb := sliceBounds_run (P := cx.P) (w := w) (mx := none) (M := (p.lim - a.off) / p.esz) hlo hhi .none (len := len) (cap := (p.lim - a.off) / p.esz) rfl h2' h3 rfl true
                  refine ⟨_, by simp only [Instr.sliceAt, Instr.slice, Sem.run_bind, hu, Result.andThen_ok, Sem.run_pure, hb, O.run_size hj]; rfl, ?_⟩
                  split at hs
                  · rename_i hl0
                    have hl0' : L = 0 := Nat.eq_of_beq_eq_true hl0
                    cases hs
                    subst hl0'
                    have e2 : (if (p.lim - a.off) / p.esz = 0 then (some ⟨p.blk, p.base + a.off, none⟩ : Option Addr) else Option.map (fun x : Addr => x.add (0 * j.size)) (some ⟨p.blk, p.base + a.off, none⟩)) = some ⟨p.blk, p.base + a.off, none⟩ := by
                      split
                      · rfl
                      · simp [Addr.add]
                    rw [e2, Nat.sub_zero, Nat.sub_zero]
                    exact .slu' hsp hp hesz
                  · rename_i hl0 hll
                    have hll' : L < len := by
                      have := Nat.le_of_ble_eq_true hll
                      exact this
                    cases hs
                    rw [if_neg (by omega)]
                    simp only [Option.map_some, addr_add]
                    have := V.slu' (m := m) (a := addOff a (L * j.size)) (p := p) (n := H - L) hsp hp hesz
                    have hc : (p.lim - (addOff a (L * j.size)).off) / p.esz = (p.lim - a.off) / p.esz - L := by
                      rw [← Nat.sub_mul_div, hpe, hes']
                      simp only [addOff]
                      rw [Nat.sub_sub, Nat.mul_comm]
                    rw [hc] at this
                    simpa [addOff, Nat.add_assoc] using this
                  · cases hs
                · cases hs
              · cases hs
            · cases hs
        · cases hs
      · cases hs
    · cases hs

end
end Go.Em

namespace Go.Em
section
variable {cx : Cx}

theorem strOf_run {P : Program} {m : Pm} {w : World} : ∀ (l : List Value) (l' : List Value) (acc bs : List UInt8), Vs m l l' → strOf l acc = some bs →
    (forIn l' (⟨acc.reverse.toArray⟩ : ByteArray) fun c s => (match c with
      | .int .u8 n => pure (ForInStep.yield (s.push (UInt8.ofNat n.toNat)))
      | _ => do
        stuck "bytesToString: byte expected"
        pure (ForInStep.yield s) : Sem (ForInStep ByteArray))).run P w = .ok ⟨bs.toArray⟩ w
  | [], _, acc, bs, hv, h => by
    cases hv
    simp only [strOf] at h
    cases h
    rfl
  | v :: l, _, acc, bs, hv, h => by
    cases hv with
    | cons h1 h2 =>
      cases v with
      | int k n =>
        cases k <;> simp only [strOf] at h <;> try (cases h; done)
        obtain rfl := int_inv h1
        have := strOf_run (P := P) (w := w) l _ (UInt8.ofNat n.toNat :: acc) bs h2 h
        simp only [List.forIn_cons, Sem.run_bind, Sem.run_pure, Result.andThen_ok]
        have e : (⟨acc.reverse.toArray⟩ : ByteArray).push (UInt8.ofNat n.toNat) = ⟨(UInt8.ofNat n.toNat :: acc).reverse.toArray⟩ := by
          simp [ByteArray.push]
        rw [e]
        exact this
      | _ => simp only [strOf] at h; cases h

theorem convertE_run (O : Ok cx) {m : Pm} {h : Heap} {w : World} (S : Sim m h w) {s d : Nat} {x x' v : Value} (hx : V m x x') (hc : convertE cx h s d x = some v) :
    (convert s d x').run cx.P w = .ok v w ∧ flat v = true := by
  unfold convertE at hc
  split at hc
  · rename_i si di hsi hdi
    have hu := O.run_under hsi w
    have hu2 := O.run_under hdi w
    generalize si.d = sd at hc hu
    generalize di.d = dd at hc hu2
    split at hc
    · cases hc
      obtain rfl := int_inv hx
      exact ⟨by simp only [convert, Sem.run_bind, hu, hu2, Result.andThen_ok, Conv.intToInt, Sem.run_pure], rfl⟩
    · split at hc
      · rename_i ei he
        have hu3 := O.run_under he w
        split at hc
        · rename_i hd
          cases hc
          rw [hd] at hu3
          obtain rfl := flat_inv rfl hx
          exact ⟨by simp only [convert, Sem.run_bind, hu, hu2, hu3, Result.andThen_ok, Conv.bytesToString, Sem.run_pure], rfl⟩
        · cases hc
      · cases hc
    · split at hc
      · rename_i ei he
        have hu3 := O.run_under he w
        split at hc
        · rename_i hd
          rw [hd] at hu3
          split at hc
          · rename_i l hl
            split at hc
            · rename_i bs hbs
              cases hc
              obtain ⟨p, hp, hsp, l', h1, h2⟩ := loadN_run (P := cx.P) S hl
              obtain ⟨q, hq, _, h6⟩ := slice_some hx
              rw [hp] at hq; cases hq
              have h3 := strOf_run (P := cx.P) (w := w) l l'.toList [] bs h2 hbs
              refine ⟨?_, rfl⟩
              rcases h6 with ⟨_, rfl⟩ | ⟨_, _, rfl⟩ <;>
                (simp only [convert, Sem.run_bind, hu, hu2, hu3, Result.andThen_ok, Conv.bytesToString, h1]
                 rw [← Array.forIn_toList]
                 refine (congrArg (fun r => Result.andThen r _) (show _ = _ from h3)).trans ?_
                 rfl)
            · cases hc
          · cases hc
        · cases hc
      · cases hc
    · cases hc
  · cases hc

/-- Lists of parts: how `fill` lays them. -/
theorem put_length : ∀ (zs : List Value) (off : Nat) (vs : List Value), (fillE.put zs off vs).length = zs.length
  | [], _, [] => rfl
  | [], _, _ :: _ => rfl
  | _ :: _, _, [] => by simp [fillE.put]
  | _ :: zs, 0, v :: vs => by simp [fillE.put, put_length zs 0 vs]
  | _ :: zs, n + 1, v :: vs => by simp [fillE.put, put_length zs n (v :: vs)]

theorem put_get : ∀ (zs : List Value) (off : Nat) (vs : List Value) (k : Nat), off + vs.length ≤ zs.length → (fillE.put zs off vs)[k]? = if off ≤ k ∧ k < off + vs.length then vs[k - off]? else zs[k]?
  | zs, off, [], k, _ => by
    rw [if_neg (by simp)]
    cases zs <;> simp [fillE.put]
  | [], off, v :: vs, k, h => by simp at h
  | z :: zs, 0, v :: vs, k, h => by
    cases k with
    | zero => simp [fillE.put]
    | succ k =>
      simp only [fillE.put, List.getElem?_cons_succ]
      rw [put_get zs 0 vs k (by simp at h; omega)]
      simp only [List.length_cons]
      by_cases hk : 0 ≤ k ∧ k < 0 + vs.length
      · rw [if_pos hk, if_pos (by omega)]; simp
      · rw [if_neg hk, if_neg (by omega)]
  | z :: zs, n + 1, v :: vs, k, h => by
    cases k with
    | zero => simp [fillE.put]
    | succ k =>
      simp only [fillE.put, List.getElem?_cons_succ]
      rw [put_get zs n (v :: vs) k (by simp at h ⊢; omega)]
      by_cases hk : n ≤ k ∧ k < n + (v :: vs).length
      · rw [if_pos hk, if_pos (by omega), show k + 1 - (n + 1) = k - n from by omega]
      · rw [if_neg hk, if_neg (by omega)]

theorem foldl_set_get (off : Nat) : ∀ (vs : List Value) (s : Nat) (cs : Array Value), (∀ k, ((vs.zipIdx s).foldl (fun (cs : Array Value) (x : Value × Nat) => cs.setIfInBounds (off + x.2) x.1) cs)[k]? =
    if off + s ≤ k ∧ k < off + s + vs.length ∧ k < cs.size then vs[k - (off + s)]? else cs[k]?) ∧ ((vs.zipIdx s).foldl (fun (cs : Array Value) (x : Value × Nat) => cs.setIfInBounds (off + x.2) x.1) cs).size = cs.size
  | [], s, cs => by simp; intro k h1 h2; omega
  | v :: vs, s, cs => by
    simp only [List.zipIdx_cons, List.foldl_cons]
    obtain ⟨h1, h2⟩ := foldl_set_get off vs (s + 1) (cs.setIfInBounds (off + s) v)
    refine ⟨fun k => ?_, by rw [h2]; simp⟩
    rw [h1 k]
    simp only [Array.size_setIfInBounds, List.length_cons]
    by_cases hk : k = off + s
    · subst hk
      rw [if_neg (by omega)]
      by_cases hlt : off + s < cs.size
      · rw [if_pos (by omega)]; simp [hlt]
      · rw [if_neg (by omega)]; simp [hlt]
    · by_cases hk2 : off + (s + 1) ≤ k ∧ k < off + (s + 1) + vs.length ∧ k < cs.size
      · rw [if_pos hk2, if_pos (by omega), show k - (off + s) = (k - (off + (s + 1))) + 1 from by omega]; simp
      · rw [if_neg hk2, if_neg (by omega)]
        rw [Array.getElem?_setIfInBounds_ne (Ne.symm hk)]

/-- What `fill` makes of a list of parts. -/
theorem fill_run {m : Pm} {place : Nat → Option (Nat × Nat)} {n : Nat} : ∀ (ps ps' : List (Nat × Value)) (zs : List Value) (zs' : Array Value) (l : List (Nat × List Value)), Ps m ps ps' → Vs m zs zs'.toList → zs.length = n →
    placesE place n ps = some l → ∃ c : Array Value, Instr.fill place zs' ps' = some c ∧ Vs m (fillE zs l) c.toList ∧ c.size = n
  | [], _, zs, zs', l, hp, hz, hn, h => by
    cases hp; cases h
    refine ⟨zs', rfl, hz, ?_⟩
    have := hz.length
    simp at this
    omega
  | (i, v) :: ps, _, zs, zs', l, hp, hz, hn, h => by
    cases hp with
    | cons hv hps =>
      rename_i v' ps'
      simp only [placesE] at h
      split at h
      · rename_i off size hpl
        split at h
        · rename_i r h1 h2 h3
          cases h
          have h1' := Nat.eq_of_beq_eq_true h1
          have h2' := Nat.le_of_ble_eq_true h2
          have hvc := hv.cells
          have hl := hvc.length
          have hzl := hz.length
          simp only [Array.length_toList] at hl hzl
          obtain ⟨g1, g2⟩ := foldl_set_get off v'.cells.toList 0 zs'
          have key : Vs m (fillE.put zs off v.cells.toList) ((v'.cells.toList.zipIdx 0).foldl (fun (cs : Array Value) (x : Value × Nat) => cs.setIfInBounds (off + x.2) x.1) zs').toList := by
            refine Vs.of_get (by rw [put_length]; simp [g2]; omega) fun k hk => ?_
            rw [put_length] at hk
            rw [List.getD_eq_getElem?_getD, List.getD_eq_getElem?_getD, put_get _ _ _ _ (by simp only [Array.length_toList]; omega)]
            simp only [Array.getElem?_toList, g1 k, Array.length_toList, Nat.add_zero]
            by_cases hin : off ≤ k ∧ k < off + v.cells.size
            · rw [if_pos hin, if_pos (by omega)]
              have := hvc.getD (k - off) (by simp only [Array.length_toList]; omega)
              simpa only [List.getD_eq_getElem?_getD, Array.getElem?_toList] using this
            · rw [if_neg hin, if_neg (by omega)]
              have := hz.getD k hk
              simpa only [List.getD_eq_getElem?_getD, Array.getElem?_toList] using this
          obtain ⟨c, k1, k2, k3⟩ := fill_run ps ps' _ _ r hps key (by rw [put_length]; exact hn) h3
          refine ⟨c, ?_, k2, k3⟩
          simp only [Instr.fill, hpl]
          rw [if_neg (by
            have a1 : v'.cells.size = size := by omega
            have a2 : ¬ zs'.size < off + v'.cells.size := by omega
            simp [a1] at a2 ⊢
            omega)]
          have e : v'.cells.zipIdx.foldl (fun cs (x : Value × Nat) => cs.setIfInBounds (off + x.2) x.1) zs' = (v'.cells.toList.zipIdx 0).foldl (fun (cs : Array Value) (x : Value × Nat) => cs.setIfInBounds (off + x.2) x.1) zs' := by
            rw [← Array.foldl_toList, Array.toList_zipIdx]
          rw [← k1, ← e]
        · cases h
      · cases h

theorem fieldAt_eq (fs : List Field) : ∀ (i : Nat), fieldAt fs i = fs[i]? := by
  induction fs with
  | nil => intro i; simp [fieldAt]
  | cons f fs ih =>
    intro i
    cases i with
    | zero => simp [fieldAt]
    | succ i => simpa [fieldAt] using ih i

end
end Go.Em

namespace Go.Em
section
variable {cx : Cx}

theorem Ps.nil_inv {m : Pm} {l : List (Nat × Value)} (h : Ps m [] l) : l = [] := by cases h; rfl

theorem fill_conv {f g : Nat → Option (Nat × Nat)} (hfg : ∀ k r, f k = some r → g k = some r) : ∀ (l : List (Nat × Value)) (c d : Array Value), Instr.fill f c l = some d → Instr.fill g c l = some d
  | [], c, d, h => h
  | (i, v) :: l, c, d, h => by
    simp only [Instr.fill] at h ⊢
    cases hf : f i with
    | none => rw [hf] at h; cases h
    | some r =>
      rw [hf] at h
      rw [hfg i r hf]
      simp only at h ⊢
      split at h
      · cases h
      · rename_i hn
        rw [if_neg hn]
        exact fill_conv hfg l _ d h

theorem places_some {P : Program} : ∀ (fs : List Field), (∀ f ∈ fs, (P.info? f.type).isSome = true) → ∃ ps : List (Nat × Nat), fs.mapM (fun (f : Field) => (P.info? f.type).map fun i => (f.offset, i.size)) = some ps ∧
    ∀ (k : Nat) (f : Field), fs[k]? = some f → ∃ i, P.info? f.type = some i ∧ ps[k]? = some (f.offset, i.size)
  | [], _ => ⟨[], rfl, fun k f h => by simp at h⟩
  | f :: fs, h => by
    obtain ⟨i, hi⟩ := Option.isSome_iff_exists.1 (h f (by simp))
    obtain ⟨ps, h1, h2⟩ := places_some fs fun f hf => h f (by simp [hf])
    refine ⟨(f.offset, i.size) :: ps, by simp [hi, h1], fun k g hg => ?_⟩
    cases k with
    | zero => simp at hg; subst hg; exact ⟨i, hi, rfl⟩
    | succ k => simpa using h2 k g (by simpa using hg)

theorem buildE_run (O : Ok cx) {m : Pm} {t : Nat} {ps : List (Nat × Value)} {ps' : Array (Nat × Value)} {v : Value} (hp : Ps m ps ps'.toList) (h : buildE cx t ps = some v) (w : World) :
    ∃ v', (Instr.build t ps').run cx.P w = .ok v' w ∧ V m v v' := by
  unfold buildE at h
  split at h
  · cases h
  · rename_i i hi
    obtain ⟨x, hx, hxs, _, hxz⟩ := O.info t i hi
    have hu := O.under t i hi
    have hz := O.zero t i hi
    have hzs := O.zsize t i hi
    have hzv : Vs m i.zero.cells.toList i.zero.cells.toList := Vs.of_flat hz.1
    split at h
    · rename_i fs hd
      rw [hd] at hu
      obtain ⟨pl, hpl, hpk⟩ := places_some (P := cx.P) fs.toList (O.fields t i fs hi hd)
      have key : ∀ (c : Array Value), Instr.fill (pl.toArray[·]?) i.zero.cells ps'.toList = some c → cx.P.built t ps'.toList = some c := fun c hc => by
        simp only [Program.built, hx, hu, hxz, hpl, hc]
      split at h
      · cases h
        have e := hp.nil_inv
        refine ⟨.agg i.zero.cells, run_build w t _ _ (key _ (by rw [e]; rfl)), agg_iff.2 hzv⟩
      · split at h
        · rename_i l hl
          cases h
          have hconv : ∀ (k : Nat) (r : Nat × Nat), (match fieldAt fs.toList k with
              | some f => match cx.ty f.type with
                | some j => some (f.offset, j.size)
                | none => none
              | none => none) = some r → pl.toArray[k]? = some r := fun k r hr => by
            rw [fieldAt_eq] at hr
            split at hr
            · rename_i f hf
              split at hr
              · rename_i j hj
                cases hr
                obtain ⟨y, hy, hk⟩ := hpk k f hf
                obtain ⟨y', hy', hs, _⟩ := O.info _ _ hj
                rw [hy] at hy'; cases hy'
                rw [← hs]
                simpa using hk
              · cases hr
            · cases hr
          obtain ⟨c, h1, h2, _⟩ := fill_run (place := fun k => match fieldAt fs.toList k with
              | some f => match cx.ty f.type with
                | some j => some (f.offset, j.size)
                | none => none
              | none => none) _ _ _ i.zero.cells l hp hzv (by simp) hl
          refine ⟨.agg c, run_build w t _ _ (key _ (fill_conv hconv _ _ _ h1)), agg_iff.2 (by simpa using h2)⟩
        · cases h
    · rename_i n e hd
      rw [hd] at hu
      split at h
      · rename_i j hj
        obtain ⟨y, hy, hys, _⟩ := O.info e j hj
        split at h
        · cases h
          have e1 := hp.nil_inv
          refine ⟨.agg i.zero.cells, run_build w t _ _ ?_, agg_iff.2 hzv⟩
          simp only [Program.built, hx, hu, hxz, hy, hys, e1, Instr.fill]
        · split at h
          · rename_i l hl
            cases h
            obtain ⟨c, h1, h2, _⟩ := fill_run _ _ _ i.zero.cells l hp hzv (by simp) hl
            refine ⟨.agg c, run_build w t _ _ ?_, agg_iff.2 (by simpa using h2)⟩
            simp only [Program.built, hx, hu, hxz, hy, hys, h1]
          · cases h
      · cases h
    · cases h

/-- A row made of a list is what the model's new block holds. -/
theorem mkRow_obj {m' : Pm} {w : World} {p : Pl} {n elem esz e : Nat} {cs : List Value} {c : Array Value} (hn : cs.length = n) (hc : Vs m' cs (c.toList.take n)) (hs : n ≤ c.size) (hb : p.blk = w.heap.size) (h0 : p.base = 0)
    (hl : p.lim = c.size) (he : esz ≠ 0 → p.esz = esz) : ObjR m' p (w.alloc (.cells c e (0, 0))) (mkRow cs n elem esz) := by
  obtain ⟨base, hr, hbs⟩ := mkRow_spec cs n elem esz hn
  rw [hr]
  refine ⟨c, e, (0, 0), ?_, fun _ => rfl, he, by omega, by omega, fun i hi => ?_⟩
  · show (w.heap.push _)[p.blk]? = _
    rw [hb]; simp
  · rw [rowAt_nil, hbs i hi]
    obtain ⟨v', h1, h2⟩ := hc.get i (cs[i]'(by omega)) (by simp)
    rw [lget_eq]
    refine ⟨v', ?_, by simpa [show i < cs.length by omega] using h2⟩
    rw [List.getElem?_take_of_lt hi] at h1
    rw [h0]
    simpa using h1

theorem Vs.take_self {m : Pm} {l : List Value} {c : Array Value} (h : Vs m l c.toList) : Vs m l (c.toList.take l.length) := by
  rw [← h.length, List.take_length]
  exact h

theorem mkRow_obj' {m' : Pm} {w : World} {p : Pl} {n elem e : Nat} {cs : List Value} {c : Array Value} (hn : cs.length = n) (hc : Vs m' cs c.toList) (hb : p = ⟨w.heap.size, 0, c.size, 1⟩) : ObjR m' p (w.alloc (.cells c e (0, 0))) (mkRow cs n elem 0) := by
  subst hb
  have := hc.length
  simp only [Array.length_toList] at this
  exact mkRow_obj hn (hn ▸ hc.take_self) (by omega) rfl rfl rfl (fun h => absurd rfl h)

theorem madeCells_get (z : Array Value) (n i : Nat) (hi : i < n) : (madeCells z n)[i]? = some (z.getD (i % z.size) undef) ∨ z.size = 0 := by
  rcases Nat.eq_zero_or_pos z.size with e | e
  · exact .inr e
  · left
    have := Nat.mod_lt i e
    simp [madeCells, hi, this]

theorem lmod_eq (zs : List Value) (i : Nat) : lmod zs i = zs.getD (i % zs.length) undef := lget_eq _ _

theorem row_flat {m : Pm} {z : Value} {size n : Nat} (hz : ∀ v ∈ z.cells.toList, flat v = true) (hzs : z.cells.size = size) (hs : size ≠ 0) (i : Nat) (hi : i < n) :
    ∃ v', (madeCells z.cells n)[i]? = some v' ∧ V m (rowAt (match z.cells.toList with
      | [x] => fun _ => x
      | zs => lmod zs) .nil i) v' := by
  have hpos : 0 < z.cells.size := by omega
  have hlt := Nat.mod_lt i hpos
  refine ⟨z.cells[i % z.cells.size], by simp [madeCells, hi, hlt], ?_⟩
  rw [rowAt_nil]
  have hf : flat z.cells[i % z.cells.size] = true := hz _ (by simp)
  have e : (match z.cells.toList with
      | [x] => fun _ => x
      | zs => lmod zs) i = z.cells[i % z.cells.size] := by
    have key : ∀ l : List Value, l = z.cells.toList → (match l with
      | [x] => fun _ => x
      | zs => lmod zs) i = z.cells[i % z.cells.size] := fun l hl => by
      split
      · rename_i x
        have h1 : z.cells = #[x] := by rw [← Array.toList_inj, ← hl]
        simp [h1]
      · rw [lmod_eq, hl]
        simp [hlt]
    exact key _ rfl
  rw [e]
  exact .flat hf

theorem run_buildSlice0 {P : Program} (w : World) (t e : TypeId) (len : Nat) (parts : Array (Nat × Value)) (cells : Array Value) (ie : TypeInfo) (z : Value)
    (hu : P.underlying t = some (.slice e)) (hie : P.info? e = some ie) (h0 : len * ie.size = 0)
    (h : Instr.fill (fun i => some (i * ie.size, ie.size)) (madeCells z.cells (len * ie.size)) parts.toList = some cells) :
    (Instr.buildSlice t len parts).run P w = .ok (.slice (some ⟨w.heap.size, 0, none⟩) len len) (w.alloc (.cells cells e)) := by
  have e0 : ∀ f : Nat → Value, (Array.range 0).map f = #[] := fun f => by simp
  unfold madeCells at h
  rw [h0, e0] at h
  simp only [Instr.buildSlice, Sem.run_bind, run_underlying hu, sizeOf, typeInfo, run_program, hie, Result.andThen_ok, Sem.run_pure, h0, if_true, gt_iff_lt, Nat.not_lt_zero, if_false, e0, h, newRow, run_newObj_alloc]

set_option maxHeartbeats 2000000 in
/-- A block is made. -/
theorem makeE_run (O : Ok cx) {m : Pm} {tm : Tr Value} {a : Act} (T : Tm m tm a.tmps) {o : Oper} {hh : Heap} {v : Value} {b : Obj} (h : makeE cx tm hh o.op = some (v, b)) (w : World) (hm : m hh.nx = none) :
    ∃ (p : Pl) (x : Go.Obj) (v' : Value), (execOp a.eval o).run cx.P w = .ok (.value v') (w.alloc x) ∧ p.blk = w.heap.size ∧ V (m.put hh.nx p) v v' ∧ ObjR (m.put hh.nx p) p (w.alloc x) b := by
  have hput : ∀ p : Pl, (m.put hh.nx p) hh.nx = some p := fun p => put_self
  have hle : ∀ p : Pl, m.Le (m.put hh.nx p) := fun p => Pm.le_put hm
  unfold makeE at h
  split at h
  · -- alloc
    rename_i t ho
    split at h
    · rename_i i hi
      cases h
      obtain ⟨hz, _⟩ := O.zero t i hi
      refine ⟨⟨w.heap.size, 0, i.zero.cells.size, 1⟩, .cells i.zero.cells t (0, 0), .pointer (some ⟨w.heap.size, 0, none⟩), ?_, rfl, .ptr (hput _), mkRow_obj' (by simp) (Vs.of_flat hz) rfl⟩
      simp only [execOp, ho, Instr.alloc, Sem.run_bind, O.run_zero hi, Result.andThen_ok, newVar, newRow, run_newObj_alloc, Sem.run_pure]
    · cases h
  · -- box
    rename_i t x ho
    split at h
    · rename_i u hu
      cases h
      have hV := ev_V T hu
      refine ⟨⟨w.heap.size, 0, (a.eval x).cells.size, 1⟩, .cells (a.eval x).cells t (0, 0), .pointer (some ⟨w.heap.size, 0, none⟩), ?_, rfl, .ptr (hput _), mkRow_obj' (by simp) (hV.cells.mono (hle _)) rfl⟩
      simp only [execOp, ho, Instr.box, Sem.run_bind, Result.andThen_ok, newVar, newRow, run_newObj_alloc, Sem.run_pure]
    · cases h
  · -- buildSlice
    rename_i t n ps ho
    split at h
    · rename_i l hl
      have hP := evParts_V T hl
      unfold buildSliceE at h
      split at h
      · cases h
      · rename_i i hi
        have hu := O.under t i hi
        split at h
        · rename_i e hd
          rw [hd] at hu
          split at h
          · rename_i j hj
            split at h
            · rename_i r h1 h2 h3 h4
              cases h
              have h1 := Nat.le_of_ble_eq_true h1
              have h3 := Nat.eq_of_beq_eq_true h3
              have h2 : j.size ≠ 0 := fun e => by rw [e] at h2; cases h2
              obtain ⟨y, hy, hys, _, hyz⟩ := O.info e j hj
              obtain ⟨hz, _⟩ := O.zero e j hj
              have hrep : Vs m (repl j.zero.cells.toList n) (madeCells j.zero.cells (n * j.size)).toList := by
                have e1 := zeroCells_repl j.zero.cells n
                have e2 : Builtin.zeroCells j.zero.cells n = madeCells j.zero.cells (n * j.size) := by
                  simp [Builtin.zeroCells, madeCells, h3]
                rw [← e2, e1]
                exact Vs.repl hz n
              have hlen : (repl j.zero.cells.toList n).length = n * j.size := by rw [repl_length]; simp [h3]
              obtain ⟨c, k1, k2, k3⟩ := fill_run (place := fun k => some (k * j.size, j.size)) _ (ps.map fun (i, x) => (i, a.eval x)).toList _ (madeCells j.zero.cells (n * j.size)) r (by simpa using hP) hrep hlen h4
              have k4 : c.size = n * j.size := k3
              have k5 := k2.length
              simp only [Array.length_toList] at k5
              refine ⟨⟨w.heap.size, 0, c.size, 1⟩, .cells c e (0, 0), .slice (some ⟨w.heap.size, 0, none⟩) n n, ?_, rfl, .sl (hput _) ?_, mkRow_obj' (by omega) (k2.mono (hle _)) rfl⟩
              · have hrun : (Instr.buildSlice t n (ps.map fun (i, x) => (i, a.eval x))).run cx.P w = .ok (.slice (some ⟨w.heap.size, 0, none⟩) n n) (w.alloc (.cells c e (0, 0))) := by
                  rw [← hys] at k1 h1
                  by_cases h0 : n * y.size = 0
                  · exact run_buildSlice0 w t e n _ c y j.zero hu hy h0 k1
                  · exact run_buildSlice (P := cx.P) w t e n _ c y j.zero hu hy hyz (by omega) h0 k1
                simp only [execOp, ho, Sem.run_bind, hrun, Result.andThen_ok, Sem.run_pure]
              · have : n ≤ n * j.size := Nat.le_mul_of_pos_right n (by omega)
                unfold unk; omega
            · cases h
          · cases h
        · cases h
    · cases h
  · -- makeMap
    rename_i t ho
    cases h
    refine ⟨⟨w.heap.size, 0, 0, 0⟩, .map #[] 0, .map (some w.heap.size), ?_, rfl, .map (hput _), #[], ?_, .nil⟩
    · simp only [execOp, ho, Instr.makeMap, Option.map_none, Sem.run_bind, Result.andThen_ok, run_newObj_alloc, Sem.run_pure]
    · show (w.heap.push _)[w.heap.size]? = _
      simp
  · -- makeMap with a size
    rename_i t r ho
    split at h
    · rename_i i k n hi hr
      split at h
      · rename_i kt et hd
        cases h
        have hu := O.run_under hi
        rw [hd] at hu
        have e := int_inv (ev_V T hr)
        refine ⟨⟨w.heap.size, 0, 0, 0⟩, .map #[] 0, .map (some w.heap.size), ?_, rfl, .map (hput _), #[], ?_, .nil⟩
        · simp only [execOp, ho, Instr.makeMap, Option.map_some, Sem.run_bind, hu, e, asInt, asIntOf, Result.andThen_ok, run_newObj_alloc, Sem.run_pure]
        · show (w.heap.push _)[w.heap.size]? = _
          simp
      · cases h
    · cases h
  · -- makeChan
    rename_i t s ho
    split at h
    · rename_i i k n hi hr
      split at h
      · rename_i dir e hd
        split at h
        · rename_i j hj h1 h2
          split at h
          · rename_i h3
            cases h
            have h1 : 0 ≤ n := of_decide_eq_true h1
            have h2 : n ≤ 65536 := of_decide_eq_true h2
            have h3 := Nat.le_of_ble_eq_true h3
            obtain ⟨y, hy, hyb⟩ := O.run_info hj
            have hu := O.run_under hi
            rw [hd] at hu
            have e := int_inv (ev_V T hr)
            have hmul : (y.bytes : Int) * n ≤ 65536 * 65536 := by
              rw [hyb]
              exact Int.mul_le_mul (by omega) h2 h1 (by omega)
            have hmax : IntKind.i64.max = 9223372036854775807 := rfl
            have hno : ¬ (n < 0 ∨ n > IntKind.i64.max ∨ (y.bytes : Int) * n > 2 ^ 48 - 112) := by
              rw [hmax]; omega
            refine ⟨⟨w.heap.size, 0, 0, 0⟩, .chan n.toNat #[] false 0 0 false, .chan (some w.heap.size), ?_, rfl, .chan (hput _), #[], 0, 0, ?_, .nil⟩
            · simp only [execOp, ho, Instr.makeChan, Sem.run_bind, hu, e, asInt, asIntOf, Result.andThen_ok, hy, if_neg hno, run_newObj_alloc, Sem.run_pure]
            · show (w.heap.push _)[w.heap.size]? = _
              simp
          · cases h
        · cases h
      · cases h
    · cases h
  · -- makeSlice
    rename_i t l c ho
    split at h
    · rename_i lv cv hl hc
      unfold makeSliceE at h
      split at h
      · rename_i i k1 n1 k2 n2 hi
        split at h
        · rename_i e hd
          split at h
          · rename_i j hj
            split at h
            · rename_i g1 g2 g3 g4 g5 g6
              cases h
              have g1 : 0 ≤ n1 := of_decide_eq_true g1
              have g2 : n1 ≤ n2 := of_decide_eq_true g2
              have g3 : n2 ≤ 4294967296 := of_decide_eq_true g3
              have g4 := Nat.le_of_ble_eq_true g4
              have g6 := Nat.eq_of_beq_eq_true g6
              have g5 : j.size ≠ 0 := fun e => by rw [e] at g5; cases g5
              obtain ⟨y, hy, hys, hyb, hyz⟩ := O.info e j hj
              obtain ⟨hz, _⟩ := O.zero e j hj
              have hu := O.under t i hi
              rw [hd] at hu
              have e1 := int_inv (ev_V T hl)
              have e2 := int_inv (ev_V T hc)
              have hb : (y.bytes : Int) * n2 ≤ 281474976710656 := by
                have : ((n2.toNat * j.bytes : Nat) : Int) = (y.bytes : Int) * n2 := by
                  rw [Int.natCast_mul, hyb, Int.toNat_of_nonneg (by omega), Int.mul_comm]
                omega
              have hrun := run_make (P := cx.P) w t e y j.zero hu hy hyz k1 k2 n1 n2 g1 g2 hb (by omega)
              rw [hys] at hrun
              refine ⟨⟨w.heap.size, 0, n2.toNat * j.size, 1⟩, .cells (madeCells j.zero.cells (n2.toNat * j.size)) e (0, 0), .slice (some ⟨w.heap.size, 0, none⟩) n1.toNat n2.toNat, ?_, rfl, .sl (hput _) ?_, ?_⟩
              · simp only [execOp, ho, Sem.run_bind, e1, e2, hrun, Result.andThen_ok, Sem.run_pure]
              · unfold unk; omega
              · refine ⟨madeCells j.zero.cells (n2.toNat * j.size), e, (0, 0), ?_, fun _ => rfl, fun h => absurd rfl h, Nat.le_refl _, by simp [size_madeCells], fun q hq => ?_⟩
                · show (w.heap.push _)[w.heap.size]? = _
                  simp
                · rw [Nat.zero_add]
                  exact row_flat hz g6 g5 q hq
            · cases h
          · cases h
        · cases h
      · cases h
    · cases h
  · cases h

end
end Go.Em

namespace Go.Em
section
variable {cx : Cx}

theorem fieldAddrE_run (O : Ok cx) {m : Pm} {t f : Nat} {x x' v : Value} (hx : V m x x') (h : fieldAddrE cx t x f = some v) (w : World) : Rd cx (Instr.fieldAt t x' f) w m v := by
  unfold fieldAddrE at h
  split at h
  · rename_i i a hi
    have hu := O.run_under hi w
    split at h
    · rename_i fs hd
      rw [hd] at hu
      split at h
      · rename_i g hg
        rw [fieldAt_eq] at hg
        have hg' : fs[f]? = some g := by simpa using hg
        split at h
        · rename_i j hj
          have hs := O.run_size hj w
          obtain ⟨p, hp, hsp, rfl⟩ := ptr_inv hx
          split at h
          · cases h
          · rename_i hne
            have hne' : ¬ j.size = 0 := fun e => by rw [e] at hne; cases hne
            have hrun : (Instr.fieldAt t (.pointer (some ⟨p.blk, p.base + a.off, none⟩)) f).run cx.P w = .ok (.pointer (some ⟨p.blk, p.base + a.off + g.offset, none⟩)) w := by
              simp [Instr.fieldAt, hu, hg', Instr.sureAddr, fieldPlace, hs, hne', addr_add]
            refine ⟨_, hrun, ?_⟩
            rw [Nat.add_assoc]
            split at h
            · rename_i h0
              have h0 := Nat.eq_of_beq_eq_true h0
              cases h
              obtain ⟨ab, ao, as⟩ := a
              simp only at hsp; subst hsp
              rw [h0]
              exact .ptr hp
            · cases h
              exact .ptr hp
        · cases h
      · cases h
    · cases h
  · cases h

theorem fieldE_run (O : Ok cx) {m : Pm} {t f : Nat} {x x' v : Value} (hx : V m x x') (h : fieldE cx t x f = some v) (w : World) : Rd cx (Instr.field t x' f) w m v := by
  unfold fieldE at h
  split at h
  · rename_i i cs hi
    have hu := O.run_under hi w
    split at h
    · rename_i fs hd
      rw [hd] at hu
      split at h
      · rename_i g hg
        rw [fieldAt_eq] at hg
        have hg' : fs[f]? = some g := by simpa using hg
        split at h
        · rename_i j hj
          obtain ⟨cs', rfl, hcs⟩ := agg_inv hx
          obtain ⟨v', hr, hV⟩ := part_run O hj hcs h w
          refine ⟨v', ?_, hV⟩
          simp [Instr.field, hu, hg', asAgg, hr]
        · cases h
      · cases h
    · cases h
  · cases h

theorem place_V {m : Pm} {p : Pl} {a : Addr} {n : Nat} {v : Value} (hp : m a.block = some p) (hsp : a.spot = none) (h : (match Nat.beq n 0 with
    | true => some (Value.pointer (some a))
    | false => some (.pointer (some ⟨a.block, a.off + n, none⟩))) = some v) : V m v (.pointer (some ⟨p.blk, p.base + a.off + n, none⟩)) := by
  rw [Nat.add_assoc]
  split at h
  · rename_i h0
    have h0 := Nat.eq_of_beq_eq_true h0
    cases h
    obtain ⟨ab, ao, as⟩ := a
    simp only at hsp; subst hsp
    rw [h0]
    exact .ptr hp
  · cases h
    exact .ptr hp

theorem indexAddrE_run (O : Ok cx) {m : Pm} {t : Nat} {x x' i i' v : Value} (hx : V m x x') (hi : V m i i') (h : indexAddrE cx t x i = some v) (w : World) : Rd cx (Instr.indexAt t x' i') w m v := by
  unfold indexAddrE at h
  split at h
  · rename_i ti k n hti
    obtain rfl := int_inv hi
    have hu := O.run_under hti w
    split at h
    · rename_i len e a hd
      rw [hd] at hu
      split at h
      · rename_i j h1 h2 hj
        have h1 : 0 ≤ n := of_decide_eq_true h1
        have h2 : n.toNat < len := Nat.le_of_ble_eq_true h2
        obtain ⟨p, hp, hsp, rfl⟩ := ptr_inv hx
        have hlt : 0 ≤ n ∧ n < (len : Int) := ⟨h1, by omega⟩
        refine ⟨.pointer (some ⟨p.blk, p.base + a.off + n.toNat * j.size, none⟩), ?_, place_V hp hsp h⟩
        simp [Instr.indexAt, asIntOf, hu, Instr.sureAddr, hlt, O.run_size hj, addr_add]
      · cases h
    · rename_i e a len c hd
      rw [hd] at hu
      split at h
      · rename_i j h1 h2 hj
        have h1 : 0 ≤ n := of_decide_eq_true h1
        have h2 : n.toNat < len := Nat.le_of_ble_eq_true h2
        obtain ⟨p, hp, hsp, h3⟩ := slice_some hx
        have hlt : 0 ≤ n ∧ n < (len : Int) := ⟨h1, by omega⟩
        refine ⟨.pointer (some ⟨p.blk, p.base + a.off + n.toNat * j.size, none⟩), ?_, place_V hp hsp h⟩
        rcases h3 with ⟨_, rfl⟩ | ⟨_, _, rfl⟩ <;> simp [Instr.indexAt, asIntOf, hu, hlt, O.run_size hj, addr_add]
      · cases h
    · cases h
  · cases h

theorem indexE_run (O : Ok cx) {m : Pm} {t : Nat} {x x' i i' v : Value} (hx : V m x x') (hi : V m i i') (h : indexE cx t x i = some v) (w : World) : Rd cx (Instr.index t x' i') w m v := by
  unfold indexE at h
  split at h
  · rename_i ti k n hti
    obtain rfl := int_inv hi
    have hu := O.run_under hti w
    split at h
    · rename_i len e cs hd
      rw [hd] at hu
      split at h
      · rename_i j h1 h2 hj
        have h1 : 0 ≤ n := of_decide_eq_true h1
        have h2 : n.toNat < len := Nat.le_of_ble_eq_true h2
        obtain ⟨cs', rfl, hcs⟩ := agg_inv hx
        obtain ⟨v', hr, hV⟩ := part_run O hj hcs h w
        have hlt : 0 ≤ n ∧ n < (len : Int) := ⟨h1, by omega⟩
        refine ⟨v', ?_, hV⟩
        simp [Instr.index, asIntOf, hu, hlt, O.run_size hj, hr]
      · cases h
    · rename_i s hd
      rw [hd] at hu
      obtain rfl := string_inv hx
      split at h
      · rename_i b r h1 hdr
        have h1 : 0 ≤ n := of_decide_eq_true h1
        cases h
        have hb : s[n.toNat]? = some b := by
          have h0 : (s.data.toList.drop n.toNat)[0]? = some b := by rw [hdr]; rfl
          have h3 : s.data[n.toNat]? = some b := by simpa using h0
          have hlt : n.toNat < s.data.size := by
            rcases Nat.lt_or_ge n.toNat s.data.size with l | l
            · exact l
            · rw [Array.getElem?_eq_none l] at h3; cases h3
          have hlt' : n.toNat < s.size := hlt
          rw [Array.getElem?_eq_getElem hlt] at h3
          rw [getElem?_pos s n.toNat hlt']
          exact h3
        refine ⟨.int .u8 b.toNat, ?_, V.int m _ _⟩
        simp [Instr.index, asIntOf, hu, h1, hb]
      · cases h
    · cases h
  · cases h

theorem assertE_run (O : Ok cx) {m : Pm} {xt want : Nat} {ok : Bool} {x x' v : Value} (hx : V m x x') (h : assertE cx x want ok = some v) (w : World) : Rd cx (Instr.typeAssert x' xt want ok) w m v := by
  unfold assertE at h
  split at h
  · rename_i i hi
    have hu := O.run_under hi w
    have hz := O.run_zero hi w
    have hzV := O.zeroV hi m
    have ht : ∀ {a b a' b' : Value}, V m a a' → V m b b' → V m (.tuple #[a, b]) (.tuple #[a', b']) := fun h1 h2 => tuple_iff.2 (.cons h1 (.cons h2 .nil))
    generalize i.d = d at h hu
    split at h
    · cases h
    · rename_i hni
      cases h
      obtain rfl := flat_inv rfl hx
      refine ⟨_, ?_, ht hzV (V.bool m false)⟩
      cases d <;> first | exact absurd rfl (hni _) | simp [Instr.typeAssert, hu, hz]
    · rename_i t u hni
      obtain ⟨u', rfl, hV⟩ := iface_inv hx
      split at h
      · rename_i he
        have he := Nat.eq_of_beq_eq_true he
        cases h
        refine ⟨_, ?_, ht hV (V.bool m true)⟩
        cases d <;> first | exact absurd rfl (hni _) | simp [Instr.typeAssert, hu, he]
      · rename_i he
        have he : ¬ t = want := fun e => by rw [e, Nat.beq_refl] at he; cases he
        cases h
        refine ⟨_, ?_, ht hzV (V.bool m false)⟩
        cases d <;> first | exact absurd rfl (hni _) | simp [Instr.typeAssert, hu, he, hz]
    · rename_i t u hni
      obtain ⟨u', rfl, hV⟩ := iface_inv hx
      split at h
      · rename_i he
        have he := Nat.eq_of_beq_eq_true he
        cases h
        refine ⟨u', ?_, hV⟩
        cases d <;> first | exact absurd rfl (hni _) | simp [Instr.typeAssert, hu, he]
      · cases h
    · cases h
  · cases h

theorem tupAt_run {m : Pm} {vs : Array Value} {t' v : Value} {n : Nat} (ht : V m (.tuple vs) t') (h : tupAt vs.toList n = some v) (w : World) : Rd cx (Instr.extract t' n) w m v := by
  obtain ⟨vs', rfl, hV⟩ := tuple_inv ht
  have key : ∀ (l : List Value) (n : Nat), tupAt l n = l[n]? := by
    intro l
    induction l with
    | nil => intro n; simp [tupAt]
    | cons x l ih => intro n; cases n <;> simp [tupAt, ih]
  rw [key] at h
  obtain ⟨v', h1, h2⟩ := hV.get n v h
  refine ⟨v', ?_, h2⟩
  have : vs'[n]? = some v' := by simpa using h1
  simp [Instr.extract, this]

theorem unE_run {op : UnOp} {m : Pm} {x x' v : Value} (hx : V m x x') (h : unE op x = some v) (w : World) : Rd cx (Op.unary op x') w m v := by
  unfold unE at h
  split at h
  · obtain rfl := int_inv hx
    cases op <;> simp only at h <;> cases h <;> exact ⟨_, by simp [Op.unary, Op.intArith, Op.intBits], .flat rfl⟩
  · obtain rfl := bool_inv hx
    cases op <;> simp only at h <;> cases h <;> exact ⟨_, by simp [Op.unary], .flat rfl⟩
  · cases h

theorem foldMin_run {m : Pm} {w : World} : ∀ (l l' : List Value) (mx : Bool) (x x' v : Value), V m x x' → Vs m l l' → foldMin mx x l = some v →
    Rd cx (l'.foldlM (match mx with
      | true => Builtin.max2
      | false => Builtin.min2) x') w m v
  | [], _, mx, x, x', v, hx, hl, h => by
    cases hl
    simp only [foldMin] at h
    cases h
    exact ⟨x', by simp, hx⟩
  | y :: l, _, mx, x, x', v, hx, hl, h => by
    cases hl with
    | cons hy hl =>
      cases x <;> try (cases y <;> simp only [foldMin] at h <;> cases h; done)
      rename_i k a
      cases y <;> simp only [foldMin] at h <;> try (cases h; done)
      rename_i k' b
      obtain rfl := int_inv hx
      obtain rfl := int_inv hy
      obtain ⟨v', hr, hV⟩ := foldMin_run (w := w) l _ mx _ _ v (V.int m k _) hl h
      refine ⟨v', ?_, hV⟩
      cases mx <;> simpa [Builtin.max2, Builtin.min2] using hr

end
end Go.Em

namespace Go.Em
section
variable {cx : Cx}

theorem V.to_int {m : Pm} {x : Value} {k : IntKind} {n : Int} (h : V m x (.int k n)) : x = .int k n := by cases h; rfl
theorem V.to_string {m : Pm} {x : Value} {s : ByteArray} (h : V m x (.string s)) : x = .string s := by cases h; rfl
theorem V.to_nilIface {m : Pm} {x : Value} (h : V m x .nilIface) : x = .nilIface := by cases h; rfl
theorem V.to_agg {m : Pm} {x : Value} {cs : Array Value} (h : V m x (.agg cs)) : ∃ c, x = .agg c := by
  cases h with
  | flat h => simp [Em.flat] at h
  | agg h1 h2 => exact ⟨_, rfl⟩
theorem V.no_float {m : Pm} {x : Value} {k : FloatKind} {b : Nat} (h : V m x (.float k b)) : False := by
  cases h with
  | flat h => simp [Em.flat] at h
theorem V.no_complex {m : Pm} {x : Value} {k : _} {b c : Nat} (h : V m x (.complex k b c)) : False := by
  cases h with
  | flat h => simp [Em.flat] at h

theorem run_binOp_eql {P : Program} {m : Pm} {x x' y y' : Value} (hx : V m x x') (hy : V m y y') (t : Nat) (hi : ∀ k a k' b, x = .int k a → y = .int k' b → False) (hs : ∀ a b, x = .string a → y = .string b → False) (w : World) :
    (binOp .eql t x' y').run P w = ((Op.equal t x' y').run P w).andThen (fun b w => .ok (.bool b) w) := by
  unfold binOp
  split
  all_goals first
    | (exact (hi _ _ _ _ hx.to_int hy.to_int).elim)
    | (exact hx.no_float.elim)
    | (exact hx.no_complex.elim)
    | (exact (hs _ _ hx.to_string hy.to_string).elim)
    | contradiction
    | (simp only [Sem.run_bind]; rfl)

theorem run_binOp_neq {P : Program} {m : Pm} {x x' y y' : Value} (hx : V m x x') (hy : V m y y') (t : Nat) (hi : ∀ k a k' b, x = .int k a → y = .int k' b → False) (hs : ∀ a b, x = .string a → y = .string b → False) (w : World) :
    (binOp .neq t x' y').run P w = ((Op.equal t x' y').run P w).andThen (fun b w => .ok (.bool !b) w) := by
  unfold binOp
  split
  all_goals first
    | (exact (hi _ _ _ _ hx.to_int hy.to_int).elim)
    | (exact hx.no_float.elim)
    | (exact hx.no_complex.elim)
    | (exact (hs _ _ hx.to_string hy.to_string).elim)
    | contradiction
    | (simp only [Sem.run_bind]; rfl)

theorem eqA_agg {h : Heap} {d t : Nat} {x y : Value} {c : Array Value} {b : Bool} (hx : x = .agg c) (he : eqA cx h d t x y = some b) : ∃ i, cx.ty t = some i ∧ aggD i.d = true := by
  subst hx
  cases d with
  | zero => cases he
  | succ d =>
    simp only [eqA] at he
    split at he
    · cases he
    · rename_i i hi
      refine ⟨i, hi, ?_⟩
      generalize i.d = dd at he ⊢
      cases dd <;> first | rfl | (cases y <;> cases he)

theorem eqGuard_run (O : Ok cx) {m : Pm} {h : Heap} {op : BinOp} {t d : Nat} {xo yo : Operand} {x x' y y' : Value} {b : Bool} (hx : V m x x') (hy : V m y y') (hg : guardE xo yo x = true) (he : eqA cx h d t x y = some b) (w : World) :
    (eqGuard op t xo yo x' y').run cx.P w = .ok () w := by
  have key : ∀ o : BinOp, o = .eql ∨ o = .neq → (eqGuard o t xo yo x' y').run cx.P w = .ok () w := by
    intro o ho
    unfold eqGuard
    rcases ho with rfl | rfl
    · simp only [Bool.not_true, Bool.false_eq_true, if_false]
      split
      · obtain rfl := hx.to_nilIface
        unfold guardE at hg
        simp only at hg
        cases xo <;> cases yo <;> first | rfl | cases hg
      · obtain ⟨c, hc⟩ := hx.to_agg
        obtain ⟨i, hi, ha⟩ := eqA_agg hc he
        simp [O.guard t i hi ha]
      · rfl
    · simp only [Bool.not_true, Bool.false_eq_true, if_false]
      split
      · obtain rfl := hx.to_nilIface
        unfold guardE at hg
        simp only at hg
        cases xo <;> cases yo <;> first | rfl | cases hg
      · obtain ⟨c, hc⟩ := hx.to_agg
        obtain ⟨i, hi, ha⟩ := eqA_agg hc he
        simp [O.guard t i hi ha]
      · rfl
  cases op <;> first | exact key _ (.inl rfl) | exact key _ (.inr rfl) | rfl

theorem eqGuard_other {op : BinOp} (h1 : op ≠ .eql) (h2 : op ≠ .neq) {P : Program} {t : Nat} {xo yo : Operand} {x y : Value} (w : World) : (eqGuard op t xo yo x y).run P w = .ok () w := by
  cases op <;> first | rfl | exact absurd rfl h1 | exact absurd rfl h2

theorem eqGuard_flat {op : BinOp} {P : Program} {t : Nat} {xo yo : Operand} {x y : Value} (h1 : x ≠ .nilIface) (h2 : ∀ c, x ≠ .agg c) (w : World) : (eqGuard op t xo yo x y).run P w = .ok () w := by
  have key : ∀ o : BinOp, o = .eql ∨ o = .neq → (eqGuard o t xo yo x y).run P w = .ok () w := by
    intro o ho
    unfold eqGuard
    rcases ho with rfl | rfl
    · simp only [Bool.not_true, Bool.false_eq_true, if_false]
      split
      · exact absurd rfl h1
      · exact absurd rfl (h2 _)
      · rfl
    · simp only [Bool.not_true, Bool.false_eq_true, if_false]
      split
      · exact absurd rfl h1
      · exact absurd rfl (h2 _)
      · rfl
  cases op <;> first | exact key _ (.inl rfl) | exact key _ (.inr rfl) | rfl

theorem binE_run (O : Ok cx) {m : Pm} {h : Heap} {w : World} (S : Sim m h w) {op : BinOp} {t : Nat} {xo yo : Operand} {x x' y y' v : Value} (hx : V m x x') (hy : V m y y') (hg : guardE xo yo x = true) (hb : binE cx h op t x y = some v) :
    (eqGuard op t xo yo x' y').run cx.P w = .ok () w ∧ (binOp op t x' y').run cx.P w = .ok v w ∧ flat v = true := by
  unfold binE at hb
  split at hb
  · obtain rfl := int_inv hx
    obtain rfl := int_inv hy
    exact ⟨eqGuard_flat (fun h => by cases h) (fun c h => by cases h) w, shiftOp_run hb (.inl rfl) cx.P t w⟩
  · obtain rfl := int_inv hx
    obtain rfl := int_inv hy
    exact ⟨eqGuard_flat (fun h => by cases h) (fun c h => by cases h) w, shiftOp_run hb (.inr rfl) cx.P t w⟩
  · obtain rfl := int_inv hx
    obtain rfl := int_inv hy
    split at hb
    · rename_i hk _
      subst hk
      exact ⟨eqGuard_flat (fun h => by cases h) (fun c h => by cases h) w, intOp_run hb cx.P t w⟩
    · cases hb
  · obtain rfl := string_inv hx
    obtain rfl := string_inv hy
    split at hb
    · rename_i a b _ hle
      have hle := Nat.le_of_ble_eq_true hle
      cases hb
      refine ⟨eqGuard_flat (fun h => by cases h) (fun c h => by cases h) w, ?_, rfl⟩
      have hmax : IntKind.i64.max = 9223372036854775807 := rfl
      have hno : ¬ (((a.size + b.size : Nat) : Int) > IntKind.i64.max) := by rw [hmax]; omega
      simp only [binOp, Op.stringOp, if_neg hno, Sem.run_pure]
    · cases hb
  · obtain rfl := string_inv hx
    obtain rfl := string_inv hy
    cases hb
    refine ⟨eqGuard_flat (fun h => by cases h) (fun c h => by cases h) w, ?_, rfl⟩
    simp only [binOp, Op.stringOp, Sem.run_pure, bytesEq_toList]
  · obtain rfl := string_inv hx
    obtain rfl := string_inv hy
    cases hb
    refine ⟨eqGuard_flat (fun h => by cases h) (fun c h => by cases h) w, ?_, rfl⟩
    simp only [binOp, Op.stringOp, Sem.run_pure, bytesEq_toList]
  · cases hb
  · rename_i hi hs
    split at hb
    · rename_i b he
      cases hb
      refine ⟨eqGuard_run O hx hy hg he w, ?_, rfl⟩
      have := eqA_run O S 60 t x y b he x' y' hx hy Op.maxDepth (by unfold Op.maxDepth; omega)
      rw [run_binOp_eql hx hy t (fun k a k' b h1 h2 => by subst h1; subst h2; exact hi _ _ _ _ rfl rfl) (fun a b h1 h2 => by subst h1; subst h2; exact hs _ _ rfl rfl) w]
      unfold Op.equal
      rw [this]
      rfl
    · cases hb
  · rename_i hi hs
    split at hb
    · rename_i b he
      cases hb
      refine ⟨eqGuard_run O hx hy hg he w, ?_, rfl⟩
      have := eqA_run O S 60 t x y b he x' y' hx hy Op.maxDepth (by unfold Op.maxDepth; omega)
      rw [run_binOp_neq hx hy t (fun k a k' b h1 h2 => by subst h1; subst h2; exact hi _ _ _ _ rfl rfl) (fun a b h1 h2 => by subst h1; subst h2; exact hs _ _ rfl rfl) w]
      unfold Op.equal
      rw [this]
      rfl
    · cases hb
  · cases hb

end
end Go.Em

namespace Go.Em
section
variable {cx : Cx}

theorem evO_Vo {m : Pm} {tm : Tr Value} {a : Act} (T : Tm m tm a.tmps) {x : Option Operand} {v : Option Value} (h : evO tm x = some v) : Vo m v (x.map a.eval) := by
  cases x with
  | none => cases h; exact .none
  | some x =>
    simp only [evO] at h
    split at h
    · rename_i u hu
      cases h
      exact .some (ev_V T hu)
    · cases h

theorem evs_Vs {m : Pm} {tm : Tr Value} {a : Act} (T : Tm m tm a.tmps) {l : Array Operand} {vs : List Value} (h : evs tm l.toList = some vs) : Vs m vs (l.map a.eval).toList := by
  simpa using evs_V T h

theorem evParts_Ps {m : Pm} {tm : Tr Value} {a : Act} (T : Tm m tm a.tmps) {l : Array (Nat × Operand)} {vs : List (Nat × Value)} (h : evParts tm l.toList = some vs) : Ps m vs (l.map fun (i, x) => (i, a.eval x)).toList := by
  simpa using evParts_V T h

theorem val_some {o : Option Value} {h h' : Heap} {out : Out} (hv : Em.val o h = some (out, h')) : ∃ v, o = some v ∧ out = .val v ∧ h' = h := by
  unfold Em.val at hv
  split at hv
  · cases hv; exact ⟨_, rfl, rfl, rfl⟩
  · cases hv

theorem skp_some {o : Option Heap} {h' : Heap} {out : Out} (hv : skp o = some (out, h')) : o = some h' ∧ out = .val undef := by
  unfold skp at hv
  split at hv
  · cases hv; exact ⟨rfl, rfl⟩
  · cases hv

/-- The chain of panics. -/
inductive Cs (m : Pm) : List PanicEntry → List PanicEntry → Prop
  | nil : Cs m [] []
  | cons {v v' : Value} {r g : Bool} {l l' : List PanicEntry} : V m v v' → Cs m l l' → Cs m (⟨v, r, g⟩ :: l) (⟨v', r, g⟩ :: l')

theorem Cs.mono {m m' : Pm} (hm : m.Le m') {l l' : List PanicEntry} (h : Cs m l l') : Cs m' l l' := by
  induction h with
  | nil => exact .nil
  | cons h _ ih => exact .cons (h.mono hm) ih

/-- How a call ends, in the model. -/
def FinR (m : Pm) : Fin → Ending → Prop
  | .ret v, .returned v' => V m v v'
  | .pan c, .panicked c' => Cs m c c'
  | _, _ => False

/-- What a call's ending tells of the model's call. -/
def CallR (cx : Cx) (f : Nat) (args : List Value) (h : Heap) (r : Fin) (h' : Heap) : Prop :=
  (∃ fn, cx.P.funcs[f]? = some fn ∧ fn.body.isNone = false ∧ (fn.name == "runtime.NumGoroutine") = false) ∧
  ∀ (m : Pm) (w : World) (args' : Array Value), Sim m h w → Vs m args args'.toList →
    Calls cx.P f args' w fun e w' => ∃ m', Sim m' h' w' ∧ Stp m h w m' h' w' ∧ FinR m' r e

def CallsOk (cx : Cx) (cf : CallFn) : Prop := ∀ f args h r h', cf f args h = some (r, h') → CallR cx f args h r h'

/-- Deferred calls. -/
inductive Dr (m : Pm) : Deferred → Deferred → Prop
  | mk {g : Nat} {cap cap' args args' : Array Value} : Vs m cap.toList cap'.toList → Vs m args.toList args'.toList → Dr m ⟨.fn (.func g) cap, args⟩ ⟨.fn (.func g) cap', args'⟩

inductive Ds (m : Pm) : List Deferred → List Deferred → Prop
  | nil : Ds m [] []
  | cons {d d' : Deferred} {l l' : List Deferred} : Dr m d d' → Ds m l l' → Ds m (d :: l) (d' :: l')

theorem Dr.mono {m m' : Pm} (hm : m.Le m') {d d' : Deferred} (h : Dr m d d') : Dr m' d d' := by
  cases h with
  | mk h1 h2 => exact .mk (h1.mono hm) (h2.mono hm)

theorem Ds.mono {m m' : Pm} (hm : m.Le m') {l l' : List Deferred} (h : Ds m l l') : Ds m' l l' := by
  induction h with
  | nil => exact .nil
  | cons h _ ih => exact .cons (h.mono hm) ih

theorem run_call_builtin {a : Act} {o : Oper} {c : Call} {b : Builtin} (ho : o.op = .call c) (hc : c.callee = .builtin b) : ∃ k : Array Bool, execOp a.eval o = builtin b c.argTypes o.type k (c.args.map a.eval) := by
  refine ⟨c.args.map fun | .const _ => true | _ => false, ?_⟩
  simp only [execOp, ho, resolve, hc, pure_bind, invoke]
  rfl

theorem args1 {m : Pm} {x : Value} {l : Array Value} (h : Vs m [x] l.toList) : ∃ x', l = #[x'] ∧ V m x x' := by
  obtain ⟨l⟩ := l
  cases h with
  | cons h1 h2 => cases h2; exact ⟨_, rfl, h1⟩

theorem args2 {m : Pm} {x y : Value} {l : Array Value} (h : Vs m [x, y] l.toList) : ∃ x' y', l = #[x', y'] ∧ V m x x' ∧ V m y y' := by
  obtain ⟨l⟩ := l
  cases h with
  | cons h1 h2 =>
    cases h2 with
    | cons h2 h3 => cases h3; exact ⟨_, _, rfl, h1, h2⟩

/-- An operation that only looks. -/
theorem opE_read (O : Ok cx) {cf : CallFn} {m : Pm} {h h' : Heap} {w : World} (S : Sim m h w) {tm : Tr Value} {a : Act} (T : Tm m tm a.tmps) {o : Oper} {out : Out} (hm : isMake o.op = false) (he : isEff o.op = false) (ho : isOdd o.op = false)
    (hr : opE cx cf tm h o.op = some (out, h')) : h' = h ∧ ∃ v v', out = .val v ∧ (execOp a.eval o).run cx.P w = .ok (.value v') w ∧ V m v v' := by
  have fin : ∀ {v : Value} {s : Sem Value}, (execOp a.eval o = do pure (.value (← s))) → Rd cx s w m v → ∃ v', (execOp a.eval o).run cx.P w = .ok (.value v') w ∧ V m v v' := by
    intro v s hs ⟨v', h1, h2⟩
    exact ⟨v', by rw [hs, Sem.run_bind, h1]; rfl, h2⟩
  have fin' : ∀ {v : Value} {s : Sem Value}, (execOp a.eval o = do pure (.value (← s))) → s.run cx.P w = .ok v w → flat v = true → ∃ v', (execOp a.eval o).run cx.P w = .ok (.value v') w ∧ V m v v' :=
    fun hs h1 h2 => fin hs ⟨_, h1, .flat h2⟩
  obtain ⟨dst, op, type, pos, after, guard⟩ := o
  simp only at hm he ho hr
  cases op <;> simp only [isMake, isEff, isOdd] at hm he ho <;> try (cases hm; done)
  all_goals try (cases he; done)
  all_goals try (cases ho; done)
  all_goals simp only [opE] at hr
  case move x =>
    obtain ⟨v, hv, rfl, rfl⟩ := val_some hr
    exact ⟨rfl, v, a.eval x, rfl, rfl, ev_V T hv⟩
  case assign x =>
    obtain ⟨v, hv, rfl, rfl⟩ := val_some hr
    exact ⟨rfl, v, a.eval x, rfl, rfl, ev_V T hv⟩
  case pick c x y =>
    split at hr
    · rename_i hc
      obtain ⟨v, hv, rfl, rfl⟩ := val_some hr
      have e := bool_inv (ev_V T hc)
      exact ⟨rfl, v, a.eval x, rfl, by simp [execOp, e, asBool], ev_V T hv⟩
    · rename_i hc
      obtain ⟨v, hv, rfl, rfl⟩ := val_some hr
      have e := bool_inv (ev_V T hc)
      exact ⟨rfl, v, a.eval y, rfl, by simp [execOp, e, asBool], ev_V T hv⟩
    · cases hr
  case build t ps =>
    split at hr
    · rename_i l hl
      obtain ⟨v, hv, rfl, rfl⟩ := val_some hr
      obtain ⟨v', h1, h2⟩ := buildE_run O (evParts_Ps T hl) hv w
      obtain ⟨u, g1, g2⟩ := fin (s := Instr.build t (ps.map fun (i, x) => (i, a.eval x))) rfl ⟨v', h1, h2⟩
      exact ⟨rfl, v, u, rfl, g1, g2⟩
    · cases hr
  case load t x =>
    split at hr
    · rename_i ad ha
      obtain ⟨v, hv, rfl, rfl⟩ := val_some hr
      obtain ⟨p, hp, hsp, hR⟩ := loadT_run O S hv
      obtain ⟨q, hq, _, e⟩ := ptr_inv (ev_V T ha)
      rw [hp] at hq; cases hq
      obtain ⟨u, g1, g2⟩ := fin (s := Instr.loadAt t (a.eval x)) rfl (by simpa [Instr.loadAt, e, Instr.sureAddr, Rd] using hR)
      exact ⟨rfl, v, u, rfl, g1, g2⟩
    · cases hr
  case nilCheck x =>
    split at hr
    · rename_i ad ha
      cases hr
      obtain ⟨q, hq, _, e⟩ := ptr_inv (ev_V T ha)
      exact ⟨rfl, _, _, rfl, by simp [execOp, e], e ▸ ev_V T ha⟩
    · rename_i f b c ha
      cases hr
      obtain ⟨b', c', e, _⟩ := func_inv (ev_V T ha)
      exact ⟨rfl, _, _, rfl, by simp [execOp, e], e ▸ ev_V T ha⟩
    · cases hr
  case binOp op t x y yt =>
    split at hr
    · rename_i u z hu hz
      split at hr
      · rename_i hg
        obtain ⟨v, hv, rfl, rfl⟩ := val_some hr
        obtain ⟨h1, h2, h3⟩ := binE_run O S (ev_V T hu) (ev_V T hz) hg hv
        refine ⟨rfl, v, v, rfl, ?_, .flat h3⟩
        simp only [execOp, Sem.run_bind, h1, h2, Result.andThen_ok, Sem.run_pure]
      · cases hr
    · cases hr
  case unOp op t x =>
    split at hr
    · rename_i u hu
      obtain ⟨v, hv, rfl, rfl⟩ := val_some hr
      obtain ⟨u', g1, g2⟩ := fin (s := Op.unary op (a.eval x)) rfl (unE_run (cx := cx) (ev_V T hu) hv w)
      exact ⟨rfl, v, u', rfl, g1, g2⟩
    · cases hr
  case convert s d x =>
    split at hr
    · rename_i u hu
      obtain ⟨v, hv, rfl, rfl⟩ := val_some hr
      obtain ⟨h1, h2⟩ := convertE_run O S (ev_V T hu) hv
      obtain ⟨u', g1, g2⟩ := fin' (s := convert s d (a.eval x)) rfl h1 h2
      exact ⟨rfl, v, u', rfl, g1, g2⟩
    · cases hr
  case makeInterface t x =>
    split at hr
    · rename_i i u hi hu
      have hun := O.run_under hi w
      generalize i.d = d at hr hun
      split at hr
      · cases hr
      · rename_i hni
        cases hr
        refine ⟨rfl, .iface t u, .iface t (a.eval x), rfl, ?_, .iface (ev_V T hu)⟩
        cases d <;> first | exact absurd rfl (hni _) | simp [execOp, Instr.makeInterface, hun]
    · cases hr
  case makeFunc fn b c =>
    split at hr
    · rename_i bv cv hb hc
      cases hr
      refine ⟨rfl, .func fn bv.toArray cv.toArray, .func fn (b.map a.eval) (c.map a.eval), rfl, ?_, func_mk ?_ ?_⟩
      · simp [execOp, Instr.makeFunc]
      · simpa using evs_V T hb
      · simpa using evs_V T hc
    · cases hr
  case slice t x lo hi mx =>
    split at hr
    · rename_i x0 lo0 hi0 mx0 h1 h2 h3 h4
      obtain ⟨v, hv, rfl, rfl⟩ := val_some hr
      obtain ⟨u', g1, g2⟩ := fin (s := Instr.sliceAt t (a.eval x) (lo.map a.eval) (hi.map a.eval) (mx.map a.eval)) rfl (sliceE_run O S (ev_V T h1) (evO_Vo T h2) (evO_Vo T h3) (evO_Vo T h4) hv)
      exact ⟨rfl, v, u', rfl, g1, g2⟩
    · cases hr
  case fieldAddr t x f =>
    split at hr
    · rename_i u hu
      obtain ⟨v, hv, rfl, rfl⟩ := val_some hr
      obtain ⟨u', g1, g2⟩ := fin (s := Instr.fieldAt t (a.eval x) f) rfl (fieldAddrE_run O (ev_V T hu) hv w)
      exact ⟨rfl, v, u', rfl, g1, g2⟩
    · cases hr
  case field t x f =>
    split at hr
    · rename_i u hu
      obtain ⟨v, hv, rfl, rfl⟩ := val_some hr
      obtain ⟨u', g1, g2⟩ := fin (s := Instr.field t (a.eval x) f) rfl (fieldE_run O (ev_V T hu) hv w)
      exact ⟨rfl, v, u', rfl, g1, g2⟩
    · cases hr
  case indexAddr t x i =>
    split at hr
    · rename_i u z hu hz
      obtain ⟨v, hv, rfl, rfl⟩ := val_some hr
      obtain ⟨u', g1, g2⟩ := fin (s := Instr.indexAt t (a.eval x) (a.eval i)) rfl (indexAddrE_run O (ev_V T hu) (ev_V T hz) hv w)
      exact ⟨rfl, v, u', rfl, g1, g2⟩
    · cases hr
  case index t x i =>
    split at hr
    · rename_i u z hu hz
      obtain ⟨v, hv, rfl, rfl⟩ := val_some hr
      obtain ⟨u', g1, g2⟩ := fin (s := Instr.index t (a.eval x) (a.eval i)) rfl (indexE_run O (ev_V T hu) (ev_V T hz) hv w)
      exact ⟨rfl, v, u', rfl, g1, g2⟩
    · cases hr
  case lookup t x i ok =>
    split at hr
    · rename_i u z hu hz
      obtain ⟨v, hv, rfl, rfl⟩ := val_some hr
      obtain ⟨u', g1, g2⟩ := fin (s := Instr.lookup t (a.eval x) (a.eval i) ok) rfl (lookupE_run O S (ev_V T hu) (ev_V T hz) hv)
      exact ⟨rfl, v, u', rfl, g1, g2⟩
    · cases hr
  case typeAssert x xt want ok =>
    split at hr
    · rename_i u hu
      obtain ⟨v, hv, rfl, rfl⟩ := val_some hr
      obtain ⟨u', g1, g2⟩ := fin (s := Instr.typeAssert (a.eval x) xt want ok) rfl (assertE_run O (ev_V T hu) hv w)
      exact ⟨rfl, v, u', rfl, g1, g2⟩
    · cases hr
  case extract t i =>
    split at hr
    · rename_i vs hu
      obtain ⟨v, hv, rfl, rfl⟩ := val_some hr
      obtain ⟨u', g1, g2⟩ := fin (s := Instr.extract (a.eval t) i) rfl (tupAt_run (cx := cx) (ev_V T hu) hv w)
      exact ⟨rfl, v, u', rfl, g1, g2⟩
    · cases hr
  case call c =>
    obtain ⟨cal, args, ats⟩ := c
    cases cal with
    | value f => simp only at he; cases he
    | invoke r n => simp only at he; cases he
    | builtin b =>
      simp only at hr he ho
      split at hr
      · rename_i av ha
        have hA := evs_Vs T ha
        obtain ⟨k, hk⟩ := run_call_builtin (a := a) (o := ⟨dst, .call ⟨.builtin b, args, ats⟩, type, pos, after, guard⟩) rfl rfl
        simp only at hk
        unfold builtinE at hr
        split at hr
        · rename_i x
          split at hr
          · rename_i t ht
            obtain ⟨v, hv, rfl, rfl⟩ := val_some hr
            obtain ⟨x', hx', hV⟩ := args1 hA
            have ht' : ats[0]? = some t := by
              rw [← Array.getElem?_toList, ht]; rfl
            obtain ⟨h1, h2⟩ := lenOp_run O S ht' hV hv type
            rw [← hx'] at h1
            obtain ⟨u', g1, g2⟩ := fin' (s := Builtin.len_ ats type (args.map a.eval)) hk h1 h2
            exact ⟨rfl, v, u', rfl, g1, g2⟩
          · cases hr
        all_goals first
          | (cases he; done)
          | (cases ho; done)
          | (cases hr; done)
          | skip
        · rename_i x l
          obtain ⟨v, hv, rfl, rfl⟩ := val_some hr
          generalize hl' : (args.map a.eval).toList = l' at hA
          cases hA with
          | cons hx hl =>
            obtain ⟨u', g1, g2⟩ := fin (s := Builtin.min_ ats type (args.map a.eval)) hk (by
              unfold Builtin.min_
              rw [hl']
              exact foldMin_run (cx := cx) (w := w) _ _ false _ _ v hx hl hv)
            exact ⟨rfl, v, u', rfl, g1, g2⟩
        · rename_i x l
          obtain ⟨v, hv, rfl, rfl⟩ := val_some hr
          generalize hl' : (args.map a.eval).toList = l' at hA
          cases hA with
          | cons hx hl =>
            obtain ⟨u', g1, g2⟩ := fin (s := Builtin.max_ ats type (args.map a.eval)) hk (by
              unfold Builtin.max_
              rw [hl']
              exact foldMin_run (cx := cx) (w := w) _ _ true _ _ v hx hl hv)
            exact ⟨rfl, v, u', rfl, g1, g2⟩
      · cases hr
  all_goals (simp only [makeE] at hr; cases hr)

/-- What an operation's outcome tells of the model's operation. -/
def OpR (cx : Cx) (o : Oper) (a : Act) (m : Pm) (h : Heap) (w : World) (h' : Heap) : Out → Prop
  | .val v => (∃ m' w' v', (execOp a.eval o).run cx.P w = .ok (.value v') w' ∧ Sim m' h' w' ∧ Stp m h w m' h' w' ∧ V m' v v') ∨
      (v = undef ∧ ∃ w', (execOp a.eval o).run cx.P w = .ok .skip w' ∧ Sim m h' w' ∧ Stp m h w m h' w') ∨
      (∃ g args', (execOp a.eval o).run cx.P w = .ok (.enter g args') w ∧ Calls cx.P g args' w fun e w' => ∃ m', Sim m' h' w' ∧ Stp m h w m' h' w' ∧ ∃ v', e = .returned v' ∧ V m' v v')
  | .pan c => (h' = h ∧ ∃ v v', c = [⟨v, false, false⟩] ∧ (execOp a.eval o).run cx.P w = .halt (.panic v') w ∧ V m v v') ∨
      (∃ g args', (execOp a.eval o).run cx.P w = .ok (.enter g args') w ∧ Calls cx.P g args' w fun e w' => ∃ m', Sim m' h' w' ∧ Stp m h w m' h' w' ∧ ∃ c', e = .panicked c' ∧ Cs m' c c')
  | .dfr d => h' = h ∧ ∃ d', (execOp a.eval o).run cx.P w = .ok (.defer d') w ∧ Dr m d d'
  | .rcv => h' = h ∧ (execOp a.eval o).run cx.P w = .ok .recover w

/-- An operation. -/
theorem opE_run (O : Ok cx) {cf : CallFn} (C : CallsOk cx cf) {m : Pm} {h h' : Heap} {w : World} (S : Sim m h w) {tm : Tr Value} {a : Act} (T : Tm m tm a.tmps) {o : Oper} {out : Out}
    (hr : opE cx cf tm h o.op = some (out, h')) : OpR cx o a m h w h' out := by
  cases hmk : isMake o.op with
  | true =>
    have hr' : ∃ v b, makeE cx tm h o.op = some (v, b) ∧ out = .val v ∧ h' = h.add b := by
      generalize o.op = op at hr hmk
      cases op <;> simp only [isMake] at hmk <;> try (cases hmk; done)
      all_goals
        simp only [opE] at hr
        split at hr
        · rename_i v b hb
          cases hr
          exact ⟨v, b, hb, rfl, rfl⟩
        · cases hr
    obtain ⟨v, b, hb, rfl, rfl⟩ := hr'
    obtain ⟨p, x, v', h1, h2, h3, h4⟩ := makeE_run O T hb w (S.fresh _ (Nat.le_refl _))
    obtain ⟨S', P'⟩ := S.new h2 h4
    exact .inl ⟨_, _, v', h1, S', P', h3⟩
  | false =>
    cases hef : isEff o.op with
    | false =>
      cases hod : isOdd o.op with
      | false =>
        obtain ⟨rfl, v, v', rfl, h1, h2⟩ := opE_read O S T hmk hef hod hr
        exact .inl ⟨m, w, v', h1, S, .refl _ _ _, h2⟩
      | true =>
        obtain ⟨dst, op, type, pos, after, guard⟩ := o
        simp only at hr hod
        cases op <;> simp only [isOdd] at hod <;> try (cases hod; done)
        case call c =>
          obtain ⟨cal, args, ats⟩ := c
          cases cal with
          | value f => cases hod
          | invoke r n => cases hod
          | builtin b =>
            cases b <;> simp only at hod <;> try (cases hod; done)
            simp only [opE] at hr
            split at hr
            · rename_i av ha
              obtain ⟨k, hk⟩ := run_call_builtin (a := a) (o := ⟨dst, .call ⟨.builtin .recover, args, ats⟩, type, pos, after, guard⟩) rfl rfl
              unfold builtinE at hr
              split at hr <;> first
                | contradiction
                | (cases hr; exact ⟨rfl, by rw [hk]; rfl⟩)
                | (cases hr; done)
            · cases hr
        case defer c =>
          simp only [opE] at hr
          split at hr
          · rename_i f hc
            split at hr
            · rename_i g first cap args hf ha
              cases hr
              obtain ⟨first', cap', e, h1, h2⟩ := func_inv (ev_V T hf)
              refine ⟨rfl, ⟨.fn (.func g) cap', first' ++ c.args.map a.eval⟩, ?_, .mk h2 ?_⟩
              · simp [execOp, resolve, hc, Deferred.ofValue, e]
              · simpa using h1.append (evs_V T ha)
            · cases hr
          · cases hr
    | true =>
      obtain ⟨dst, op, type, pos, after, guard⟩ := o
      simp only at hr hef
      cases op <;> simp only [isEff] at hef <;> try (cases hef; done)
      all_goals simp only [opE] at hr
      case store t ad x =>
        split at hr
        · rename_i ad' u ha hu
          obtain ⟨hs, rfl⟩ := skp_some hr
          obtain ⟨p, hp, hsp, w', h1, h2, h3⟩ := storeT_run O S (ev_V T hu) hs
          obtain ⟨q, hq, _, e⟩ := ptr_inv (ev_V T ha)
          rw [hp] at hq; cases hq
          exact .inr (.inl ⟨rfl, w', by simp [execOp, Instr.storeAt, e, Instr.sureAddr, h1], h2, h3⟩)
        · cases hr
      case insert t x k y =>
        split at hr
        · rename_i xv kv yv hx hk hy
          obtain ⟨hs, rfl⟩ := skp_some hr
          obtain ⟨w', h1, h2, h3⟩ := updateE_run O S (ev_V T hx) (ev_V T hk) (ev_V T hy) hs
          exact .inr (.inl ⟨rfl, w', by simp [execOp, h1], h2, h3⟩)
        · cases hr
      case mapUpdate t x k y =>
        split at hr
        · rename_i xv kv yv hx hk hy
          obtain ⟨hs, rfl⟩ := skp_some hr
          obtain ⟨w', h1, h2, h3⟩ := updateE_run O S (ev_V T hx) (ev_V T hk) (ev_V T hy) hs
          exact .inr (.inl ⟨rfl, w', by simp [execOp, h1], h2, h3⟩)
        · cases hr
      case panic x =>
        split at hr
        · rename_i t u hu
          cases hr
          obtain ⟨u', e, hV⟩ := iface_inv (ev_V T hu)
          exact .inl ⟨rfl, .iface t u, .iface t u', rfl, by simp [execOp, Instr.panic, e], .iface hV⟩
        · cases hr
      case call c =>
        obtain ⟨cal, args, ats⟩ := c
        cases cal with
        | invoke r n => cases hr
        | value f =>
          simp only at hr
          split at hr
          · rename_i fv av hf ha
            split at hr
            · rename_i g args' ht
              unfold target at ht
              split at ht
              · rename_i g' first cap
                cases ht
                obtain ⟨first', cap', e, hV1, hV2⟩ := func_inv (ev_V T hf)
                have hA := evs_Vs T ha
                have hargs : Vs m (first.toList ++ av ++ cap.toList) (first' ++ args.map a.eval ++ cap').toList := by
                  simpa using (hV1.append hA).append hV2
                split at hr
                · rename_i v h2 hcf
                  cases hr
                  obtain ⟨⟨fn, hfn, hbody, hname⟩, hcall⟩ := C _ _ _ _ _ hcf
                  refine .inr (.inr ⟨g, first' ++ args.map a.eval ++ cap', ?_, (hcall m w _ S hargs).mono fun e w' ⟨m', k1, k2, k3⟩ => ?_⟩)
                  · simp only [execOp, resolve, Sem.run_bind, Deferred.ofValue, e, invoke, callFunc, run_program, hfn, hname, hbody, Sem.run_pure, Result.andThen_ok, Bool.false_eq_true, if_false]
                  · cases e with
                    | returned v' => exact ⟨m', k1, k2, v', rfl, k3⟩
                    | panicked c' => exact k3.elim
                    | outgrown => exact k3.elim
                · rename_i c h2 hcf
                  cases hr
                  obtain ⟨⟨fn, hfn, hbody, hname⟩, hcall⟩ := C _ _ _ _ _ hcf
                  refine .inr ⟨g, first' ++ args.map a.eval ++ cap', ?_, (hcall m w _ S hargs).mono fun e w' ⟨m', k1, k2, k3⟩ => ?_⟩
                  · simp only [execOp, resolve, Sem.run_bind, Deferred.ofValue, e, invoke, callFunc, run_program, hfn, hname, hbody, Sem.run_pure, Result.andThen_ok, Bool.false_eq_true, if_false]
                  · cases e with
                    | returned v' => exact k3.elim
                    | panicked c' => exact ⟨m', k1, k2, c', rfl, k3⟩
                    | outgrown => exact k3.elim
                · cases hr
              · cases ht
            · cases hr
          · cases hr
        | builtin b =>
          simp only at hr
          split at hr
          · rename_i av ha
            have hA := evs_Vs T ha
            obtain ⟨k, hk⟩ := run_call_builtin (a := a) (o := ⟨dst, .call ⟨.builtin b, args, ats⟩, type, pos, after, guard⟩) rfl rfl
            simp only at hk
            have fin : ∀ {v v' : Value} {m' : Pm} {w' : World} {s : Sem Value}, builtin b ats type k (args.map a.eval) = (do pure (.value (← s))) → s.run cx.P w = .ok v' w' → Sim m' h' w' → Stp m h w m' h' w' → V m' v v' →
                OpR cx ⟨dst, .call ⟨.builtin b, args, ats⟩, type, pos, after, guard⟩ a m h w h' (.val v) := by
              intro v v' m' w' s hs hrun h1 h2 h3
              refine .inl ⟨m', w', v', ?_, h1, h2, h3⟩
              rw [hk, hs, Sem.run_bind, hrun]
              rfl
            unfold builtinE at hr
            split at hr
            all_goals first
              | (cases hef; done)
              | (cases hr; done)
              | skip
            · -- append
              rename_i s x
              split at hr
              · rename_i v h2 hap
                cases hr
                obtain ⟨s', x', e, hs, hx⟩ := args2 hA
                obtain ⟨m', w', v', g1, g2, g3, g4⟩ := appendE_run O S hs hx hap type
                exact fin (s := Builtin.append_ ats type (args.map a.eval)) rfl (by rw [e]; exact g1) g2 g3 g4
              · cases hr
            · -- copy
              rename_i d s
              obtain ⟨d', s', e, hd, hs⟩ := args2 hA
              split at hr
              · rename_i dt rest base dl dc hts
                have ht' : ats[0]? = some dt := by rw [← Array.getElem?_toList, hts]; rfl
                split at hr
                · rename_i i n hi hn
                  split at hr
                  · rename_i et hde
                    split at hr
                    · rename_i j hj
                      split at hr
                      · rename_i cs hcs
                        split at hr
                        · rename_i ad
                          split at hr
                          · rename_i h2 hst
                            cases hr
                            obtain ⟨w', g1, g2, g3⟩ := copyE_run O S ht' hi hde hj hd hs hn hcs hst type
                            exact fin (s := Builtin.copy_ ats type (args.map a.eval)) rfl (by rw [e]; exact g1) g2 g3 (V.int _ _ _)
                          · cases hr
                        · cases hr
                          obtain ⟨w', g1, g2, g3⟩ := copyE_run O S ht' hi hde hj hd hs hn hcs rfl type
                          exact fin (s := Builtin.copy_ ats type (args.map a.eval)) rfl (by rw [e]; exact g1) g2 g3 (V.int _ _ _)
                      · cases hr
                    · cases hr
                  · cases hr
                · cases hr
              · cases hr
            · -- delete
              rename_i x y
              obtain ⟨x', y', e, hx, hy⟩ := args2 hA
              split at hr
              · rename_i t rest hts
                have ht' : ats[0]? = some t := by rw [← Array.getElem?_toList, hts]; rfl
                split at hr
                · rename_i h2 hd
                  cases hr
                  obtain ⟨w', g1, g2, g3⟩ := deleteE_run O S ht' hx hy hd type
                  exact fin (s := Builtin.delete_ ats type (args.map a.eval)) rfl (by rw [e]; exact g1) g2 g3 (V.undef _)
                · cases hr
              · cases hr
            · -- clear
              rename_i x
              obtain ⟨x', e, hx⟩ := args1 hA
              split at hr
              · rename_i t rest hts
                have ht' : ats[0]? = some t := by rw [← Array.getElem?_toList, hts]; rfl
                split at hr
                · rename_i h2 hd
                  cases hr
                  obtain ⟨w', g1, g2, g3⟩ := clearE_run O S ht' hx hd type
                  exact fin (s := Builtin.clear_ ats type (args.map a.eval)) rfl (by rw [e]; exact g1) g2 g3 (V.undef _)
                · cases hr
              · cases hr
          · cases hr

end
end Go.Em

namespace Go.Em
section
variable {cx : Cx}

/-- A frame's state. -/
structure Fr (N : Nat) (m : Pm) (st : St) (a : Act) (w : World) : Prop where
  sim : Sim m st.h w
  tm : Tm m st.tm a.tmps
  ds : Ds m st.df a.defers
  size : N ≤ a.tmps.size

theorem put_size (a : Act) (dst : Option Nat) (v : Value) : (a.put dst v).tmps.size = a.tmps.size := by
  cases dst <;> simp [Act.put]

theorem put_defers' (a : Act) (dst : Option Nat) (v : Value) : (a.put dst v).defers = a.defers := by
  cases dst <;> simp [Act.put]

theorem Tm.put {m : Pm} {tm : Tr Value} {a : Act} (T : Tm m tm a.tmps) {dst : Option Nat} (hd : ∀ d, dst = some d → d < a.tmps.size) {v v' : Value} (hv : V m v v') : Tm m (putT tm dst v) (a.put dst v').tmps := by
  cases dst with
  | none => exact T
  | some d =>
    intro t u h
    simp only [putT, Tr.get_set] at h
    have hlt := hd d rfl
    split at h
    · rename_i e
      cases h
      subst e
      simpa [Act.put, hlt] using hv
    · rename_i e
      have := T t u h
      simpa [Act.put, Array.getElem?_setIfInBounds_ne (Ne.symm e)] using this

theorem operAt_eq : ∀ (l : List Oper) (n : Nat), operAt l n = l[n]?
  | [], n => by simp [operAt]
  | o :: l, 0 => by simp [operAt]
  | o :: l, n + 1 => by simpa [operAt] using operAt_eq l n

theorem wantE_run {m : Pm} {tm : Tr Value} {a : Act} (T : Tm m tm a.tmps) {ops : Array Oper} {o : Oper} {b : Bool} (h : wantE ops.toList tm o = some b) : Region.wanted o (yielded ops a.tmps) = b := by
  unfold wantE at h
  unfold Region.wanted
  split at h
  · rename_i hg
    cases h
    rw [hg]
  · rename_i j want hg
    rw [hg]
    split at h
    · rename_i g hj
      rw [operAt_eq, Array.getElem?_toList] at hj
      split at h
      · rename_i d hd
        split at h
        · rename_i b' ht
          cases h
          have hv := bool_inv (T d _ ht)
          have : a.tmps[d]? = some (.bool b') := by
            rcases Nat.lt_or_ge d a.tmps.size with l | l
            · simpa [l] using hv
            · rw [Array.getD_eq_getD_getElem?, Array.getElem?_eq_none l] at hv
              cases hv
          simp only [yielded, hj, Option.bind_some, hd, this]
          cases b' <;> cases want <;> rfl
        · rename_i vs ht
          cases h
          obtain ⟨vs', hv, _⟩ := tuple_inv (T d _ ht)
          have : yielded ops a.tmps j = none := by
            simp only [yielded, hj, Option.bind_some, hd]
            rcases Nat.lt_or_ge d a.tmps.size with l | l
            · have : a.tmps[d]? = some (.tuple vs') := by simpa [l] using hv
              rw [this]
            · rw [Array.getElem?_eq_none l]
          simp only [this]
          cases want <;> rfl
        · cases h
      · cases h
    · cases h

/-- An operation that comes to a value. -/
theorem OpR.upon_val {o : Oper} {a : Act} {m : Pm} {h h' : Heap} {w : World} {v : Value} (H : OpR cx o a m h w h' (.val v)) {next : Act → World → Prop} {Q : Exit → Act → World → Prop}
    (hn : ∀ m' w' v', Sim m' h' w' → Stp m h w m' h' w' → V m' v v' → next (a.put o.dst v') w') : o.upon cx.P a next Q ((execOp a.eval o).run cx.P w) ∧ ∀ w', (execOp a.eval o).run cx.P w ≠ .ok .recover w' := by
  rcases H with ⟨m', w', v', h1, h2, h3, h4⟩ | ⟨rfl, w', h1, h2, h3⟩ | ⟨g, args', h1, h2⟩
  · rw [h1]
    exact ⟨hn _ _ _ h2 h3 h4, fun w' h => by cases h⟩
  · rw [h1]
    exact ⟨hn _ _ _ h2 h3 (V.undef _), fun w' h => by cases h⟩
  · rw [h1]
    refine ⟨h2.mono fun e w' ⟨m', k1, k2, v', k3, k4⟩ => ?_, fun w' h => by cases h⟩
    subst k3
    exact hn _ _ _ k1 k2 k4

theorem OpR.upon_pan {o : Oper} {a : Act} {m : Pm} {h h' : Heap} {w : World} {c : List PanicEntry} (S : Sim m h w) (H : OpR cx o a m h w h' (.pan c)) {next : Act → World → Prop} {Q : Exit → Act → World → Prop}
    (hn : ∀ m' w' c', Sim m' h' w' → Stp m h w m' h' w' → Cs m' c c' → Q (.panic c') a w') : o.upon cx.P a next Q ((execOp a.eval o).run cx.P w) ∧ ∀ w', (execOp a.eval o).run cx.P w ≠ .ok .recover w' := by
  rcases H with ⟨rfl, v, v', rfl, h1, h2⟩ | ⟨g, args', h1, h2⟩
  · rw [h1]
    exact ⟨hn m w _ S (.refl _ _ _) (.cons h2 .nil), fun w' h => by cases h⟩
  · rw [h1]
    refine ⟨h2.mono fun e w' ⟨m', k1, k2, v', k3, k4⟩ => ?_, fun w' h => by cases h⟩
    subst k3
    exact hn _ _ _ k1 k2 k4

/-- The slots that operations write to. -/
def dstsB (N : Nat) : List Oper → Bool
  | [] => true
  | o :: l => match o.dst with
    | some d => match Nat.blt d N with
      | true => dstsB N l
      | false => false
    | none => dstsB N l

theorem dstsB_cons {N : Nat} {o : Oper} {l : List Oper} (h : dstsB N (o :: l) = true) : (∀ d, o.dst = some d → d < N) ∧ dstsB N l = true := by
  simp only [dstsB] at h
  split at h
  · rename_i d hd
    split at h
    · rename_i hb
      refine ⟨fun d' e => ?_, h⟩
      rw [hd] at e; cases e
      exact Nat.le_of_ble_eq_true hb
    · cases h
  · rename_i hd
    refine ⟨fun d' e => ?_, h⟩
    rw [hd] at e; cases e

/-- How code is left. -/
inductive ExR (m : Pm) : Ex → Exit → Prop
  | normal : ExR m .normal .normal
  | exit {id : Nat} : ExR m (.exit id) (.exit id)
  | ret : ExR m .ret .ret
  | pan {c c' : List PanicEntry} : Cs m c c' → ExR m (.pan c) (.panic c')

/-- How the frame below stands. -/
inductive Um (m : Pm) : FrameMode → FrameMode → Prop
  | run : Um m .run .run
  | returning : Um m .returning .returning
  | panicking {c c' : List PanicEntry} : Cs m c c' → Um m (.panicking c) (.panicking c')

theorem Um.mono {m m' : Pm} (hm : m.Le m') {u u' : FrameMode} (h : Um m u u') : Um m' u u' := by
  cases h with
  | run => exact .run
  | returning => exact .returning
  | panicking h => exact .panicking (h.mono hm)

theorem range'_drop {ops : Array Oper} {i : Nat} {o : Oper} {l : List Oper} (h : ops.toList.drop i = o :: l) : ops[i]? = some o ∧ ops.toList.drop (i + 1) = l := by
  have h0 : (ops.toList.drop i)[0]? = some o := by rw [h]; rfl
  refine ⟨by simpa using h0, ?_⟩
  have := congrArg (List.drop 1) h
  simpa [List.drop_drop, Nat.add_comm] using this

/-- Operations in order, in a frame that was not deferred. -/
theorem opsE_run (O : Ok cx) {cf : CallFn} (C : CallsOk cx cf) {N : Nat} {ops : Array Oper} : ∀ (l : List Oper) (i : Nat) (st : St) (ex : Ex) (st' : St), ops.toList.drop i = l → dstsB N l = true →
    opsE cx cf false ops.toList l st = some (ex, st') → ∀ (m : Pm) (a : Act) (w : World), Fr N m st a w → ∀ (Q : Exit → Act → World → Prop),
    (∀ m' e a' w', Fr N m' st' a' w' → Stp m st.h w m' st'.h w' → ExR m' ex e → Q e a' w') → wpOps cx.P ops Q (List.range' i l.length) a w
  | [], i, st, ex, st', hi, hd, h, m, a, w, F, Q, hQ => by
    cases h
    exact hQ m _ a w F (.refl _ _ _) .normal
  | o :: l, i, st, ex, st', hi, hd, h, m, a, w, F, Q, hQ => by
    obtain ⟨ho, hi'⟩ := range'_drop hi
    obtain ⟨hdo, hd'⟩ := dstsB_cons hd
    have hdo' : ∀ d, o.dst = some d → d < a.tmps.size := fun d e => Nat.lt_of_lt_of_le (hdo d e) F.size
    simp only [List.length_cons, List.range'_succ, wpOps, ho]
    simp only [opsE] at h
    split at h
    · cases h
    · rename_i hw
      rw [wantE_run F.tm hw]
      simp only [Bool.false_eq_true, if_false]
      refine opsE_run O C l (i + 1) _ ex st' hi' hd' h m _ w ⟨F.sim, F.tm.put hdo' (V.undef m), ?_, ?_⟩ Q hQ
      · rw [put_defers']; exact F.ds
      · rw [put_size]; exact F.size
    · rename_i hw
      rw [wantE_run F.tm hw]
      simp only [if_true]
      split at h
      · rename_i v h' hop
        have H := opE_run O C F.sim F.tm hop
        refine .inl (H.upon_val (next := wpOps cx.P ops Q (List.range' (i + 1) l.length)) (Q := Q) fun m' w' v' k1 k2 k3 => ?_).1
        refine opsE_run O C l (i + 1) _ ex st' hi' hd' h m' _ w' ⟨k1, (F.tm.mono k2.le).put hdo' k3, ?_, ?_⟩ Q fun m2 e a2 w2 g1 g2 g3 => hQ m2 e a2 w2 g1 (k2.trans g2) g3
        · rw [put_defers']; exact F.ds.mono k2.le
        · rw [put_size]; exact F.size
      · rename_i c h' hop
        cases h
        have H := opE_run O C F.sim F.tm hop
        refine .inl (H.upon_pan F.sim (next := wpOps cx.P ops Q (List.range' (i + 1) l.length)) (Q := Q) fun m' w' c' k1 k2 k3 => ?_).1
        exact hQ m' _ a w' ⟨k1, F.tm.mono k2.le, F.ds.mono k2.le, F.size⟩ k2 (.pan k3)
      · rename_i d h' hop
        obtain ⟨_, d', h1, h2⟩ := opE_run O C F.sim F.tm hop
        refine .inl ?_
        unfold Oper.wp
        rw [h1]
        simp only [Oper.upon]
        refine opsE_run O C l (i + 1) _ ex st' hi' hd' h m _ w ⟨F.sim, ?_, ?_, ?_⟩ Q hQ
        · exact Tm.put (a := { a with defers := d' :: a.defers }) F.tm hdo' (V.undef m)
        · rw [put_defers']; exact .cons h2 F.ds
        · rw [put_size]; exact F.size
      · cases h
      · cases h

/-- The frame below a deferred one. -/
def Below (m : Pm) (u : FrameMode) (c₀ : Frame) (rest cs : List Frame) : Prop := ∃ u', cs = { c₀ with mode := u' } :: rest ∧ Um m u u'

theorem recE_run {m : Pm} {u : FrameMode} {c₀ : Frame} {rest cs : List Frame} (B : Below m u c₀ rest cs) :
    (∃ v' cs', recoverD cs = some (v', cs') ∧ V m (recE u).1 v' ∧ Below m (recE u).2 c₀ rest cs') ∨ (recoverD cs = none ∧ recE u = (.nilIface, u)) := by
  obtain ⟨u', rfl, hu⟩ := B
  cases hu with
  | run => exact .inr ⟨rfl, rfl⟩
  | returning => exact .inr ⟨rfl, rfl⟩
  | panicking hc =>
    cases hc with
    | nil => exact .inr ⟨rfl, rfl⟩
    | cons hv hl =>
      rename_i v v' r g l l'
      cases r <;> cases g
      · exact .inl ⟨v', _, rfl, hv, _, rfl, .panicking (.cons hv hl)⟩
      all_goals exact .inr ⟨rfl, rfl⟩

/-- Operations in order, in a deferred frame. -/
theorem opsE_runS (O : Ok cx) {cf : CallFn} (C : CallsOk cx cf) {N : Nat} {ops : Array Oper} {c₀ : Frame} {rest : List Frame} : ∀ (l : List Oper) (i : Nat) (st : St) (ex : Ex) (st' : St), ops.toList.drop i = l → dstsB N l = true →
    opsE cx cf true ops.toList l st = some (ex, st') → ∀ (m : Pm) (a : Act) (cs : List Frame) (w : World), Fr N m st a w → Below m st.u c₀ rest cs → ∀ (Q : Exit → Act → List Frame → World → Prop),
    (∀ m' e a' cs' w', Fr N m' st' a' w' → Below m' st'.u c₀ rest cs' → Stp m st.h w m' st'.h w' → ExR m' ex e → Q e a' cs' w') → wpOpsS cx.P ops Q (List.range' i l.length) a cs w
  | [], i, st, ex, st', hi, hd, h, m, a, cs, w, F, B, Q, hQ => by
    cases h
    exact hQ m _ a cs w F B (.refl _ _ _) .normal
  | o :: l, i, st, ex, st', hi, hd, h, m, a, cs, w, F, B, Q, hQ => by
    obtain ⟨ho, hi'⟩ := range'_drop hi
    obtain ⟨hdo, hd'⟩ := dstsB_cons hd
    have hdo' : ∀ d, o.dst = some d → d < a.tmps.size := fun d e => Nat.lt_of_lt_of_le (hdo d e) F.size
    have hmono : ∀ {m' : Pm}, m.Le m' → Below m' st.u c₀ rest cs := fun hm => let ⟨u', e, hu⟩ := B; ⟨u', e, hu.mono hm⟩
    have ordinary : ∀ {r : Result Next} {X : Prop} {Y : World → Prop}, (∀ w', r ≠ .ok .recover w') → X → (match r with
        | .ok .recover w' => Y w'
        | _ => X) := by
      intro r X Y hr hx
      split
      · rename_i w' ; exact absurd rfl (hr w')
      · exact hx
    simp only [List.length_cons, List.range'_succ, wpOpsS, ho]
    simp only [opsE] at h
    split at h
    · cases h
    · rename_i hw
      rw [wantE_run F.tm hw]
      simp only [Bool.false_eq_true, if_false]
      refine opsE_runS O C l (i + 1) _ ex st' hi' hd' h m _ cs w ⟨F.sim, F.tm.put hdo' (V.undef m), ?_, ?_⟩ B Q hQ
      · rw [put_defers']; exact F.ds
      · rw [put_size]; exact F.size
    · rename_i hw
      rw [wantE_run F.tm hw]
      simp only [if_true]
      split at h
      · rename_i v h' hop
        have H := opE_run O C F.sim F.tm hop
        obtain ⟨g1, g2⟩ := H.upon_val (next := fun a' w' => wpOpsS cx.P ops Q (List.range' (i + 1) l.length) a' cs w') (Q := fun e a' w' => Q e a' cs w') fun m' w' v' k1 k2 k3 => by
          refine opsE_runS O C l (i + 1) _ ex st' hi' hd' h m' _ cs w' ⟨k1, (F.tm.mono k2.le).put hdo' k3, ?_, ?_⟩ (hmono k2.le) Q fun m2 e a2 cs2 w2 g1 g2 g3 g4 => hQ m2 e a2 cs2 w2 g1 g2 (k2.trans g3) g4
          · rw [put_defers']; exact F.ds.mono k2.le
          · rw [put_size]; exact F.size
        generalize (execOp a.eval o).run cx.P w = r at g1 g2
        split
        · exact absurd rfl (g2 _)
        · exact g1
      · rename_i c h' hop
        cases h
        have H := opE_run O C F.sim F.tm hop
        obtain ⟨g1, g2⟩ := H.upon_pan F.sim (next := fun a' w' => wpOpsS cx.P ops Q (List.range' (i + 1) l.length) a' cs w') (Q := fun e a' w' => Q e a' cs w') fun m' w' c' k1 k2 k3 =>
          hQ m' _ a cs w' ⟨k1, F.tm.mono k2.le, F.ds.mono k2.le, F.size⟩ (hmono k2.le) k2 (.pan k3)
        generalize (execOp a.eval o).run cx.P w = r at g1 g2
        split
        · exact absurd rfl (g2 _)
        · exact g1
      · rename_i d h' hop
        obtain ⟨_, d', h1, h2⟩ := opE_run O C F.sim F.tm hop
        rw [h1]
        simp only [Oper.upon]
        refine opsE_runS O C l (i + 1) _ ex st' hi' hd' h m _ cs w ⟨F.sim, ?_, ?_, ?_⟩ B Q hQ
        · exact Tm.put (a := { a with defers := d' :: a.defers }) F.tm hdo' (V.undef m)
        · rw [put_defers']; exact .cons h2 F.ds
        · rw [put_size]; exact F.size
      · rename_i h' hop
        obtain ⟨_, h1⟩ := opE_run O C F.sim F.tm hop
        rw [h1]
        simp only
        rcases recE_run B with ⟨v', cs', hr, hv, hB⟩ | ⟨hr, hu⟩
        · rw [hr]
          simp only
          refine opsE_runS O C l (i + 1) _ ex st' hi' hd' h m _ cs' w ⟨F.sim, F.tm.put hdo' hv, ?_, ?_⟩ hB Q hQ
          · rw [put_defers']; exact F.ds
          · rw [put_size]; exact F.size
        · rw [hr]
          simp only
          rw [hu] at h
          refine opsE_runS O C l (i + 1) _ ex st' hi' hd' h m _ cs w ⟨F.sim, F.tm.put hdo' (.flat rfl), ?_, ?_⟩ B Q hQ
          · rw [put_defers']; exact F.ds
          · rw [put_size]; exact F.size
      · cases h

end
end Go.Em

namespace Go.Em
section
variable {cx : Cx}

def emask (md : Region.Mode) : List Edge → Nat
  | [] => 0
  | e :: l => match Region.binds md e with
    | true => Nat.lor (Nat.pow 2 e.on) (emask md l)
    | false => emask md l

/-- One pass: what may be done behind what is done. -/
def drainPass (md : Region.Mode) : Nat → List Oper → Nat → Nat
  | _, [], done => done
  | i, o :: l, done => match Nat.beq (Nat.land (emask md o.after.toList) done) (emask md o.after.toList) with
    | true => drainPass md (i + 1) l (Nat.lor done (Nat.pow 2 i))
    | false => drainPass md (i + 1) l done

def drain (md : Region.Mode) (ops : List Oper) (full : Nat) : Nat → Nat → Bool
  | 0, done => Nat.beq done full
  | f + 1, done => match Nat.beq done full with
    | true => true
    | false => drain md ops full f (drainPass md 0 ops done)

/-- Is no operation of an open statement left behind, in each mode? -/
def drainsB (ops : List Oper) : Bool := match drain .gc ops (Nat.pow 2 ops.length - 1) ops.length 0 with
  | true => match drain .text ops (Nat.pow 2 ops.length - 1) ops.length 0 with
    | true => drain .any ops (Nat.pow 2 ops.length - 1) ops.length 0
    | false => false
  | false => false

/-- What is to be shown of a statement whose order is open. -/
def DrawOk (cx : Cx) (cf : CallFn) : Prop := ∀ (N : Nat) (ops : Array Oper) (st : St) (ex : Ex) (st' : St), drawE cx cf ops.toList st = some (ex, st') → dstsB N ops.toList = true → drainsB ops.toList = true →
  st'.u = st.u ∧ ∀ (m : Pm) (a : Act) (w : World), Fr N m st a w → ∀ (Q : Exit → Act → World → Prop),
    (∀ m' e a' w', Fr N m' st' a' w' → Stp m st.h w m' st'.h w' → ExR m' ex e → Q e a' w') → ∀ t, wpOps cx.P ops Q (Region.schedule (cx.P.follows .mixedOrders) ops t) a { w with drawn := w.drawn + 1 }

def codeB (N : Nat) : Code → Bool
  | .region _ ops false => dstsB N ops.toList
  | .region _ ops true => match dstsB N ops.toList with
    | true => drainsB ops.toList
    | false => false
  | .seq a b => match codeB N a with
    | true => codeB N b
    | false => false
  | .cond _ a b => match codeB N a with
    | true => codeB N b
    | false => false
  | .block _ a => codeB N a
  | .loop a => codeB N a
  | .scope a => codeB N a
  | _ => true

/-- Where the run of a piece of code begins. -/
def starts (c : Code) (k : List Item) : List Item := match c with
  | .loop x => .code x :: .inLoop x :: k
  | c => .code c :: k

theorem starts_code {P : Program} {b : Frame} {a a' : Act} {c : Code} {k : List Item} {cs cs' : List Frame} {w w' : World} {e : Exit} (h : Arrives P (lone (b.at a (starts c k)) cs w) b k cs' e a' w') :
    Arrives P (lone (b.at a (.code c :: k)) cs w) b k cs' e a' w' := by
  cases c <;> first | exact h | exact .of_steps (.one step_loop) h

/-- What is kept of a run. -/
structure Kept (N : Nat) (dk : Bool) (c₀ : Frame) (rest : List Frame) (m : Pm) (st : St) (cs : List Frame) (w : World) (ex : Ex) (st' : St) (m' : Pm) (e : Exit) (a' : Act) (cs' : List Frame) (w' : World) : Prop where
  fr : Fr N m' st' a' w'
  below : dk = true → Below m' st'.u c₀ rest cs'
  same : dk = false → cs' = cs
  stp : Stp m st.h w m' st'.h w'
  ex : ExR m' ex e

theorem Kept.first {N : Nat} {dk : Bool} {c₀ : Frame} {rest : List Frame} {m m1 m' : Pm} {st st1 st' : St} {cs cs1 : List Frame} {w w1 w' : World} {ex ex1 : Ex} {e1 e : Exit} {a1 a' : Act} {cs' : List Frame}
    (h1 : Kept N dk c₀ rest m st cs w ex1 st1 m1 e1 a1 cs1 w1) (h2 : Kept N dk c₀ rest m1 st1 cs1 w1 ex st' m' e a' cs' w') : Kept N dk c₀ rest m st cs w ex st' m' e a' cs' w' :=
  ⟨h2.fr, h2.below, fun h => (h2.same h).trans (h1.same h), h1.stp.trans h2.stp, h2.ex⟩

theorem exec_run (O : Ok cx) {cf : CallFn} (C : CallsOk cx cf) (D : DrawOk cx cf) {N : Nat} {dk : Bool} {c₀ : Frame} {rest : List Frame} : ∀ (n : Nat) (c : Code) (st : St) (ex : Ex) (st' : St), exec cx cf dk n c st = some (ex, st') → codeB N c = true →
    ∀ (m : Pm) (a : Act) (cs : List Frame) (w : World), Fr N m st a w → (dk = true → Below m st.u c₀ rest cs) → ∀ (b : Frame) (k : List Item), (dk = true → b.kind = .deferred ∧ b.roundOf = none) →
    ∃ m' e a' cs' w', Arrives cx.P (lone (b.at a (starts c k)) cs w) b k cs' e a' w' ∧ Kept N dk c₀ rest m st cs w ex st' m' e a' cs' w' := by
  intro n
  induction n with
  | zero => intro c st ex st' h; cases h
  | succ n ih =>
    intro c st ex st' h hB m a cs w F B b k hb
    have here : ∀ {e}, ExR m ex e → st' = st → Kept N dk c₀ rest m st cs w ex st' m e a cs w := fun he hs => by
      subst hs
      exact ⟨F, B, fun _ => rfl, .refl _ _ _, he⟩
    cases c with
    | skip =>
      simp only [exec] at h; cases h
      exact ⟨m, .normal, a, cs, w, .one step_skip, here .normal rfl⟩
    | label l =>
      simp only [exec] at h; cases h
      exact ⟨m, .normal, a, cs, w, .one step_label, here .normal rfl⟩
    | exit id =>
      simp only [exec] at h; cases h
      exact ⟨m, .exit id, a, cs, w, fun _ hk => .one (step_exit hk), here .exit rfl⟩
    | ret =>
      simp only [exec] at h; cases h
      exact ⟨m, .ret, a, cs, w, ⟨_, .one step_ret⟩, here .ret rfl⟩
    | region id ops d =>
      cases d with
      | false =>
        simp only [codeB] at hB
        simp only [exec] at h
        have hlen : List.range ops.size = List.range' 0 ops.toList.length := by rw [List.range_eq_range']; simp
        cases dk with
        | false =>
          have := opsE_run O C (N := N) (ops := ops) ops.toList 0 st ex st' rfl hB h m a w F (fun e a' w' => ∃ m', Kept N false c₀ rest m st cs w ex st' m' e a' cs w') fun m' e a' w' g1 g2 g3 =>
            ⟨m', g1, (fun h => by cases h), fun _ => rfl, g2, g3⟩
          rw [← hlen] at this
          obtain ⟨e, a', w', ⟨m', hK⟩, hA⟩ := wp_region (id := id) this b k cs
          exact ⟨m', e, a', cs, w', hA, hK⟩
        | true =>
          have := opsE_runS O C (N := N) (ops := ops) (c₀ := c₀) (rest := rest) ops.toList 0 st ex st' rfl hB h m a cs w F (B rfl) (fun e a' cs' w' => ∃ m', Kept N true c₀ rest m st cs w ex st' m' e a' cs' w') fun m' e a' cs' w' g1 g2 g3 g4 =>
            ⟨m', g1, fun _ => g2, (fun h => by cases h), g3, g4⟩
          rw [← hlen] at this
          obtain ⟨e, a', cs', w', ⟨m', hK⟩, hA⟩ := wpS_region (id := id) this b k (hb rfl).1 (hb rfl).2
          exact ⟨m', e, a', cs', w', hA, hK⟩
      | true =>
        simp only [codeB] at hB
        have hB2 : dstsB N ops.toList = true ∧ drainsB ops.toList = true := by
          split at hB
          · exact ⟨by assumption, hB⟩
          · cases hB
        simp only [exec] at h
        obtain ⟨hu, hD⟩ := D N ops st ex st' h hB2.1 hB2.2
        have := wp_region_draw (id := id) (fun t => hD m a w F (fun e a' w' => ∃ m', Kept N dk c₀ rest m st cs w ex st' m' e a' cs w') (fun m' e a' w' g1 g2 g3 =>
            ⟨m', g1, fun h => hu ▸ (let ⟨u', e, hu'⟩ := B h; ⟨u', e, hu'.mono g2.le⟩), fun _ => rfl, g2, g3⟩) t)
        obtain ⟨e, a', w', ⟨m', hK⟩, hA⟩ := this b k cs
        exact ⟨m', e, a', cs, w', hA, hK⟩
    | seq x y =>
      simp only [codeB] at hB
      split at hB
      · rename_i hBx
        simp only [exec] at h
        split at h
        · rename_i st1 hx
          obtain ⟨m1, e1, a1, cs1, w1, hA1, hK1⟩ := ih x st _ st1 hx hBx m a cs w F B b (.code y :: k) hb
          have := hK1.ex
          cases this with
          | normal =>
            obtain ⟨m', e, a', cs', w', hA, hK⟩ := ih y st1 ex st' h hB m1 a1 cs1 w1 hK1.fr hK1.below b k hb
            exact ⟨m', e, a', cs', w', .of_steps (.head step_seq (starts_code (e := .normal) hA1)) (starts_code hA), hK1.first hK⟩
        · rename_i hne
          obtain ⟨m1, e1, a1, cs1, w1, hA1, hK1⟩ := ih x st ex st' h hBx m a cs w F B b (.code y :: k) hb
          refine ⟨m1, e1, a1, cs1, w1, .of_steps (.one step_seq) (.pass (x := .code y) rfl (fun _ _ => .inl ?_) (starts_code hA1)), hK1⟩
          intro he
          subst he
          have := hK1.ex
          cases this
          exact hne st' h
      · cases hB
    | cond c x y =>
      simp only [codeB] at hB
      split at hB
      · rename_i hBx
        simp only [exec] at h
        split at h
        · rename_i hc
          obtain ⟨m', e, a', cs', w', hA, hK⟩ := ih x st ex st' h hBx m a cs w F B b k hb
          exact ⟨m', e, a', cs', w', .of_steps (.one (step_cond (t := true) (bool_inv (ev_V F.tm hc)))) (starts_code hA), hK⟩
        · rename_i hc
          obtain ⟨m', e, a', cs', w', hA, hK⟩ := ih y st ex st' h hB m a cs w F B b k hb
          exact ⟨m', e, a', cs', w', .of_steps (.one (step_cond (t := false) (bool_inv (ev_V F.tm hc)))) (starts_code hA), hK⟩
        · cases h
      · cases hB
    | block id x =>
      simp only [codeB] at hB
      simp only [exec] at h
      split at h
      · rename_i id' st1 hx
        obtain ⟨m1, e1, a1, cs1, w1, hA1, hK1⟩ := ih x st _ st1 hx hB m a cs w F B b (.inBlock id :: k) hb
        have hex := hK1.ex
        have hA1' := starts_code hA1
        cases hex with
        | exit =>
          split at h
          · rename_i hid
            have hid := Nat.eq_of_beq_eq_true hid
            cases h
            refine ⟨m1, .normal, a1, cs1, w1, .head step_block (hA1' k (by simp [exitTo, hid])), ⟨hK1.fr, hK1.below, hK1.same, hK1.stp, .normal⟩⟩
          · rename_i hid
            cases h
            refine ⟨m1, .exit id', a1, cs1, w1, fun k' hk => .head step_block (hA1' k' ?_), ⟨hK1.fr, hK1.below, hK1.same, hK1.stp, .exit⟩⟩
            have : (id == id') = false := by
              simp only [beq_eq_false_iff_ne, ne_eq]
              intro e
              rw [e, Nat.beq_refl] at hid
              cases hid
            simp [exitTo, this, hk]
      · rename_i hne
        obtain ⟨m1, e1, a1, cs1, w1, hA1, hK1⟩ := ih x st ex st' h hB m a cs w F B b (.inBlock id :: k) hb
        have hex := hK1.ex
        have hA1' := starts_code hA1
        cases hex with
        | normal => exact ⟨m1, .normal, a1, cs1, w1, .head step_block (Steps.trans hA1' (.one step_inBlock)), hK1⟩
        | exit => exact absurd h (hne _ _)
        | ret => exact ⟨m1, .ret, a1, cs1, w1, .of_steps (.one step_block) hA1', hK1⟩
        | pan hc => exact ⟨m1, .panic _, a1, cs1, w1, .of_steps (.one step_block) hA1', hK1⟩
    | loop x =>
      simp only [codeB] at hB
      simp only [exec] at h
      split at h
      · rename_i st1 hx
        obtain ⟨m1, e1, a1, cs1, w1, hA1, hK1⟩ := ih x st _ st1 hx hB m a cs w F B b (.inLoop x :: k) hb
        have hex := hK1.ex
        cases hex with
        | normal =>
          obtain ⟨m', e, a', cs', w', hA, hK⟩ := ih (.loop x) st1 ex st' h hB m1 a1 cs1 w1 hK1.fr hK1.below b k hb
          exact ⟨m', e, a', cs', w', .of_steps (Steps.trans (starts_code (e := .normal) hA1) (.one step_inLoop)) hA, hK1.first hK⟩
      · rename_i hne
        obtain ⟨m1, e1, a1, cs1, w1, hA1, hK1⟩ := ih x st ex st' h hB m a cs w F B b (.inLoop x :: k) hb
        refine ⟨m1, e1, a1, cs1, w1, .pass (x := .inLoop x) rfl (fun _ _ => .inl ?_) (starts_code hA1), hK1⟩
        intro he
        subst he
        have := hK1.ex
        cases this
        exact hne st' h
    | scope x =>
      simp only [codeB] at hB
      simp only [exec] at h
      obtain ⟨m1, e1, a1, cs1, w1, hA1, hK1⟩ := ih x st ex st' h hB m a cs w F B b (.inScope x :: k) hb
      have hex := hK1.ex
      have hA1' := starts_code hA1
      cases hex with
      | normal => exact ⟨m1, .normal, a1, cs1, w1, .head step_scope (Steps.trans hA1' (.one step_inScope)), hK1⟩
      | exit => exact ⟨m1, .exit _, a1, cs1, w1, fun k' hk => .head step_scope (hA1' k' (by simp [exitTo, hk])), hK1⟩
      | ret => exact ⟨m1, .ret, a1, cs1, w1, .of_steps (.one step_scope) hA1', hK1⟩
      | pan hc => exact ⟨m1, .panic _, a1, cs1, w1, .of_steps (.one step_scope) hA1', hK1⟩
    | _ => simp only [exec] at h; cases h

end
end Go.Em
