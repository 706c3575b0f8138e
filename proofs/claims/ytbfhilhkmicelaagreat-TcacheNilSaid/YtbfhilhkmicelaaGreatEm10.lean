/-
  Conversions, what is put together, addresses of parts.
-/
import Derived.Test.YtbfhilhkmicelaaGreatEm9
namespace Go.Em
section
variable {cx : Cx}

theorem strOf_run {P : Program} {m : Pm} {w : World} : ∀ (l : List Value) (l' : List Value) (acc bs : List UInt8), Vs m l l' → strOf l acc = some bs →
    (forIn l' (⟨acc.reverse.toArray⟩ : ByteArray) fun c s => (match c with
      | .int .u8 n => pure (ForInStep.yield (s.push (UInt8.ofNat n.toNat)))
      | _ => do
        stuck "bytesToString: byte expected"
        pure (ForInStep.yield s) : Sem (ForInStep ByteArray))).run P w = .ok ⟨bs.toArray⟩ w
  | [], _, acc, bs, hv, h => by
    cases hv
    simp only [strOf] at h
    cases h
    rfl
  | v :: l, _, acc, bs, hv, h => by
    cases hv with
    | cons h1 h2 =>
      cases v with
      | int k n =>
        cases k <;> simp only [strOf] at h <;> try (cases h; done)
        obtain rfl := int_inv h1
        have := strOf_run (P := P) (w := w) l _ (UInt8.ofNat n.toNat :: acc) bs h2 h
        simp only [List.forIn_cons, Sem.run_bind, Sem.run_pure, Result.andThen_ok]
        have e : (⟨acc.reverse.toArray⟩ : ByteArray).push (UInt8.ofNat n.toNat) = ⟨(UInt8.ofNat n.toNat :: acc).reverse.toArray⟩ := by
          simp [ByteArray.push]
        rw [e]
        exact this
      | _ => simp only [strOf] at h; cases h

theorem convertE_run (O : Ok cx) {m : Pm} {h : Heap} {w : World} (S : Sim m h w) {s d : Nat} {x x' v : Value} (hx : V m x x') (hc : convertE cx h s d x = some v) :
    (convert s d x').run cx.P w = .ok v w ∧ flat v = true := by
  unfold convertE at hc
  split at hc
  · rename_i si di hsi hdi
    have hu := O.run_under hsi w
    have hu2 := O.run_under hdi w
    generalize si.d = sd at hc hu
    generalize di.d = dd at hc hu2
    split at hc
    · cases hc
      obtain rfl := int_inv hx
      exact ⟨by simp only [convert, Sem.run_bind, hu, hu2, Result.andThen_ok, Conv.intToInt, Sem.run_pure], rfl⟩
    · split at hc
      · rename_i ei he
        have hu3 := O.run_under he w
        split at hc
        · rename_i hd
          cases hc
          rw [hd] at hu3
          obtain rfl := flat_inv rfl hx
          exact ⟨by simp only [convert, Sem.run_bind, hu, hu2, hu3, Result.andThen_ok, Conv.bytesToString, Sem.run_pure], rfl⟩
        · cases hc
      · cases hc
    · split at hc
      · rename_i ei he
        have hu3 := O.run_under he w
        split at hc
        · rename_i hd
          rw [hd] at hu3
          split at hc
          · rename_i l hl
            split at hc
            · rename_i bs hbs
              cases hc
              obtain ⟨p, hp, hsp, l', h1, h2⟩ := loadN_run (P := cx.P) S hl
              obtain ⟨q, hq, _, h6⟩ := slice_some hx
              rw [hp] at hq; cases hq
              have h3 := strOf_run (P := cx.P) (w := w) l l'.toList [] bs h2 hbs
              refine ⟨?_, rfl⟩
              rcases h6 with ⟨_, rfl⟩ | ⟨_, _, rfl⟩ <;>
                (simp only [convert, Sem.run_bind, hu, hu2, hu3, Result.andThen_ok, Conv.bytesToString, h1]
                 rw [← Array.forIn_toList]
                 refine (congrArg (fun r => Result.andThen r _) (show _ = _ from h3)).trans ?_
                 rfl)
            · cases hc
          · cases hc
        · cases hc
      · cases hc
    · cases hc
  · cases hc

/-- Lists of parts: how `fill` lays them. -/
theorem put_length : ∀ (zs : List Value) (off : Nat) (vs : List Value), (fillE.put zs off vs).length = zs.length
  | [], _, [] => rfl
  | [], _, _ :: _ => rfl
  | _ :: _, _, [] => by simp [fillE.put]
  | _ :: zs, 0, v :: vs => by simp [fillE.put, put_length zs 0 vs]
  | _ :: zs, n + 1, v :: vs => by simp [fillE.put, put_length zs n (v :: vs)]

theorem put_get : ∀ (zs : List Value) (off : Nat) (vs : List Value) (k : Nat), off + vs.length ≤ zs.length → (fillE.put zs off vs)[k]? = if off ≤ k ∧ k < off + vs.length then vs[k - off]? else zs[k]?
  | zs, off, [], k, _ => by
    rw [if_neg (by simp)]
    cases zs <;> simp [fillE.put]
  | [], off, v :: vs, k, h => by simp at h
  | z :: zs, 0, v :: vs, k, h => by
    cases k with
    | zero => simp [fillE.put]
    | succ k =>
      simp only [fillE.put, List.getElem?_cons_succ]
      rw [put_get zs 0 vs k (by simp at h; omega)]
      simp only [List.length_cons]
      by_cases hk : 0 ≤ k ∧ k < 0 + vs.length
      · rw [if_pos hk, if_pos (by omega)]; simp
      · rw [if_neg hk, if_neg (by omega)]
  | z :: zs, n + 1, v :: vs, k, h => by
    cases k with
    | zero => simp [fillE.put]
    | succ k =>
      simp only [fillE.put, List.getElem?_cons_succ]
      rw [put_get zs n (v :: vs) k (by simp at h ⊢; omega)]
      by_cases hk : n ≤ k ∧ k < n + (v :: vs).length
      · rw [if_pos hk, if_pos (by omega), show k + 1 - (n + 1) = k - n from by omega]
      · rw [if_neg hk, if_neg (by omega)]

theorem foldl_set_get (off : Nat) : ∀ (vs : List Value) (s : Nat) (cs : Array Value), (∀ k, ((vs.zipIdx s).foldl (fun (cs : Array Value) (x : Value × Nat) => cs.setIfInBounds (off + x.2) x.1) cs)[k]? =
    if off + s ≤ k ∧ k < off + s + vs.length ∧ k < cs.size then vs[k - (off + s)]? else cs[k]?) ∧ ((vs.zipIdx s).foldl (fun (cs : Array Value) (x : Value × Nat) => cs.setIfInBounds (off + x.2) x.1) cs).size = cs.size
  | [], s, cs => by simp; intro k h1 h2; omega
  | v :: vs, s, cs => by
    simp only [List.zipIdx_cons, List.foldl_cons]
    obtain ⟨h1, h2⟩ := foldl_set_get off vs (s + 1) (cs.setIfInBounds (off + s) v)
    refine ⟨fun k => ?_, by rw [h2]; simp⟩
    rw [h1 k]
    simp only [Array.size_setIfInBounds, List.length_cons]
    by_cases hk : k = off + s
    · subst hk
      rw [if_neg (by omega)]
      by_cases hlt : off + s < cs.size
      · rw [if_pos (by omega)]; simp [hlt]
      · rw [if_neg (by omega)]; simp [hlt]
    · by_cases hk2 : off + (s + 1) ≤ k ∧ k < off + (s + 1) + vs.length ∧ k < cs.size
      · rw [if_pos hk2, if_pos (by omega), show k - (off + s) = (k - (off + (s + 1))) + 1 from by omega]; simp
      · rw [if_neg hk2, if_neg (by omega)]
        rw [Array.getElem?_setIfInBounds_ne (Ne.symm hk)]

/-- What `fill` makes of a list of parts. -/
theorem fill_run {m : Pm} {place : Nat → Option (Nat × Nat)} {n : Nat} : ∀ (ps ps' : List (Nat × Value)) (zs : List Value) (zs' : Array Value) (l : List (Nat × List Value)), Ps m ps ps' → Vs m zs zs'.toList → zs.length = n →
    placesE place n ps = some l → ∃ c : Array Value, Instr.fill place zs' ps' = some c ∧ Vs m (fillE zs l) c.toList ∧ c.size = n
  | [], _, zs, zs', l, hp, hz, hn, h => by
    cases hp; cases h
    refine ⟨zs', rfl, hz, ?_⟩
    have := hz.length
    simp at this
    omega
  | (i, v) :: ps, _, zs, zs', l, hp, hz, hn, h => by
    cases hp with
    | cons hv hps =>
      rename_i v' ps'
      simp only [placesE] at h
      split at h
      · rename_i off size hpl
        split at h
        · rename_i r h1 h2 h3
          cases h
          have h1' := Nat.eq_of_beq_eq_true h1
          have h2' := Nat.le_of_ble_eq_true h2
          have hvc := hv.cells
          have hl := hvc.length
          have hzl := hz.length
          simp only [Array.length_toList] at hl hzl
          obtain ⟨g1, g2⟩ := foldl_set_get off v'.cells.toList 0 zs'
          have key : Vs m (fillE.put zs off v.cells.toList) ((v'.cells.toList.zipIdx 0).foldl (fun (cs : Array Value) (x : Value × Nat) => cs.setIfInBounds (off + x.2) x.1) zs').toList := by
            refine Vs.of_get (by rw [put_length]; simp [g2]; omega) fun k hk => ?_
            rw [put_length] at hk
            rw [List.getD_eq_getElem?_getD, List.getD_eq_getElem?_getD, put_get _ _ _ _ (by simp only [Array.length_toList]; omega)]
            simp only [Array.getElem?_toList, g1 k, Array.length_toList, Nat.add_zero]
            by_cases hin : off ≤ k ∧ k < off + v.cells.size
            · rw [if_pos hin, if_pos (by omega)]
              have := hvc.getD (k - off) (by simp only [Array.length_toList]; omega)
              simpa only [List.getD_eq_getElem?_getD, Array.getElem?_toList] using this
            · rw [if_neg hin, if_neg (by omega)]
              have := hz.getD k hk
              simpa only [List.getD_eq_getElem?_getD, Array.getElem?_toList] using this
          obtain ⟨c, k1, k2, k3⟩ := fill_run ps ps' _ _ r hps key (by rw [put_length]; exact hn) h3
          refine ⟨c, ?_, k2, k3⟩
          simp only [Instr.fill, hpl]
          rw [if_neg (by
            have a1 : v'.cells.size = size := by omega
            have a2 : ¬ zs'.size < off + v'.cells.size := by omega
            simp [a1] at a2 ⊢
            omega)]
          have e : v'.cells.zipIdx.foldl (fun cs (x : Value × Nat) => cs.setIfInBounds (off + x.2) x.1) zs' = (v'.cells.toList.zipIdx 0).foldl (fun (cs : Array Value) (x : Value × Nat) => cs.setIfInBounds (off + x.2) x.1) zs' := by
            rw [← Array.foldl_toList, Array.toList_zipIdx]
          rw [← k1, ← e]
        · cases h
      · cases h

theorem fieldAt_eq (fs : List Field) : ∀ (i : Nat), fieldAt fs i = fs[i]? := by
  induction fs with
  | nil => intro i; simp [fieldAt]
  | cons f fs ih =>
    intro i
    cases i with
    | zero => simp [fieldAt]
    | succ i => simpa [fieldAt] using ih i

end
end Go.Em
