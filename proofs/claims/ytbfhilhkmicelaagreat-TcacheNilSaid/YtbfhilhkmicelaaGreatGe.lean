/-
  Structs and arrays of integers and truth values: how they are compared.
-/
import Derived.Test.YtbfhilhkmicelaaGreatG0
namespace Go.Em

/-- A list, n times. -/
noncomputable def repK (ks : List (Option IntKind)) : Nat → List (Option IntKind)
  | 0 => []
  | n + 1 => ks ++ repK ks n

noncomputable def flatF (cx : Cx) (F : Nat → Option (List (Option IntKind))) : List Field → Nat → Option (List (Option IntKind))
  | [], _ => some []
  | f :: fs, o => match cx.ty f.type, F f.type with
    | some j, some ks => match Nat.beq f.offset o, Nat.beq j.size ks.length with
      | true, true => match flatF cx F fs (o + ks.length) with
        | some r => some (ks ++ r)
        | none => none
      | _, _ => none
    | _, _ => none

/-- The kinds of a plain type's cells; none: a truth value. -/
noncomputable def flatT (cx : Cx) : Nat → Nat → Option (List (Option IntKind))
  | 0, _ => none
  | d + 1, t => match cx.ty t with
    | none => none
    | some i => match i.d with
      | .bool => some [none]
      | .int k => some [some k]
      | .struct fs => flatF cx (flatT cx d) fs.toList 0
      | .array n e => match cx.ty e, flatT cx d e with
        | some j, some ks => match Nat.beq j.size ks.length with
          | true => some (repK ks n)
          | false => none
        | _, _ => none
      | _ => none

/-- Two rows of cells of these kinds. -/
inductive Mt : List (Option IntKind) → List Value → List Value → Prop
  | nil : Mt [] [] []
  | int {k : IntKind} {a b : Int} {ks : List (Option IntKind)} {xs ys : List Value} : Mt ks xs ys → Mt (some k :: ks) (.int k a :: xs) (.int k b :: ys)
  | bool {a b : Bool} {ks : List (Option IntKind)} {xs ys : List Value} : Mt ks xs ys → Mt (none :: ks) (.bool a :: xs) (.bool b :: ys)

noncomputable def cellQ (x y : Value) : Bool := match x, y with
  | .int _ a, .int _ b => a == b
  | .bool a, .bool b => a == b
  | _, _ => false
noncomputable def eqL : List Value → List Value → Bool := @List.rec Value (fun _ => List Value → Bool) (fun _ => true) (fun x _ ih l => @List.rec Value (fun _ => Bool) false (fun y ys _ => and (cellQ x y) (ih ys)) l)
theorem eqL_nil : eqL [] [] = true := rfl
theorem eqL_cons (x y : Value) (xs ys : List Value) : eqL (x :: xs) (y :: ys) = (cellQ x y && eqL xs ys) := rfl

theorem Mt.length {ks : List (Option IntKind)} {xs ys : List Value} (h : Mt ks xs ys) : xs.length = ks.length ∧ ys.length = ks.length := by
  induction h with
  | nil => exact ⟨rfl, rfl⟩
  | int _ ih => simp [ih.1, ih.2]
  | bool _ ih => simp [ih.1, ih.2]

theorem Mt.split : ∀ {k1 k2 : List (Option IntKind)} {xs ys : List Value}, Mt (k1 ++ k2) xs ys → ∃ x1 x2 y1 y2, xs = x1 ++ x2 ∧ ys = y1 ++ y2 ∧ Mt k1 x1 y1 ∧ Mt k2 x2 y2
  | [], k2, xs, ys, h => ⟨[], xs, [], ys, rfl, rfl, .nil, h⟩
  | some k :: k1, k2, _, _, .int (a := a) (b := b) h => by
    obtain ⟨x1, x2, y1, y2, e1, e2, h1, h2⟩ := Mt.split h
    exact ⟨.int k a :: x1, x2, .int k b :: y1, y2, by rw [e1]; rfl, by rw [e2]; rfl, .int h1, h2⟩
  | none :: k1, k2, _, _, .bool (a := a) (b := b) h => by
    obtain ⟨x1, x2, y1, y2, e1, e2, h1, h2⟩ := Mt.split h
    exact ⟨.bool a :: x1, x2, .bool b :: y1, y2, by rw [e1]; rfl, by rw [e2]; rfl, .bool h1, h2⟩

theorem eqL_append {k1 : List (Option IntKind)} {x1 y1 : List Value} (h : Mt k1 x1 y1) (x2 y2 : List Value) : eqL (x1 ++ x2) (y1 ++ y2) = (eqL x1 y1 && eqL x2 y2) := by
  induction h with
  | nil => simp [eqL_nil]
  | int _ ih => simp only [List.cons_append, eqL_cons, ih, Bool.and_assoc]
  | bool _ ih => simp only [List.cons_append, eqL_cons, ih, Bool.and_assoc]

/-- What a part of these cells is, as a value. -/
def PartV (i : Ty) (xs : List Value) (x : Value) : Prop := match aggD i.d with
  | true => x = .agg xs.toArray
  | false => xs = [x]

theorem partA_mid {i : Ty} {pre xs post : List Value} {x : Value} (hp : PartV i xs x) (hs : i.size = xs.length) : partA i (pre ++ (xs ++ post)) pre.length = some x := by
  unfold PartV at hp
  unfold partA
  cases ha : aggD i.d with
  | true =>
    rw [ha] at hp
    dsimp only at hp ⊢
    have e : Nat.ble (pre.length + i.size) (pre ++ (xs ++ post)).length = true := by
      rw [Nat.ble_eq]; simp [hs]
    rw [e]
    simp [hs, hp]
  | false =>
    rw [ha] at hp
    dsimp only at hp ⊢
    rw [hp]; simp

section
variable {cx : Cx} {h : Heap}

/-- What is said of a type. -/
def EqS (cx : Cx) (h : Heap) (d t : Nat) : Prop := ∀ ks, flatT cx d t = some ks → ∀ xs ys, Mt ks xs ys → ∃ i, cx.ty t = some i ∧ (i.size = ks.length → ∃ x y, PartV i xs x ∧ PartV i ys y ∧ eqA cx h d t x y = some (eqL xs ys))

theorem eqFs_flat {d : Nat} (ih : ∀ t, EqS cx h d t) : ∀ (fs : List Field) (o : Nat) (ks : List (Option IntKind)), flatF cx (flatT cx d) fs o = some ks → ∀ (px py xs ys : List Value), px.length = o → py.length = o → Mt ks xs ys →
    eqFs cx (eqA cx h d) (px ++ xs) (py ++ ys) fs = some (eqL xs ys)
  | [], o, ks, hf, px, py, xs, ys, _, _, hm => by
    simp only [flatF] at hf
    cases hf
    cases hm
    simp [eqFs, eqL_nil]
  | f :: fs, o, ks, hf, px, py, xs, ys, hx, hy, hm => by
    simp only [flatF] at hf
    cases hj : cx.ty f.type with
    | none => rw [hj] at hf; cases hf
    | some j =>
      cases hk : flatT cx d f.type with
      | none => rw [hj, hk] at hf; cases hf
      | some k1 =>
        rw [hj, hk] at hf
        dsimp only at hf
        cases h1 : Nat.beq f.offset o with
        | false => rw [h1] at hf; cases hf
        | true =>
          cases h2 : Nat.beq j.size k1.length with
          | false => rw [h1, h2] at hf; cases hf
          | true =>
            rw [h1, h2] at hf
            dsimp only at hf
            cases hr : flatF cx (flatT cx d) fs (o + k1.length) with
            | none => rw [hr] at hf; cases hf
            | some r =>
              rw [hr] at hf
              cases hf
              have e1 := Nat.eq_of_beq_eq_true h1
              have e2 := Nat.eq_of_beq_eq_true h2
              obtain ⟨x1, x2, y1, y2, rfl, rfl, m1, m2⟩ := Mt.split hm
              have hl := m1.length
              obtain ⟨i, hi, hq⟩ := ih f.type k1 hk x1 y1 m1
              rw [hj] at hi
              cases hi
              obtain ⟨x, y, vx, vy, heq⟩ := hq e2
              simp only [eqFs, hj]
              have p1 : partA j (px ++ (x1 ++ x2)) f.offset = some x := by
                rw [e1, ← hx]; exact partA_mid vx (e2.trans hl.1.symm)
              have p2 : partA j (py ++ (y1 ++ y2)) f.offset = some y := by
                rw [e1, ← hy]; exact partA_mid vy (e2.trans hl.2.symm)
              rw [p1, p2]
              dsimp only
              rw [heq, eqL_append m1]
              cases eqL x1 y1 with
              | false => rfl
              | true =>
                dsimp only
                have := eqFs_flat ih fs (o + k1.length) r hr (px ++ x1) (py ++ y1) x2 y2 (by simp [hx, hl.1]) (by simp [hy, hl.2]) m2
                rw [List.append_assoc, List.append_assoc] at this
                rw [this]; simp

theorem eqNs_flat {d e : Nat} {j : Ty} {k1 : List (Option IntKind)} (hj : cx.ty e = some j) (hk : flatT cx d e = some k1) (e2 : j.size = k1.length) (ih : EqS cx h d e) :
    ∀ (n k : Nat) (px py xs ys : List Value), px.length = k * j.size → py.length = k * j.size → Mt (repK k1 n) xs ys →
    eqNs (eqA cx h d e) j (px ++ xs) (py ++ ys) k n = some (eqL xs ys)
  | 0, k, px, py, xs, ys, _, _, hm => by
    cases hm
    simp [eqNs, eqL_nil]
  | n + 1, k, px, py, xs, ys, hx, hy, hm => by
    obtain ⟨x1, x2, y1, y2, rfl, rfl, m1, m2⟩ := Mt.split (k1 := k1) (k2 := repK k1 n) hm
    have hl := m1.length
    obtain ⟨i, hi, hq⟩ := ih k1 hk x1 y1 m1
    rw [hj] at hi
    cases hi
    obtain ⟨x, y, vx, vy, heq⟩ := hq e2
    simp only [eqNs]
    have p1 : partA j (px ++ (x1 ++ x2)) (k * j.size) = some x := by
      rw [← hx]; exact partA_mid vx (e2.trans hl.1.symm)
    have p2 : partA j (py ++ (y1 ++ y2)) (k * j.size) = some y := by
      rw [← hy]; exact partA_mid vy (e2.trans hl.2.symm)
    rw [p1, p2]
    dsimp only
    rw [heq, eqL_append m1]
    cases eqL x1 y1 with
    | false => rfl
    | true =>
      dsimp only
      have := eqNs_flat hj hk e2 ih n (k + 1) (px ++ x1) (py ++ y1) x2 y2 (by simp [hx, hl.1, e2, Nat.add_mul]) (by simp [hy, hl.2, e2, Nat.add_mul]) m2
      rw [List.append_assoc, List.append_assoc] at this
      rw [this]; simp

theorem eqA_flat : ∀ (d t : Nat), EqS cx h d t
  | 0, t => fun ks hk => by simp [flatT] at hk
  | d + 1, t => fun ks hk xs ys hm => by
    have ih := eqA_flat d
    simp only [flatT] at hk
    cases hi : cx.ty t with
    | none => rw [hi] at hk; cases hk
    | some i =>
      refine ⟨i, rfl, fun hsz => ?_⟩
      rw [hi] at hk
      dsimp only at hk
      cases hd : i.d <;> simp only [hd] at hk <;> first | (cases hk; done) | skip
      case bool =>
        cases hk
        cases hm with
        | bool hm =>
          rename_i a b _ _
          cases hm
          refine ⟨.bool a, .bool b, by simp [PartV, aggD, hd], by simp [PartV, aggD, hd], ?_⟩
          simp only [eqA, hi, hd, eqL_cons, eqL_nil, cellQ, Bool.and_true]
      case int k =>
        cases hk
        cases hm with
        | int hm =>
          rename_i a b _ _
          cases hm
          refine ⟨.int k a, .int k b, by simp [PartV, aggD, hd], by simp [PartV, aggD, hd], ?_⟩
          simp only [eqA, hi, hd, eqL_cons, eqL_nil, cellQ, Bool.and_true]
          cases hdec : decEq k k with
          | isTrue _ => rfl
          | isFalse hn => exact absurd rfl hn
      case struct fs =>
        refine ⟨.agg xs.toArray, .agg ys.toArray, by simp [PartV, aggD, hd], by simp [PartV, aggD, hd], ?_⟩
        simp only [eqA, hi, hd]
        have := eqFs_flat ih fs.toList 0 ks hk [] [] xs ys rfl rfl hm
        simpa using this
      case array n e =>
        refine ⟨.agg xs.toArray, .agg ys.toArray, by simp [PartV, aggD, hd], by simp [PartV, aggD, hd], ?_⟩
        simp only [eqA, hi, hd]
        cases hj : cx.ty e with
        | none => rw [hj] at hk; cases hk
        | some j =>
          cases hke : flatT cx d e with
          | none => rw [hj, hke] at hk; cases hk
          | some k1 =>
            rw [hj, hke] at hk
            dsimp only at hk ⊢
            cases h2 : Nat.beq j.size k1.length with
            | false => rw [h2] at hk; cases hk
            | true =>
              rw [h2] at hk
              cases hk
              have := eqNs_flat hj hke (Nat.eq_of_beq_eq_true h2) (ih e) n 0 [] [] xs ys (by simp) (by simp) hm
              simpa using this
end

/-- Are two rows of these kinds? -/
noncomputable def cellK (k : Option IntKind) (x y : Value) : Bool := match k, x, y with
  | some k, .int k1 _, .int k2 _ => match decEq k k1, decEq k k2 with
    | isTrue _, isTrue _ => true
    | _, _ => false
  | none, .bool _, .bool _ => true
  | _, _, _ => false
noncomputable def mtB : List (Option IntKind) → List Value → List Value → Bool := @List.rec (Option IntKind) (fun _ => List Value → List Value → Bool)
  (fun xs ys => @List.rec Value (fun _ => Bool) (@List.rec Value (fun _ => Bool) true (fun _ _ _ => false) ys) (fun _ _ _ => false) xs)
  (fun k _ ih xs ys => @List.rec Value (fun _ => Bool) false (fun x xs _ => @List.rec Value (fun _ => Bool) false (fun y ys _ => @Bool.rec (fun _ => Bool) false (ih xs ys) (cellK k x y)) ys) xs)
theorem mtB_ok : ∀ (ks : List (Option IntKind)) (xs ys : List Value), mtB ks xs ys = true → Mt ks xs ys
  | [], [], [], _ => .nil
  | [], [], _ :: _, h => Bool.noConfusion h
  | [], _ :: _, _, h => Bool.noConfusion h
  | _ :: _, [], _, h => Bool.noConfusion h
  | _ :: _, _ :: _, [], h => Bool.noConfusion h
  | k :: ks, x :: xs, y :: ys, h => by
    change @Bool.rec (fun _ => Bool) false (mtB ks xs ys) (cellK k x y) = true at h
    cases hc : cellK k x y with
    | false => rw [hc] at h; cases h
    | true =>
      rw [hc] at h
      have ih := mtB_ok ks xs ys h
      unfold cellK at hc
      split at hc
      · split at hc
        · rename_i e1 e2 _ _
          subst e1
          subst e2
          exact .int ih
        · cases hc
      · exact .bool ih
      · cases hc

/-- The kinds of the cells that are compared. -/
noncomputable def eqS (cx : Cx) (op : BinOp) (t : Nat) : Option (List (Option IntKind)) := match op with
  | .eql => match cx.ty t with
    | some i => match aggD i.d, flatT cx 60 t with
      | true, some ks => match Nat.beq i.size ks.length with
        | true => some ks
        | false => none
      | _, _ => none
    | none => none
  | _ => none
theorem eqS_ok {cx : Cx} {op : BinOp} {t : Nat} {ks : List (Option IntKind)} (hs : eqS cx op t = some ks) (h : Heap) {xs ys : Array Value} (hm : mtB ks xs.toList ys.toList = true) :
    binE cx h op t (.agg xs) (.agg ys) = some (.bool (eqL xs.toList ys.toList)) := by
  unfold eqS at hs
  cases op <;> simp only at hs <;> try cases hs
  cases hi : cx.ty t with
  | none => rw [hi] at hs; cases hs
  | some i =>
    rw [hi] at hs
    dsimp only at hs
    cases ha : aggD i.d with
    | false => rw [ha] at hs; cases hs
    | true =>
      cases hk : flatT cx 60 t with
      | none => rw [ha, hk] at hs; cases hs
      | some k1 =>
        rw [ha, hk] at hs
        dsimp only at hs
        cases hz : Nat.beq i.size k1.length with
        | false => rw [hz] at hs; cases hs
        | true =>
          rw [hz] at hs
          cases hs
          obtain ⟨i', hi', hq⟩ := eqA_flat (cx := cx) (h := h) 60 t ks hk _ _ (mtB_ok _ _ _ hm)
          rw [hi] at hi'
          cases hi'
          obtain ⟨x, y, vx, vy, heq⟩ := hq (Nat.eq_of_beq_eq_true hz)
          unfold PartV at vx vy
          rw [ha] at vx vy
          dsimp only at vx vy
          subst vx
          subst vy
          have heq : eqA cx h 60 t (.agg xs) (.agg ys) = some (eqL xs.toList ys.toList) := by simpa using heq
          simp only [binE, heq]

/-! Rows of cells that are not known but for their kinds -/
noncomputable def mkC (f : Nat → Int) (g : Nat → Bool) : List (Option IntKind) → Nat → List Value := @List.rec (Option IntKind) (fun _ => Nat → List Value) (fun _ => [])
  (fun k _ ih i => @Option.rec IntKind (fun _ => Value) (.bool (g i)) (fun k => .int k (f i)) k :: ih (Nat.succ i))
theorem eqL_mkC (f : Nat → Int) (g : Nat → Bool) : ∀ (ks : List (Option IntKind)) (i : Nat), eqL (mkC f g ks i) (mkC f g ks i) = true
  | [], _ => rfl
  | k :: ks, i => by
    show eqL (_ :: mkC f g ks (i + 1)) (_ :: mkC f g ks (i + 1)) = true
    rw [eqL_cons, eqL_mkC f g ks (i + 1)]
    cases k <;> simp [cellQ]

/-- A cell is of a kind. -/
def OfK (k : Option IntKind) (v : Value) : Prop := match k with
  | some k => ∃ n, v = .int k n
  | none => ∃ b, v = .bool b
def getN (v : Option Value) : Int := match v with
  | some (.int _ n) => n
  | _ => 0
def getT (v : Option Value) : Bool := match v with
  | some (.bool b) => b
  | _ => false
theorem mkC_of (l : List Value) : ∀ (ks : List (Option IntKind)) (i : Nat), l.length = i + ks.length → (∀ j k v, ks[j]? = some k → l[i + j]? = some v → OfK k v) →
    l.drop i = mkC (fun j => getN l[j]?) (fun j => getT l[j]?) ks i
  | [], i, hl, _ => by
    show _ = []
    apply List.drop_eq_nil_of_le
    simp at hl; omega
  | k :: ks, i, hl, hk => by
    simp only [List.length_cons] at hl
    have hi : i < l.length := by omega
    have ih := mkC_of l ks (i + 1) (by omega) (fun j k v hj hv => hk (j + 1) k v (by simpa using hj) (by rw [← hv]; congr 1; omega))
    rw [List.drop_eq_getElem_cons hi, ih]
    have h0 := hk 0 k l[i] rfl (by simp [hi])
    show _ = @Option.rec IntKind (fun _ => Value) (.bool (getT l[i]?)) (fun k => .int k (getN l[i]?)) k :: mkC _ _ ks (i + 1)
    congr 1
    have hg : l[i]? = some l[i] := by simp [hi]
    cases k with
    | none =>
      obtain ⟨b, hb⟩ := h0
      show _ = Value.bool (getT l[i]?)
      rw [hg, hb]; rfl
    | some k =>
      obtain ⟨n, hn⟩ := h0
      show _ = Value.int k (getN l[i]?)
      rw [hg, hn]; rfl

end Go.Em
