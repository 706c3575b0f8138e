/-
  Addresses of parts; parts; types; comparisons.
-/
import Derived.Test.YtbfhilhkmicelaaGreatEm11
import Derived.Laws.StructEq
namespace Go.Em
section
variable {cx : Cx}

theorem fieldAddrE_run (O : Ok cx) {m : Pm} {t f : Nat} {x x' v : Value} (hx : V m x x') (h : fieldAddrE cx t x f = some v) (w : World) : Rd cx (Instr.fieldAt t x' f) w m v := by
  unfold fieldAddrE at h
  split at h
  · rename_i i a hi
    have hu := O.run_under hi w
    split at h
    · rename_i fs hd
      rw [hd] at hu
      split at h
      · rename_i g hg
        rw [fieldAt_eq] at hg
        have hg' : fs[f]? = some g := by simpa using hg
        split at h
        · rename_i j hj
          have hs := O.run_size hj w
          obtain ⟨p, hp, hsp, rfl⟩ := ptr_inv hx
          split at h
          · cases h
          · rename_i hne
            have hne' : ¬ j.size = 0 := fun e => by rw [e] at hne; cases hne
            have hrun : (Instr.fieldAt t (.pointer (some ⟨p.blk, p.base + a.off, none⟩)) f).run cx.P w = .ok (.pointer (some ⟨p.blk, p.base + a.off + g.offset, none⟩)) w := by
              simp [Instr.fieldAt, hu, hg', Instr.sureAddr, fieldPlace, hs, hne', addr_add]
            refine ⟨_, hrun, ?_⟩
            rw [Nat.add_assoc]
            split at h
            · rename_i h0
              have h0 := Nat.eq_of_beq_eq_true h0
              cases h
              obtain ⟨ab, ao, as⟩ := a
              simp only at hsp; subst hsp
              rw [h0]
              exact .ptr hp
            · cases h
              exact .ptr hp
        · cases h
      · cases h
    · cases h
  · cases h

theorem fieldE_run (O : Ok cx) {m : Pm} {t f : Nat} {x x' v : Value} (hx : V m x x') (h : fieldE cx t x f = some v) (w : World) : Rd cx (Instr.field t x' f) w m v := by
  unfold fieldE at h
  split at h
  · rename_i i cs hi
    have hu := O.run_under hi w
    split at h
    · rename_i fs hd
      rw [hd] at hu
      split at h
      · rename_i g hg
        rw [fieldAt_eq] at hg
        have hg' : fs[f]? = some g := by simpa using hg
        split at h
        · rename_i j hj
          obtain ⟨cs', rfl, hcs⟩ := agg_inv hx
          obtain ⟨v', hr, hV⟩ := part_run O hj hcs h w
          refine ⟨v', ?_, hV⟩
          simp [Instr.field, hu, hg', asAgg, hr]
        · cases h
      · cases h
    · cases h
  · cases h

theorem place_V {m : Pm} {p : Pl} {a : Addr} {n : Nat} {v : Value} (hp : m a.block = some p) (hsp : a.spot = none) (h : (match Nat.beq n 0 with
    | true => some (Value.pointer (some a))
    | false => some (.pointer (some ⟨a.block, a.off + n, none⟩))) = some v) : V m v (.pointer (some ⟨p.blk, p.base + a.off + n, none⟩)) := by
  rw [Nat.add_assoc]
  split at h
  · rename_i h0
    have h0 := Nat.eq_of_beq_eq_true h0
    cases h
    obtain ⟨ab, ao, as⟩ := a
    simp only at hsp; subst hsp
    rw [h0]
    exact .ptr hp
  · cases h
    exact .ptr hp

theorem indexAddrE_run (O : Ok cx) {m : Pm} {t : Nat} {x x' i i' v : Value} (hx : V m x x') (hi : V m i i') (h : indexAddrE cx t x i = some v) (w : World) : Rd cx (Instr.indexAt t x' i') w m v := by
  unfold indexAddrE at h
  split at h
  · rename_i ti k n hti
    obtain rfl := int_inv hi
    have hu := O.run_under hti w
    split at h
    · rename_i len e a hd
      rw [hd] at hu
      split at h
      · rename_i j h1 h2 hj
        have h1 : 0 ≤ n := of_decide_eq_true h1
        have h2 : n.toNat < len := Nat.le_of_ble_eq_true h2
        obtain ⟨p, hp, hsp, rfl⟩ := ptr_inv hx
        have hlt : 0 ≤ n ∧ n < (len : Int) := ⟨h1, by omega⟩
        refine ⟨.pointer (some ⟨p.blk, p.base + a.off + n.toNat * j.size, none⟩), ?_, place_V hp hsp h⟩
        simp [Instr.indexAt, asIntOf, hu, Instr.sureAddr, hlt, O.run_size hj, addr_add]
      · cases h
    · rename_i e a len c hd
      rw [hd] at hu
      split at h
      · rename_i j h1 h2 hj
        have h1 : 0 ≤ n := of_decide_eq_true h1
        have h2 : n.toNat < len := Nat.le_of_ble_eq_true h2
        obtain ⟨p, hp, hsp, h3⟩ := slice_some hx
        have hlt : 0 ≤ n ∧ n < (len : Int) := ⟨h1, by omega⟩
        refine ⟨.pointer (some ⟨p.blk, p.base + a.off + n.toNat * j.size, none⟩), ?_, place_V hp hsp h⟩
        rcases h3 with ⟨_, rfl⟩ | ⟨_, _, rfl⟩ <;> simp [Instr.indexAt, asIntOf, hu, hlt, O.run_size hj, addr_add]
      · cases h
    · cases h
  · cases h

theorem indexE_run (O : Ok cx) {m : Pm} {t : Nat} {x x' i i' v : Value} (hx : V m x x') (hi : V m i i') (h : indexE cx t x i = some v) (w : World) : Rd cx (Instr.index t x' i') w m v := by
  unfold indexE at h
  split at h
  · rename_i ti k n hti
    obtain rfl := int_inv hi
    have hu := O.run_under hti w
    split at h
    · rename_i len e cs hd
      rw [hd] at hu
      split at h
      · rename_i j h1 h2 hj
        have h1 : 0 ≤ n := of_decide_eq_true h1
        have h2 : n.toNat < len := Nat.le_of_ble_eq_true h2
        obtain ⟨cs', rfl, hcs⟩ := agg_inv hx
        obtain ⟨v', hr, hV⟩ := part_run O hj hcs h w
        have hlt : 0 ≤ n ∧ n < (len : Int) := ⟨h1, by omega⟩
        refine ⟨v', ?_, hV⟩
        simp [Instr.index, asIntOf, hu, hlt, O.run_size hj, hr]
      · cases h
    · rename_i s hd
      rw [hd] at hu
      obtain rfl := string_inv hx
      split at h
      · rename_i b r h1 hdr
        have h1 : 0 ≤ n := of_decide_eq_true h1
        cases h
        have hb : s[n.toNat]? = some b := by
          have h0 : (s.data.toList.drop n.toNat)[0]? = some b := by rw [hdr]; rfl
          have h3 : s.data[n.toNat]? = some b := by simpa using h0
          have hlt : n.toNat < s.data.size := by
            rcases Nat.lt_or_ge n.toNat s.data.size with l | l
            · exact l
            · rw [Array.getElem?_eq_none l] at h3; cases h3
          have hlt' : n.toNat < s.size := hlt
          rw [Array.getElem?_eq_getElem hlt] at h3
          rw [getElem?_pos s n.toNat hlt']
          exact h3
        refine ⟨.int .u8 b.toNat, ?_, V.int m _ _⟩
        simp [Instr.index, asIntOf, hu, h1, hb]
      · cases h
    · cases h
  · cases h

theorem assertE_run (O : Ok cx) {m : Pm} {xt want : Nat} {ok : Bool} {x x' v : Value} (hx : V m x x') (h : assertE cx x want ok = some v) (w : World) : Rd cx (Instr.typeAssert x' xt want ok) w m v := by
  unfold assertE at h
  split at h
  · rename_i i hi
    have hu := O.run_under hi w
    have hz := O.run_zero hi w
    have hzV := O.zeroV hi m
    have ht : ∀ {a b a' b' : Value}, V m a a' → V m b b' → V m (.tuple #[a, b]) (.tuple #[a', b']) := fun h1 h2 => tuple_iff.2 (.cons h1 (.cons h2 .nil))
    generalize i.d = d at h hu
    split at h
    · cases h
    · rename_i hni
      cases h
      obtain rfl := flat_inv rfl hx
      refine ⟨_, ?_, ht hzV (V.bool m false)⟩
      cases d <;> first | exact absurd rfl (hni _) | simp [Instr.typeAssert, hu, hz]
    · rename_i t u hni
      obtain ⟨u', rfl, hV⟩ := iface_inv hx
      split at h
      · rename_i he
        have he := Nat.eq_of_beq_eq_true he
        cases h
        refine ⟨_, ?_, ht hV (V.bool m true)⟩
        cases d <;> first | exact absurd rfl (hni _) | simp [Instr.typeAssert, hu, he]
      · rename_i he
        have he : ¬ t = want := fun e => by rw [e, Nat.beq_refl] at he; cases he
        cases h
        refine ⟨_, ?_, ht hzV (V.bool m false)⟩
        cases d <;> first | exact absurd rfl (hni _) | simp [Instr.typeAssert, hu, he, hz]
    · rename_i t u hni
      obtain ⟨u', rfl, hV⟩ := iface_inv hx
      split at h
      · rename_i he
        have he := Nat.eq_of_beq_eq_true he
        cases h
        refine ⟨u', ?_, hV⟩
        cases d <;> first | exact absurd rfl (hni _) | simp [Instr.typeAssert, hu, he]
      · cases h
    · cases h
  · cases h

theorem tupAt_run {m : Pm} {vs : Array Value} {t' v : Value} {n : Nat} (ht : V m (.tuple vs) t') (h : tupAt vs.toList n = some v) (w : World) : Rd cx (Instr.extract t' n) w m v := by
  obtain ⟨vs', rfl, hV⟩ := tuple_inv ht
  have key : ∀ (l : List Value) (n : Nat), tupAt l n = l[n]? := by
    intro l
    induction l with
    | nil => intro n; simp [tupAt]
    | cons x l ih => intro n; cases n <;> simp [tupAt, ih]
  rw [key] at h
  obtain ⟨v', h1, h2⟩ := hV.get n v h
  refine ⟨v', ?_, h2⟩
  have : vs'[n]? = some v' := by simpa using h1
  simp [Instr.extract, this]

theorem unE_run {op : UnOp} {m : Pm} {x x' v : Value} (hx : V m x x') (h : unE op x = some v) (w : World) : Rd cx (Op.unary op x') w m v := by
  unfold unE at h
  split at h
  · obtain rfl := int_inv hx
    cases op <;> simp only at h <;> cases h <;> exact ⟨_, by simp [Op.unary, Op.intArith, Op.intBits], .flat rfl⟩
  · obtain rfl := bool_inv hx
    cases op <;> simp only at h <;> cases h <;> exact ⟨_, by simp [Op.unary], .flat rfl⟩
  · cases h

theorem foldMin_run {m : Pm} {w : World} : ∀ (l l' : List Value) (mx : Bool) (x x' v : Value), V m x x' → Vs m l l' → foldMin mx x l = some v →
    Rd cx (l'.foldlM (match mx with
      | true => Builtin.max2
      | false => Builtin.min2) x') w m v
  | [], _, mx, x, x', v, hx, hl, h => by
    cases hl
    simp only [foldMin] at h
    cases h
    exact ⟨x', by simp, hx⟩
  | y :: l, _, mx, x, x', v, hx, hl, h => by
    cases hl with
    | cons hy hl =>
      cases x <;> try (cases y <;> simp only [foldMin] at h <;> cases h; done)
      rename_i k a
      cases y <;> simp only [foldMin] at h <;> try (cases h; done)
      rename_i k' b
      obtain rfl := int_inv hx
      obtain rfl := int_inv hy
      obtain ⟨v', hr, hV⟩ := foldMin_run (w := w) l _ mx _ _ v (V.int m k _) hl h
      refine ⟨v', ?_, hV⟩
      cases mx <;> simpa [Builtin.max2, Builtin.min2] using hr

end
end Go.Em
