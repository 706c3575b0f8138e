/-
  Equality, and maps.
-/
import Derived.Test.YtbfhilhkmicelaaGreatEm4
import Derived.Laws.StructEq
namespace Go.Em
section
variable {cx : Cx}

theorem bytesEq_iff : ∀ (a b : List UInt8), bytesEq a b = true ↔ a = b
  | [], [] => by simp [bytesEq]
  | [], _ :: _ => by simp [bytesEq]
  | _ :: _, [] => by simp [bytesEq]
  | a :: x, b :: y => by
    simp only [bytesEq]
    split
    · rename_i h
      have : a = b := UInt8.toNat_inj.1 (Nat.eq_of_beq_eq_true h)
      rw [bytesEq_iff x y]
      simp [this]
    · rename_i h
      have : a ≠ b := fun e => by subst e; simp at h
      simp [this]

theorem bytesEq_toList (a b : ByteArray) : bytesEq a.data.toList b.data.toList = (a.toList == b.toList) := by
  rw [Go.ByteArray.toList_eq, Go.ByteArray.toList_eq, Bool.eq_iff_iff, bytesEq_iff, beq_iff_eq]

theorem bytesEq_eq (a b : ByteArray) : bytesEq a.data.toList b.data.toList = (a == b) := by
  rw [bytesEq_toList, beq_toListBytes]

theorem Vs.drop {m : Pm} {l l' : List Value} (h : Vs m l l') : ∀ (n : Nat), Vs m (l.drop n) (l'.drop n) := by
  induction h with
  | nil => intro n; simp; exact .nil
  | cons h hs ih =>
    intro n
    cases n with
    | zero => exact .cons h hs
    | succ n => simpa using ih n

theorem Vs.take {m : Pm} {l l' : List Value} (h : Vs m l l') : ∀ (n : Nat), Vs m (l.take n) (l'.take n) := by
  induction h with
  | nil => intro n; simp; exact .nil
  | cons h hs ih =>
    intro n
    cases n with
    | zero => exact .nil
    | succ n => exact .cons h (ih n)

theorem part_run (O : Ok cx) {m : Pm} {t : Nat} {i : Ty} (hi : cx.ty t = some i) {xs : List Value} {xs' : Array Value} (hx : Vs m xs xs'.toList) {off : Nat} {x : Value} (h : partA i xs off = some x)
    (w : World) : Rd cx (part t xs' off) w m x := by
  unfold partA at h
  split at h
  · rename_i ha
    split at h
    · rename_i hle
      cases h
      refine ⟨.agg (xs'.extract off (off + i.size)), by simp [part, O.run_isAgg hi, ha, O.run_size hi], agg_iff.2 ?_⟩
      rw [Array.toList_extract]
      simpa using (hx.drop off).take i.size
    · cases h
  · rename_i ha
    split at h
    · rename_i v r hd
      cases h
      have hv := hx.drop off
      rw [hd] at hv
      generalize hd' : xs'.toList.drop off = l' at hv
      cases hv with
      | cons hv _ =>
        rename_i v' l2 _
        have : xs'[off]? = some v' := by
          have h0 : (xs'.toList.drop off)[0]? = some v' := by rw [hd']; rfl
          simpa using h0
        exact ⟨v', by simp [part, O.run_isAgg hi, ha, this], hv⟩
    · cases h

theorem live_row {m : Pm} {h : Heap} {w : World} (S : Sim m h w) {n : Nat} (hl : live h n = true) : ∃ o p c e, h.get n = some o ∧ roO o = false ∧ m n = some p ∧ w.heap[p.blk]? = some (.cells c e (0, 0)) := by
  unfold live at hl
  split at hl
  · rename_i size base tr el esz hg
    obtain ⟨p, hp, hr⟩ := S.live _ _ hg
    obtain ⟨c, e, fz, h1, h2, _⟩ := hr
    obtain rfl := h2 rfl
    exact ⟨_, p, c, e, hg, rfl, hp, h1⟩
  · cases hl

theorem sameAddr_other {P : Program} {w : World} {a b : Addr} (hab : a.block ≠ b.block) (ha : ∃ c e, w.heap[a.block]? = some (.cells c e (0, 0))) (hb : ∃ c e, w.heap[b.block]? = some (.cells c e (0, 0))) :
    (sameAddr a b).run P w = .ok false w := by
  obtain ⟨c, e, ha⟩ := ha
  obtain ⟨c', e', hb⟩ := hb
  simp [sameAddr, hab, World.frozen?, ha, noView, viewAt, World.shape?, hb, mayBeOne, stringish]

theorem slice_inv {m : Pm} {b : Option Addr} {n c : Nat} {v' : Value} (h : V m (.slice b n c) v') : ∃ b' c', v' = .slice b' n c' ∧ b'.isNone = b.isNone := by
  cases h with
  | flat h => exact ⟨_, _, rfl, rfl⟩
  | sl _ _ => exact ⟨_, _, rfl, rfl⟩
  | slu _ _ => exact ⟨_, _, rfl, rfl⟩

theorem map_inv {m : Pm} {r : Option Nat} {v' : Value} (h : V m (.map r) v') : ∃ r', v' = .map r' ∧ r'.isNone = r.isNone ∧ ∀ n, r = some n → ∃ p, m n = some p ∧ r' = some p.blk := by
  cases h with
  | flat h => cases r with
    | none => exact ⟨_, rfl, rfl, fun _ h => by cases h⟩
    | some r => simp [flat] at h
  | map h => exact ⟨_, rfl, rfl, fun _ e => by cases e; exact ⟨_, h, rfl⟩⟩

theorem iface_inv {m : Pm} {t : Nat} {v v' : Value} (h : V m (.iface t v) v') : ∃ u, v' = .iface t u ∧ V m v u := by
  cases h with
  | flat h => simp [flat] at h
  | iface h => exact ⟨_, rfl, h⟩

theorem eqFs_run (O : Ok cx) {m : Pm} {w : World} {eq : Nat → Value → Value → Option Bool} {d : Nat}
    (heq : ∀ (t : Nat) (x y : Value) (b : Bool), eq t x y = some b → ∀ (x' y' : Value), V m x x' → V m y y' → (Op.equalIn d t x' y').run cx.P w = .ok b w) {xs ys : List Value} {xs' ys' : Array Value}
    (hx : Vs m xs xs'.toList) (hy : Vs m ys ys'.toList) : ∀ (fs : List Field) (b : Bool), (∀ f ∈ fs, f.name ≠ "_") → eqFs cx eq xs ys fs = some b → (Op.eqFields d xs' ys' fs).run cx.P w = .ok b w
  | [], b, _, h => by cases h; rfl
  | f :: fs, b, hn, h => by
    simp only [eqFs] at h
    split at h
    · cases h
    · rename_i i hi
      split at h
      · rename_i x y hpx hpy
        obtain ⟨x', hx1, hx2⟩ := part_run O hi hx hpx w
        obtain ⟨y', hy1, hy2⟩ := part_run O hi hy hpy w
        have hne := hn f (by simp)
        split at h
        · rename_i he
          have h1 := heq _ _ _ _ he x' y' hx2 hy2
          have h2 := eqFs_run O heq hx hy fs b (fun g hg => hn g (by simp [hg])) h
          simp only [Op.eqFields, if_pos hne, Sem.run_bind, hx1, hy1, h1, Result.andThen_ok, Bool.not_true, Bool.false_eq_true, if_false, h2]
        · rename_i he
          cases h
          have h1 := heq _ _ _ _ he x' y' hx2 hy2
          simp only [Op.eqFields, if_pos hne, Sem.run_bind, hx1, hy1, h1, Result.andThen_ok, Bool.not_false, if_true, Sem.run_pure]
        · cases h
      · cases h

/-- An array's elements, one behind the other. -/
def eqArr (d e n : Nat) (xs ys : Array Value) : List Nat → Sem Bool
  | [] => pure true
  | i :: l => do
    let a ← part e xs (i * n)
    let b ← part e ys (i * n)
    let r ← Op.equalIn d e a b
    if (!r) = true then pure false else eqArr d e n xs ys l

theorem run_equalIn_array {P : Program} (w : World) (d t e len n : Nat) (xs ys : Array Value) (ht : (underlying t).run P w = .ok (.array len e) w) (hn : (sizeOf e).run P w = .ok n w) :
    (Op.equalIn (d + 1) t (.agg xs) (.agg ys)).run P w = (eqArr d e n xs ys (List.range' 0 len)).run P w := by
  simp only [Op.equalIn, Sem.run_bind, ht, Result.andThen_ok, hn]
  rw [Std.Legacy.Range.forIn_eq_forIn_range']
  simp only [Std.Legacy.Range.size, Nat.sub_zero, Nat.add_sub_cancel, Nat.div_one]
  generalize List.range' 0 len = l
  clear ht hn
  induction l generalizing w with
  | nil => simp [eqArr]
  | cons i l ih =>
    simp only [List.forIn_cons, eqArr, Sem.run_bind, Sem.run_ite]
    generalize (part e xs (i * n)).run P w = r1
    cases r1 with
    | ok a w1 =>
      simp only [Result.andThen_ok]
      generalize (part e ys (i * n)).run P w1 = r2
      cases r2 with
      | ok b w2 =>
        simp only [Result.andThen_ok]
        generalize (Op.equalIn d e a b).run P w2 = r3
        cases r3 with
        | ok r w3 =>
          cases r
          · simp only [Result.andThen_ok, Bool.not_false, if_true, Sem.run_pure]
          · simp only [Result.andThen_ok, Bool.not_true, Bool.false_eq_true, if_false, Sem.run_pure]
            exact ih w3
        | halt x w3 => simp [Result.andThen]
      | halt x w2 => simp [Result.andThen]
    | halt x w1 => simp [Result.andThen]

theorem eqNs_run (O : Ok cx) {m : Pm} {w : World} {eq : Value → Value → Option Bool} {d e : Nat} {i : Ty} (hi : cx.ty e = some i)
    (heq : ∀ (x y : Value) (b : Bool), eq x y = some b → ∀ (x' y' : Value), V m x x' → V m y y' → (Op.equalIn d e x' y').run cx.P w = .ok b w) {xs ys : List Value} {xs' ys' : Array Value}
    (hx : Vs m xs xs'.toList) (hy : Vs m ys ys'.toList) : ∀ (n k : Nat) (b : Bool), eqNs eq i xs ys k n = some b → (eqArr d e i.size xs' ys' (List.range' k n)).run cx.P w = .ok b w
  | 0, _, b, h => by cases h; rfl
  | n + 1, k, b, h => by
    simp only [eqNs] at h
    split at h
    · rename_i x y hpx hpy
      obtain ⟨x', hx1, hx2⟩ := part_run O hi hx hpx w
      obtain ⟨y', hy1, hy2⟩ := part_run O hi hy hpy w
      split at h
      · rename_i he
        have h1 := heq _ _ _ he x' y' hx2 hy2
        have h2 := eqNs_run O hi heq hx hy n (k + 1) b h
        simp only [List.range'_succ, eqArr, Sem.run_bind, hx1, hy1, h1, Result.andThen_ok, Bool.not_true, Bool.false_eq_true, if_false, h2]
      · rename_i he
        cases h
        have h1 := heq _ _ _ he x' y' hx2 hy2
        simp only [List.range'_succ, eqArr, Sem.run_bind, hx1, hy1, h1, Result.andThen_ok, Bool.not_false, if_true, Sem.run_pure]
      · cases h
    · cases h

/-- Equality. -/
theorem eqA_run (O : Ok cx) {m : Pm} {h : Heap} {w : World} (S : Sim m h w) : ∀ (d t : Nat) (x y : Value) (b : Bool), eqA cx h d t x y = some b → ∀ (x' y' : Value), V m x x' → V m y y' →
    ∀ D, d ≤ D → (Op.equalIn D t x' y').run cx.P w = .ok b w := by
  intro d
  induction d with
  | zero => intro t x y b he; cases he
  | succ d ih =>
    intro t x y b he x' y' hx hy D hD
    obtain ⟨D, rfl⟩ : ∃ k, D = k + 1 := ⟨D - 1, by omega⟩
    simp only [eqA] at he
    split at he
    · cases he
    · rename_i i hi
      have hu := O.run_under hi w
      have hu' := O.under t i hi
      have hh := O.held t i hi
      have hnm := O.named t i
      generalize hd : i.d = dd at he hu hu' hnm
      cases dd with
      | bool =>
        cases x <;> (try (cases he; done)) <;> cases y <;> (try (cases he; done))
        cases he; obtain rfl := bool_inv hx; obtain rfl := bool_inv hy
        simp [Op.equalIn, hu]
      | int k =>
        cases x <;> (try (cases he; done)) <;> cases y <;> (try (cases he; done))
        simp only at he
        split at he
        · rename_i hk _
          cases he; obtain rfl := int_inv hx; obtain rfl := int_inv hy
          subst hk
          simp [Op.equalIn, hu]
        · cases he
      | string =>
        cases x <;> (try (cases he; done)) <;> cases y <;> (try (cases he; done))
        cases he; obtain rfl := string_inv hx; obtain rfl := string_inv hy
        rw [bytesEq_eq]
        simp [Op.equalIn, hu]
      | pointer e =>
        cases x <;> (try (cases he; done))
        rename_i ox
        cases ox with
        | none =>
          cases y <;> (try (cases he; done))
          rename_i oy
          cases he
          obtain rfl := flat_inv rfl hx
          cases oy with
          | none => obtain rfl := flat_inv rfl hy; simp [Op.equalIn, hu]
          | some a => obtain ⟨p, _, _, rfl⟩ := ptr_inv hy; simp [Op.equalIn, hu]
        | some a =>
          obtain ⟨p, hp, hs, rfl⟩ := ptr_inv hx
          cases y <;> (try (cases he; done))
          rename_i oy
          cases oy with
          | none => cases he; obtain rfl := flat_inv rfl hy; simp [Op.equalIn, hu]
          | some a2 =>
            obtain ⟨p2, hp2, hs2, rfl⟩ := ptr_inv hy
            simp only at he
            split at he
            · rename_i j hj
              split at he
              · rename_i hz _ _
                have hz' : j.size ≠ 0 := by intro e0; rw [e0] at hz; cases hz
                split at he
                · rename_i hbeq
                  cases he
                  have hb := Nat.eq_of_beq_eq_true hbeq
                  rw [hb] at hp; rw [hp2] at hp; cases hp
                  have : (Nat.beq a.off a2.off) = decide (a.off = a2.off) := by
                    rw [Bool.eq_iff_iff]; simp
                  have he2 : ((⟨p.blk, p.base + a.off, none⟩ : Addr) == ⟨p.blk, p.base + a2.off, none⟩) = decide (a.off = a2.off) := by
                    rw [Bool.eq_iff_iff]; simp
                  simp [Op.equalIn, hu, O.run_size hj, hz', sameAddr, this, he2]
                · rename_i hbne
                  split at he
                  · rename_i hl1 hl2
                    cases he
                    obtain ⟨o1, q1, c1, e1, g1, r1, m1, k1⟩ := live_row S hl1
                    obtain ⟨o2, q2, c2, e2, g2, r2, m2, k2⟩ := live_row S hl2
                    rw [hp] at m1; cases m1
                    rw [hp2] at m2; cases m2
                    have hne : a.block ≠ a2.block := fun e0 => by rw [e0] at hbne; simp at hbne
                    have hblk := S.inj _ _ _ _ _ _ g1 g2 hp hp2 hne
                    have := sameAddr_other (P := cx.P) (w := w) (a := ⟨p.blk, p.base + a.off, none⟩) (b := ⟨p2.blk, p2.base + a2.off, none⟩) hblk ⟨_, _, k1⟩ ⟨_, _, k2⟩
                    simp [Op.equalIn, hu, O.run_size hj, hz', this]
                  · cases he
              · cases he
            · cases he
      | struct fs =>
        cases x <;> (try (cases he; done)) <;> cases y <;> (try (cases he; done))
        obtain ⟨x', rfl, hx'⟩ := agg_inv hx
        obtain ⟨y', rfl, hy'⟩ := agg_inv hy
        have hf : cx.P.fieldsOf t = fs := by simp [Program.fieldsOf, hu']
        rw [run_equalIn_struct w D t x' y' (by rw [hf]; exact hu') hh, hf]
        exact eqFs_run O (fun t x y b he x' y' hx hy => ih t x y b he x' y' hx hy D (by omega)) hx' hy' fs.toList b (hnm fs hi rfl) he
      | array n e =>
        cases x <;> (try (cases he; done)) <;> cases y <;> (try (cases he; done))
        obtain ⟨x', rfl, hx'⟩ := agg_inv hx
        obtain ⟨y', rfl, hy'⟩ := agg_inv hy
        simp only at he
        split at he
        · rename_i j hj
          rw [run_equalIn_array w D t e n j.size x' y' hu (O.run_size hj w)]
          exact eqNs_run O hj (fun x y b he x' y' hx hy => ih e x y b he x' y' hx hy D (by omega)) hx' hy' n 0 b he
        · cases he
      | interface ms =>
        cases x <;> (try (cases he; done)) <;> cases y <;> (try (cases he; done))
        · obtain ⟨u, rfl, _⟩ := iface_inv hx
          cases he; obtain rfl := flat_inv rfl hy; simp [Op.equalIn, hu]
        · obtain ⟨u, rfl, _⟩ := iface_inv hy
          cases he; obtain rfl := flat_inv rfl hx; simp [Op.equalIn, hu]
        · cases he; obtain rfl := flat_inv rfl hx; obtain rfl := flat_inv rfl hy; simp [Op.equalIn, hu]
      | slice e =>
        cases x <;> (try (cases he; done))
        rename_i ob _ _
        obtain ⟨b1, c1, rfl, h1⟩ := slice_inv hx
        cases ob with
        | none =>
          cases y <;> (try (cases he; done))
          obtain ⟨b2, c2, rfl, h2⟩ := slice_inv hy
          · cases he
            cases b1 with
            | none => simp [Op.equalIn, hu, h2]
            | some _ => simp at h1
        | some _ =>
          cases y <;> (try (cases he; done))
          rename_i ob2 _ _
          obtain ⟨b2, c2, rfl, h2⟩ := slice_inv hy
          cases ob2 with
          | none =>
            cases he
            cases b1 with
            | none => simp at h1
            | some _ =>
              cases b2 with
              | none => simp [Op.equalIn, hu]
              | some _ => simp at h2
          | some _ => cases he
      | map k e =>
        cases x <;> (try (cases he; done))
        rename_i ob
        obtain ⟨b1, rfl, h1, _⟩ := map_inv hx
        cases ob with
        | none =>
          cases y <;> (try (cases he; done))
          obtain ⟨b2, rfl, h2, _⟩ := map_inv hy
          cases he
          cases b1 with
          | none => simp [Op.equalIn, hu, h2]
          | some _ => simp at h1
        | some _ =>
          cases y <;> (try (cases he; done))
          rename_i ob2
          obtain ⟨b2, rfl, h2, _⟩ := map_inv hy
          cases ob2 with
          | none =>
            cases he
            cases b1 with
            | none => simp at h1
            | some _ =>
              cases b2 with
              | none => simp [Op.equalIn, hu]
              | some _ => simp at h2
          | some _ => cases he
      | func a r v =>
        cases x <;> (try (cases he; done)) <;> cases y <;> (try (cases he; done))
        · obtain ⟨_, _, rfl, _, _⟩ := func_inv hx
          cases he; obtain rfl := flat_inv rfl hy; simp [Op.equalIn, hu]
        · obtain ⟨_, _, rfl, _, _⟩ := func_inv hy
          cases he; obtain rfl := flat_inv rfl hx; simp [Op.equalIn, hu]
        · cases he; obtain rfl := flat_inv rfl hx; obtain rfl := flat_inv rfl hy; simp [Op.equalIn, hu]
      | _ => cases he

theorem keyOk_arr_run (O : Ok cx) {m : Pm} {w : World} {ok : Value → Bool} {em : Bool} {D e : Nat} {j : Ty} (hj : cx.ty e = some j)
    (hok : ∀ (v v' : Value), ok v = true → V m v v' → (Instr.checkKey em D e v').run cx.P w = .ok () w) {xs : List Value} {xs' : Array Value} (hx : Vs m xs xs'.toList) :
    ∀ (n k : Nat), keyOk.arr ok j xs k n = true → (forIn (List.range' k n) PUnit.unit fun i _ => (do
      let a ← sizeOf e
      let b ← part e xs' (i * a)
      Instr.checkKey em D e b
      pure (ForInStep.yield PUnit.unit) : Sem (ForInStep PUnit))).run cx.P w = .ok PUnit.unit w
  | 0, _, _ => rfl
  | n + 1, k, h => by
    simp only [keyOk.arr] at h
    split at h
    · rename_i x hp
      split at h
      · rename_i ho
        obtain ⟨x', h1, h2⟩ := part_run O hj hx hp w
        have h3 := hok _ _ ho h2
        have h4 := keyOk_arr_run O hj hok hx n (k + 1) h
        simp only [List.range'_succ, List.forIn_cons, Sem.run_bind, O.run_size hj, Result.andThen_ok, h1, h3, Sem.run_pure]
        exact h4
      · cases h
    · cases h

theorem keyOk_flds_run (O : Ok cx) {m : Pm} {w : World} {ok : Nat → Value → Bool} {em : Bool} {D : Nat}
    (hok : ∀ (t : Nat) (v v' : Value), ok t v = true → V m v v' → (Instr.checkKey em D t v').run cx.P w = .ok () w) {xs : List Value} {xs' : Array Value} (hx : Vs m xs xs'.toList) :
    ∀ (fs : List Field), (∀ f ∈ fs, f.name ≠ "_") → keyOk.flds cx ok xs fs = true → (forIn fs PUnit.unit fun f _ => (if f.name ≠ "_" then do
      let b ← part f.type xs' f.offset
      Instr.checkKey em D f.type b
      pure (ForInStep.yield PUnit.unit)
    else pure (ForInStep.yield PUnit.unit) : Sem (ForInStep PUnit))).run cx.P w = .ok PUnit.unit w
  | [], _, _ => rfl
  | f :: fs, hn, h => by
    simp only [keyOk.flds] at h
    split at h
    · cases h
    · rename_i i hi
      split at h
      · rename_i x hp
        split at h
        · rename_i ho
          obtain ⟨x', h1, h2⟩ := part_run O hi hx hp w
          have h3 := hok _ _ _ ho h2
          have h4 := keyOk_flds_run O hok hx fs (fun g hg => hn g (by simp [hg])) h
          simp only [List.forIn_cons, if_pos (hn f (by simp)), Sem.run_bind, Result.andThen_ok, h1, h3, Sem.run_pure]
          exact h4
        · cases h
      · cases h

theorem keyOk_run (O : Ok cx) {m : Pm} {w : World} {em : Bool} : ∀ (d t : Nat) (v v' : Value), keyOk cx d t v = true → V m v v' → ∀ D, d ≤ D → (Instr.checkKey em D t v').run cx.P w = .ok () w := by
  intro d
  induction d with
  | zero => intro t v v' h; cases h
  | succ d ih =>
    intro t v v' h hv D hD
    obtain ⟨D, rfl⟩ : ∃ k, D = k + 1 := ⟨D - 1, by omega⟩
    simp only [keyOk] at h
    split at h
    · cases h
    · rename_i i hi
      have hu := O.run_under hi w
      have hnm := O.named t i
      generalize hd : i.d = dd at h hu hnm
      cases dd with
      | interface ms => cases h
      | array n e =>
        cases v <;> (try (cases h; done))
        obtain ⟨x', rfl, hx'⟩ := agg_inv hv
        simp only at h
        split at h
        · rename_i j hj
          have := keyOk_arr_run O hj (em := em) (D := D) (fun v v' ho hv => ih e v v' ho hv D (by omega)) hx' n 0 h
          simp only [Instr.checkKey, Sem.run_bind, hu, Result.andThen_ok]
          rw [Std.Legacy.Range.forIn_eq_forIn_range']
          simp only [Std.Legacy.Range.size, Nat.sub_zero, Nat.add_sub_cancel, Nat.div_one]
          rw [this]
          rfl
        · cases h
      | struct fs =>
        cases v <;> (try (cases h; done))
        obtain ⟨x', rfl, hx'⟩ := agg_inv hv
        have := keyOk_flds_run O (em := em) (D := D) (fun t v v' ho hv => ih t v v' ho hv D (by omega)) hx' fs.toList (hnm fs hi rfl) h
        simp only [Instr.checkKey, Sem.run_bind, hu, Result.andThen_ok]
        rw [← Array.forIn_toList, this]
        rfl
      | _ => simp only [Instr.checkKey, Sem.run_bind, hu, Result.andThen_ok, Sem.run_pure]

/-- What a search finds. -/
inductive FindR (m : Pm) : Option (Nat × Value) → Option (Nat × Value) → Prop
  | none : FindR m none none
  | some {i : Nat} {v v' : Value} : V m v v' → FindR m (some (i, v)) (some (i, v'))

theorem findAsking_run {P : Program} {m : Pm} {w : World} {kt : Nat} {k' : Value} {eq : Value → Option Bool} (heq : ∀ (x : Value) (b : Bool), eq x = some b → ∀ (x' : Value), V m x x' → (Op.equal kt k' x').run P w = .ok b w) :
    ∀ (es es' : List MapEntry) (i : Nat) (r : Option (Nat × Value)), Es m es es' → findA eq es i = some r → ∃ r', (Instr.findAsking kt k' es' i).run P w = .ok r' w ∧ FindR m r r' := by
  intro es es' i r he
  induction he generalizing i r with
  | nil => intro h; cases h; exact ⟨none, rfl, .none⟩
  | cons hk hv _ ih =>
    intro h
    simp only [findA] at h
    split at h
    · rename_i e
      cases h
      have := heq _ _ e _ hk
      exact ⟨_, by simp [Instr.findAsking, this], .some hv⟩
    · rename_i e
      have := heq _ _ e _ hk
      obtain ⟨r', h1, h2⟩ := ih (i + 1) r h
      exact ⟨r', by simp [Instr.findAsking, this, h1], h2⟩
    · cases h

theorem findNow_run {m : Pm} {d : TypeDesc} {k' : Value} {eq : Value → Option Bool} (heq : ∀ (x : Value) (b : Bool), eq x = some b → ∀ (x' : Value), V m x x' → ∀ c, Instr.sameNow d k' x' = some c → c = b) :
    ∀ (es es' : List MapEntry) (i : Nat) (r r' : Option (Nat × Value)), Es m es es' → findA eq es i = some r → Instr.findNow d k' es' i = some r' → FindR m r r' := by
  intro es es' i r r' he
  induction he generalizing i r with
  | nil => intro h h'; cases h; cases h'; exact .none
  | cons hk hv _ ih =>
    intro h h'
    simp only [findA] at h
    simp only [Instr.findNow] at h'
    split at h'
    · rename_i c
      cases h'
      split at h
      · cases h; exact .some hv
      · rename_i e; have := heq _ _ e _ hk _ c; cases this
      · cases h
    · rename_i c
      split at h
      · rename_i e; have := heq _ _ e _ hk _ c; cases this
      · exact ih (i + 1) r h h'
      · cases h
    · cases h'

theorem sameNow_eq {P : Program} {d : TypeDesc} {t : Nat} {a b : Value} {r c : Bool} {w : World} (hu : (underlying t).run P w = .ok d w) (h : Instr.sameNow d a b = some r)
    {D : Nat} (he : (Op.equalIn (D + 1) t a b).run P w = .ok c w) : r = c := by
  simp only [Op.equalIn, Sem.run_bind, hu, Result.andThen_ok] at he
  unfold Instr.sameNow at h
  split at h
  · split at h
    · rename_i hk
      cases h; subst hk
      simp at he
      exact he
    · cases h
  · cases h
    simp only [Sem.run_pure] at he
    rw [← (by injection he : _ = c)]
  · cases h
    simp only [Sem.run_pure] at he
    rw [← (by injection he : _ = c)]
  · cases h

theorem findK_run (O : Ok cx) {m : Pm} {h : Heap} {w : World} (S : Sim m h w) {kt : Nat} {i : Ty} (hi : cx.ty kt = some i) {k k' : Value} (hk : V m k k') {es es' : List MapEntry} (he : Es m es es')
    {r : Option (Nat × Value)} (hf : findK cx h kt k es = some r) : ∃ r', (Instr.findKey kt k' es').run cx.P w = .ok r' w ∧ FindR m r r' := by
  have hu := O.run_under hi w
  have e1 : ∀ (x : Value) (b : Bool), eqA cx h 60 kt k x = some b → ∀ (x' : Value), V m x x' → (Op.equal kt k' x').run cx.P w = .ok b w :=
    fun x b he x' hx => eqA_run O S 60 kt k x b he k' x' hk hx _ (by unfold Op.maxDepth; omega)
  obtain ⟨D, hD⟩ : ∃ D, Op.maxDepth = D + 1 := ⟨9999, rfl⟩
  unfold findK at hf
  simp only [Instr.findKey, Sem.run_bind, hu, Result.andThen_ok]
  split
  · rename_i r' hn
    refine ⟨r', rfl, findNow_run (fun x b hb x' hx c hc => ?_) es es' 0 r r' he hf hn⟩
    have := e1 x b hb x' hx
    unfold Op.equal at this
    rw [hD] at this
    exact sameNow_eq hu hc this
  · exact findAsking_run e1 es es' 0 r he hf

theorem getMap_run {m : Pm} {h : Heap} {w : World} (S : Sim m h w) {x x' : Value} (hx : V m x x') {es : List MapEntry} (hg : getMap h x = some es) :
    (x = .map none ∧ x' = .map none ∧ es = []) ∨ ∃ r p clock es', x = .map (some r) ∧ x' = .map (some p.blk) ∧ m r = some p ∧ h.get r = some (.map es clock) ∧ w.heap[p.blk]? = some (.map es' clock) ∧ Es m es es'.toList := by
  unfold getMap at hg
  split at hg
  · cases hg; exact .inl ⟨rfl, flat_inv rfl hx, rfl⟩
  · rename_i r
    split at hg
    · rename_i es2 clock hgr
      cases hg
      obtain ⟨p, hp, es', h1, h2⟩ := S.live _ _ hgr
      obtain ⟨r', rfl, _, hm⟩ := map_inv hx
      obtain ⟨q, hq, rfl⟩ := hm _ rfl
      rw [hp] at hq; cases hq
      exact .inr ⟨r, p, clock, es', rfl, rfl, hp, hgr, h1, h2⟩
    · cases hg
  · cases hg

theorem run_getObj_map {P : Program} {w : World} {r : Nat} {es : Array MapEntry} {clock : Nat} (h : w.heap[r]? = some (.map es clock)) : (getObj r).run P w = .ok (.map es clock) w := by
  simp [getObj, Sem.run, h]

theorem Es.isEmpty {m : Pm} {es es' : List MapEntry} (h : Es m es es') : es'.isEmpty = es.isEmpty := by cases h <;> rfl

/-- A look-up. -/
theorem lookupE_run (O : Ok cx) {m : Pm} {h : Heap} {w : World} (S : Sim m h w) {t : Nat} {x x' k k' v : Value} {ok : Bool} (hx : V m x x') (hk : V m k k') (hl : lookupE cx h t x k ok = some v) :
    Rd cx (Instr.lookup t x' k' ok) w m v := by
  unfold lookupE at hl
  split at hl
  · rename_i i hi
    have hu := O.run_under hi w
    split at hl
    · rename_i kt et hd
      rw [hd] at hu
      split at hl
      · rename_i es ei hgm hko het
        have hz := O.run_zero het w
        have hzV := O.zeroV het m
        obtain ⟨ki, hki⟩ : ∃ ki, cx.ty kt = some ki := by
          unfold keyOk at hko
          cases hc : cx.ty kt with
          | none => rw [hc] at hko; cases hko
          | some ki => exact ⟨ki, rfl⟩
        have hchk : ∀ em, (Instr.checkKey em 10000 kt k').run cx.P w = .ok () w := fun em => keyOk_run O 60 kt k k' hko hk 10000 (by omega)
        have fin : ∀ (es' : List MapEntry), Es m es es' → ∃ v', ((Instr.findKey kt k' es').run cx.P w).andThen (fun a w' => Sem.run cx.P (match a with
            | some (_, v) => do
              let x ← (pure (v, true) : Sem (Value × Bool))
              pure (if ok = true then Value.tuple #[x.1, .bool x.2] else x.1)
            | none => do
              let z ← zeroValue et
              let x ← (pure (z, false) : Sem (Value × Bool))
              pure (if ok = true then Value.tuple #[x.1, .bool x.2] else x.1)) w') = .ok v' w ∧ V m v v' := by
          intro es' he
          split at hl
          · rename_i j y hf
            obtain ⟨r', h1, h2⟩ := findK_run O S hki hk he hf
            cases h2 with
            | some hv =>
              simp only [h1, Result.andThen_ok, Sem.run_bind, Sem.run_pure]
              cases ok
              · cases hl; exact ⟨_, rfl, hv⟩
              · cases hl; exact ⟨_, rfl, tuple_iff.2 (.cons hv (.cons (V.bool m true) .nil))⟩
          · rename_i hf
            obtain ⟨r', h1, h2⟩ := findK_run O S hki hk he hf
            cases h2 with
            | none =>
              simp only [h1, Result.andThen_ok, Sem.run_bind, hz, Sem.run_pure]
              cases ok
              · cases hl; exact ⟨_, rfl, hzV⟩
              · cases hl; exact ⟨_, rfl, tuple_iff.2 (.cons hzV (.cons (V.bool m false) .nil))⟩
          · cases hl
        rcases getMap_run S hx hgm with ⟨rfl, rfl, rfl⟩ | ⟨r, p, clock, es', rfl, rfl, hp, hgr, hw, he⟩
        · obtain ⟨v', h1, h2⟩ := fin [] .nil
          refine ⟨v', ?_, h2⟩
          simp only [Instr.lookup, Sem.run_bind, hu, Result.andThen_ok, Sem.run_pure, hchk]
          exact h1
        · obtain ⟨v', h1, h2⟩ := fin es'.toList he
          refine ⟨v', ?_, h2⟩
          simp only [Instr.lookup, Sem.run_bind, hu, Result.andThen_ok, Sem.run_pure, run_getObj_map hw, hchk]
          exact h1
      · cases hl
    · cases hl
  · cases hl

theorem Es.length {m : Pm} {es es' : List MapEntry} (h : Es m es es') : es'.length = es.length := by
  induction h with
  | nil => rfl
  | cons _ _ _ ih => simp [ih]

theorem Es.keyAt {m : Pm} {es es' : List MapEntry} (h : Es m es es') {k k' : Value} (hk : V m k k') : ∀ (i : Nat), V m (keyAt es i k) (((es'[i]?).map (·.key)).getD k') := by
  induction h with
  | nil => intro i; simpa [Em.keyAt] using hk
  | cons h1 _ _ ih =>
    intro i
    cases i with
    | zero => simpa [Em.keyAt] using h1
    | succ i => simpa [Em.keyAt] using ih i

theorem Es.mod {m : Pm} {es es' : List MapEntry} (h : Es m es es') {k k' v v' : Value} (hk : V m k k') (hv : V m v v') : ∀ (i : Nat), Es m (modE es i k v) (es'.modify i fun e => { e with key := k', val := v' }) := by
  induction h with
  | nil => intro i; simpa [modE] using .nil
  | cons h1 h2 h3 ih =>
    intro i
    cases i with
    | zero => simp only [modE, List.modify_zero_cons]; exact .cons hk hv h3
    | succ i => simp only [modE, List.modify_succ_cons]; exact .cons h1 h2 (ih i)

theorem Es.dropE {m : Pm} {es es' : List MapEntry} (h : Es m es es') : ∀ (i : Nat), Es m (Em.dropE es i) (es'.eraseIdx i) := by
  induction h with
  | nil => intro i; simpa [Em.dropE] using .nil
  | cons h1 h2 h3 ih =>
    intro i
    cases i with
    | zero => simpa [Em.dropE] using h3
    | succ i => simp only [Em.dropE, List.eraseIdx_cons_succ]; exact .cons h1 h2 (ih i)

theorem Es.append {m : Pm} {a a' b b' : List MapEntry} (h : Es m a a') (h' : Es m b b') : Es m (a ++ b) (a' ++ b') := by
  induction h with
  | nil => exact h'
  | cons h1 h2 _ ih => exact .cons h1 h2 ih

theorem all_zip {f : Value → Value → Bool} : ∀ (a b : List Value), ((a.zip b).all fun (x, y) => f x y) = true → ∀ (i : Nat) (x y : Value), a[i]? = some x → b[i]? = some y → f x y = true := by
  intro a b h i x y hx hy
  rw [List.all_eq_true] at h
  exact h (x, y) (List.mem_iff_getElem?.2 ⟨i, by simp [List.getElem?_zip_eq_some, hx, hy]⟩)

theorem same_ptr {m : Pm} {a : Option Addr} {a' b' : Value} (h : V m (.pointer a) a') (h' : V m (.pointer a) b') : ∃ x, a' = .pointer x ∧ b' = .pointer x := by
  cases a with
  | none => exact ⟨_, flat_inv rfl h, flat_inv rfl h'⟩
  | some a =>
    obtain ⟨p, hp, _, rfl⟩ := ptr_inv h
    obtain ⟨q, hq, _, rfl⟩ := ptr_inv h'
    rw [hp] at hq; cases hq
    exact ⟨_, rfl, rfl⟩

theorem chan_inv {m : Pm} {r : Option Nat} {v' : Value} (h : V m (.chan r) v') : ∃ r', v' = .chan r' ∧ r'.isNone = r.isNone ∧ ∀ n, r = some n → ∃ p, m n = some p ∧ r' = some p.blk := by
  cases h with
  | flat h => cases r with
    | none => exact ⟨_, rfl, rfl, fun _ h => by cases h⟩
    | some r => simp [flat] at h
  | chan h => exact ⟨_, rfl, rfl, fun _ e => by cases e; exact ⟨_, h, rfl⟩⟩

theorem same_chan {m : Pm} {a : Option Nat} {a' b' : Value} (h : V m (.chan a) a') (h' : V m (.chan a) b') : ∃ x, a' = .chan x ∧ b' = .chan x := by
  cases a with
  | none => exact ⟨_, flat_inv rfl h, flat_inv rfl h'⟩
  | some a =>
    obtain ⟨r, rfl, _, hr⟩ := chan_inv h
    obtain ⟨s, rfl, _, hs⟩ := chan_inv h'
    obtain ⟨p, hp, rfl⟩ := hr _ rfl
    obtain ⟨q, hq, rfl⟩ := hs _ rfl
    rw [hp] at hq; cases hq
    exact ⟨_, rfl, rfl⟩

theorem sameBits_V {m : Pm} : ∀ (n : Nat) (a b : Value), Instr.sameBits n a b = true → ∀ a' b', V m a a' → V m b b' → Instr.sameBits n a' b' = true := by
  intro n
  induction n with
  | zero =>
    intro a b h a' b' ha hb
    cases a <;> cases b <;> first
      | (simp only [Instr.sameBits] at h; cases h; done)
      | (cases ha <;> cases hb <;> first | exact h | (simp only [Instr.sameBits] at h; cases h; done))
      | (simp only [Instr.sameBits, beq_iff_eq] at h; subst h; obtain ⟨x, rfl, rfl⟩ := same_ptr ha hb; simp [Instr.sameBits]; done)
      | (simp only [Instr.sameBits, beq_iff_eq] at h; subst h; obtain ⟨x, rfl, rfl⟩ := same_chan ha hb; simp [Instr.sameBits]; done)
  | succ n ih =>
    intro a b h a' b' ha hb
    cases a <;> cases b <;> first
      | (simp only [Instr.sameBits] at h; cases h; done)
      | (simp only [Instr.sameBits, beq_iff_eq] at h; subst h; obtain ⟨x, rfl, rfl⟩ := same_ptr ha hb; simp [Instr.sameBits]; done)
      | (simp only [Instr.sameBits, beq_iff_eq] at h; subst h; obtain ⟨x, rfl, rfl⟩ := same_chan ha hb; simp [Instr.sameBits]; done)
      | (simp only [Instr.sameBits, Bool.and_eq_true] at h
         obtain ⟨u, rfl, hu⟩ := iface_inv ha
         obtain ⟨u', rfl, hu'⟩ := iface_inv hb
         simp only [Instr.sameBits, Bool.and_eq_true]
         exact ⟨h.1, ih _ _ h.2 _ _ hu hu'⟩)
      | (simp only [Instr.sameBits, Bool.and_eq_true] at h
         obtain ⟨u, rfl, hu⟩ := agg_inv ha
         obtain ⟨u', rfl, hu'⟩ := agg_inv hb
         simp only [Instr.sameBits, Bool.and_eq_true]
         have l1 := hu.length
         have l2 := hu'.length
         refine ⟨by simp at h l1 l2 ⊢; omega, ?_⟩
         rw [List.all_eq_true]
         rintro ⟨x', y'⟩ hm
         obtain ⟨i, hi⟩ := List.mem_iff_getElem?.1 hm
         obtain ⟨hx', hy'⟩ := List.getElem?_zip_eq_some.1 hi
         have k1 : i < u.toList.length := by rcases Nat.lt_or_ge i u.toList.length with q | q; exact q; rw [List.getElem?_eq_none q] at hx'; cases hx'
         have k2 : i < u'.toList.length := by rcases Nat.lt_or_ge i u'.toList.length with q | q; exact q; rw [List.getElem?_eq_none q] at hy'; cases hy'
         obtain ⟨z, z1, z2⟩ := hu.get i _ (List.getElem?_eq_getElem (by omega))
         obtain ⟨z', z1', z2'⟩ := hu'.get i _ (List.getElem?_eq_getElem (by omega))
         rw [hx'] at z1; cases z1
         rw [hy'] at z1'; cases z1'
         exact ih _ _ (all_zip _ _ h.2 i _ _ (List.getElem?_eq_getElem (by omega)) (List.getElem?_eq_getElem (by omega))) _ _ z2 z2')
      | (cases ha <;> cases hb <;> first | exact h | (simp only [Instr.sameBits] at h; cases h; done))

end
end Go.Em
