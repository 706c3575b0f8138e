/-
  What is put together; new blocks.
-/
import Derived.Test.YtbfhilhkmicelaaGreatEm10
import Derived.Laws.Tables
import Derived.Laws.MakeOwn
import Derived.Great.BuildSlice
namespace Go.Em
section
variable {cx : Cx}

theorem Ps.nil_inv {m : Pm} {l : List (Nat × Value)} (h : Ps m [] l) : l = [] := by cases h; rfl

theorem fill_conv {f g : Nat → Option (Nat × Nat)} (hfg : ∀ k r, f k = some r → g k = some r) : ∀ (l : List (Nat × Value)) (c d : Array Value), Instr.fill f c l = some d → Instr.fill g c l = some d
  | [], c, d, h => h
  | (i, v) :: l, c, d, h => by
    simp only [Instr.fill] at h ⊢
    cases hf : f i with
    | none => rw [hf] at h; cases h
    | some r =>
      rw [hf] at h
      rw [hfg i r hf]
      simp only at h ⊢
      split at h
      · cases h
      · rename_i hn
        rw [if_neg hn]
        exact fill_conv hfg l _ d h

theorem places_some {P : Program} : ∀ (fs : List Field), (∀ f ∈ fs, (P.info? f.type).isSome = true) → ∃ ps : List (Nat × Nat), fs.mapM (fun (f : Field) => (P.info? f.type).map fun i => (f.offset, i.size)) = some ps ∧
    ∀ (k : Nat) (f : Field), fs[k]? = some f → ∃ i, P.info? f.type = some i ∧ ps[k]? = some (f.offset, i.size)
  | [], _ => ⟨[], rfl, fun k f h => by simp at h⟩
  | f :: fs, h => by
    obtain ⟨i, hi⟩ := Option.isSome_iff_exists.1 (h f (by simp))
    obtain ⟨ps, h1, h2⟩ := places_some fs fun f hf => h f (by simp [hf])
    refine ⟨(f.offset, i.size) :: ps, by simp [hi, h1], fun k g hg => ?_⟩
    cases k with
    | zero => simp at hg; subst hg; exact ⟨i, hi, rfl⟩
    | succ k => simpa using h2 k g (by simpa using hg)

theorem buildE_run (O : Ok cx) {m : Pm} {t : Nat} {ps : List (Nat × Value)} {ps' : Array (Nat × Value)} {v : Value} (hp : Ps m ps ps'.toList) (h : buildE cx t ps = some v) (w : World) :
    ∃ v', (Instr.build t ps').run cx.P w = .ok v' w ∧ V m v v' := by
  unfold buildE at h
  split at h
  · cases h
  · rename_i i hi
    obtain ⟨x, hx, hxs, _, hxz⟩ := O.info t i hi
    have hu := O.under t i hi
    have hz := O.zero t i hi
    have hzs := O.zsize t i hi
    have hzv : Vs m i.zero.cells.toList i.zero.cells.toList := Vs.of_flat hz.1
    split at h
    · rename_i fs hd
      rw [hd] at hu
      obtain ⟨pl, hpl, hpk⟩ := places_some (P := cx.P) fs.toList (O.fields t i fs hi hd)
      have key : ∀ (c : Array Value), Instr.fill (pl.toArray[·]?) i.zero.cells ps'.toList = some c → cx.P.built t ps'.toList = some c := fun c hc => by
        simp only [Program.built, hx, hu, hxz, hpl, hc]
      split at h
      · cases h
        have e := hp.nil_inv
        refine ⟨.agg i.zero.cells, run_build w t _ _ (key _ (by rw [e]; rfl)), agg_iff.2 hzv⟩
      · split at h
        · rename_i l hl
          cases h
          have hconv : ∀ (k : Nat) (r : Nat × Nat), (match fieldAt fs.toList k with
              | some f => match cx.ty f.type with
                | some j => some (f.offset, j.size)
                | none => none
              | none => none) = some r → pl.toArray[k]? = some r := fun k r hr => by
            rw [fieldAt_eq] at hr
            split at hr
            · rename_i f hf
              split at hr
              · rename_i j hj
                cases hr
                obtain ⟨y, hy, hk⟩ := hpk k f hf
                obtain ⟨y', hy', hs, _⟩ := O.info _ _ hj
                rw [hy] at hy'; cases hy'
                rw [← hs]
                simpa using hk
              · cases hr
            · cases hr
          obtain ⟨c, h1, h2, _⟩ := fill_run (place := fun k => match fieldAt fs.toList k with
              | some f => match cx.ty f.type with
                | some j => some (f.offset, j.size)
                | none => none
              | none => none) _ _ _ i.zero.cells l hp hzv (by simp) hl
          refine ⟨.agg c, run_build w t _ _ (key _ (fill_conv hconv _ _ _ h1)), agg_iff.2 (by simpa using h2)⟩
        · cases h
    · rename_i n e hd
      rw [hd] at hu
      split at h
      · rename_i j hj
        obtain ⟨y, hy, hys, _⟩ := O.info e j hj
        split at h
        · cases h
          have e1 := hp.nil_inv
          refine ⟨.agg i.zero.cells, run_build w t _ _ ?_, agg_iff.2 hzv⟩
          simp only [Program.built, hx, hu, hxz, hy, hys, e1, Instr.fill]
        · split at h
          · rename_i l hl
            cases h
            obtain ⟨c, h1, h2, _⟩ := fill_run _ _ _ i.zero.cells l hp hzv (by simp) hl
            refine ⟨.agg c, run_build w t _ _ ?_, agg_iff.2 (by simpa using h2)⟩
            simp only [Program.built, hx, hu, hxz, hy, hys, h1]
          · cases h
      · cases h
    · cases h

/-- A row made of a list is what the model's new block holds. -/
theorem mkRow_obj {m' : Pm} {w : World} {p : Pl} {n elem esz e : Nat} {cs : List Value} {c : Array Value} (hn : cs.length = n) (hc : Vs m' cs (c.toList.take n)) (hs : n ≤ c.size) (hb : p.blk = w.heap.size) (h0 : p.base = 0)
    (hl : p.lim = c.size) (he : esz ≠ 0 → p.esz = esz) : ObjR m' p (w.alloc (.cells c e (0, 0))) (mkRow cs n elem esz) := by
  obtain ⟨base, hr, hbs⟩ := mkRow_spec cs n elem esz hn
  rw [hr]
  refine ⟨c, e, (0, 0), ?_, fun _ => rfl, he, by omega, by omega, fun i hi => ?_⟩
  · show (w.heap.push _)[p.blk]? = _
    rw [hb]; simp
  · rw [rowAt_nil, hbs i hi]
    obtain ⟨v', h1, h2⟩ := hc.get i (cs[i]'(by omega)) (by simp)
    rw [lget_eq]
    refine ⟨v', ?_, by simpa [show i < cs.length by omega] using h2⟩
    rw [List.getElem?_take_of_lt hi] at h1
    rw [h0]
    simpa using h1

theorem Vs.take_self {m : Pm} {l : List Value} {c : Array Value} (h : Vs m l c.toList) : Vs m l (c.toList.take l.length) := by
  rw [← h.length, List.take_length]
  exact h

theorem mkRow_obj' {m' : Pm} {w : World} {p : Pl} {n elem e : Nat} {cs : List Value} {c : Array Value} (hn : cs.length = n) (hc : Vs m' cs c.toList) (hb : p = ⟨w.heap.size, 0, c.size, 1⟩) : ObjR m' p (w.alloc (.cells c e (0, 0))) (mkRow cs n elem 0) := by
  subst hb
  have := hc.length
  simp only [Array.length_toList] at this
  exact mkRow_obj hn (hn ▸ hc.take_self) (by omega) rfl rfl rfl (fun h => absurd rfl h)

theorem madeCells_get (z : Array Value) (n i : Nat) (hi : i < n) : (madeCells z n)[i]? = some (z.getD (i % z.size) undef) ∨ z.size = 0 := by
  rcases Nat.eq_zero_or_pos z.size with e | e
  · exact .inr e
  · left
    have := Nat.mod_lt i e
    simp [madeCells, hi, this]

theorem lmod_eq (zs : List Value) (i : Nat) : lmod zs i = zs.getD (i % zs.length) undef := lget_eq _ _

theorem row_flat {m : Pm} {z : Value} {size n : Nat} (hz : ∀ v ∈ z.cells.toList, flat v = true) (hzs : z.cells.size = size) (hs : size ≠ 0) (i : Nat) (hi : i < n) :
    ∃ v', (madeCells z.cells n)[i]? = some v' ∧ V m (rowAt (match z.cells.toList with
      | [x] => fun _ => x
      | zs => lmod zs) .nil i) v' := by
  have hpos : 0 < z.cells.size := by omega
  have hlt := Nat.mod_lt i hpos
  refine ⟨z.cells[i % z.cells.size], by simp [madeCells, hi, hlt], ?_⟩
  rw [rowAt_nil]
  have hf : flat z.cells[i % z.cells.size] = true := hz _ (by simp)
  have e : (match z.cells.toList with
      | [x] => fun _ => x
      | zs => lmod zs) i = z.cells[i % z.cells.size] := by
    have key : ∀ l : List Value, l = z.cells.toList → (match l with
      | [x] => fun _ => x
      | zs => lmod zs) i = z.cells[i % z.cells.size] := fun l hl => by
      split
      · rename_i x
        have h1 : z.cells = #[x] := by rw [← Array.toList_inj, ← hl]
        simp [h1]
      · rw [lmod_eq, hl]
        simp [hlt]
    exact key _ rfl
  rw [e]
  exact .flat hf

theorem run_buildSlice0 {P : Program} (w : World) (t e : TypeId) (len : Nat) (parts : Array (Nat × Value)) (cells : Array Value) (ie : TypeInfo) (z : Value)
    (hu : P.underlying t = some (.slice e)) (hie : P.info? e = some ie) (h0 : len * ie.size = 0)
    (h : Instr.fill (fun i => some (i * ie.size, ie.size)) (madeCells z.cells (len * ie.size)) parts.toList = some cells) :
    (Instr.buildSlice t len parts).run P w = .ok (.slice (some ⟨w.heap.size, 0, none⟩) len len) (w.alloc (.cells cells e)) := by
  have e0 : ∀ f : Nat → Value, (Array.range 0).map f = #[] := fun f => by simp
  unfold madeCells at h
  rw [h0, e0] at h
  simp only [Instr.buildSlice, Sem.run_bind, run_underlying hu, sizeOf, typeInfo, run_program, hie, Result.andThen_ok, Sem.run_pure, h0, if_true, gt_iff_lt, Nat.not_lt_zero, if_false, e0, h, newRow, run_newObj_alloc]

set_option maxHeartbeats 2000000 in
/-- A block is made. -/
theorem makeE_run (O : Ok cx) {m : Pm} {tm : Tr Value} {a : Act} (T : Tm m tm a.tmps) {o : Oper} {hh : Heap} {v : Value} {b : Obj} (h : makeE cx tm hh o.op = some (v, b)) (w : World) (hm : m hh.nx = none) :
    ∃ (p : Pl) (x : Go.Obj) (v' : Value), (execOp a.eval o).run cx.P w = .ok (.value v') (w.alloc x) ∧ p.blk = w.heap.size ∧ V (m.put hh.nx p) v v' ∧ ObjR (m.put hh.nx p) p (w.alloc x) b := by
  have hput : ∀ p : Pl, (m.put hh.nx p) hh.nx = some p := fun p => put_self
  have hle : ∀ p : Pl, m.Le (m.put hh.nx p) := fun p => Pm.le_put hm
  unfold makeE at h
  split at h
  · -- alloc
    rename_i t ho
    split at h
    · rename_i i hi
      cases h
      obtain ⟨hz, _⟩ := O.zero t i hi
      refine ⟨⟨w.heap.size, 0, i.zero.cells.size, 1⟩, .cells i.zero.cells t (0, 0), .pointer (some ⟨w.heap.size, 0, none⟩), ?_, rfl, .ptr (hput _), mkRow_obj' (by simp) (Vs.of_flat hz) rfl⟩
      simp only [execOp, ho, Instr.alloc, Sem.run_bind, O.run_zero hi, Result.andThen_ok, newVar, newRow, run_newObj_alloc, Sem.run_pure]
    · cases h
  · -- box
    rename_i t x ho
    split at h
    · rename_i u hu
      cases h
      have hV := ev_V T hu
      refine ⟨⟨w.heap.size, 0, (a.eval x).cells.size, 1⟩, .cells (a.eval x).cells t (0, 0), .pointer (some ⟨w.heap.size, 0, none⟩), ?_, rfl, .ptr (hput _), mkRow_obj' (by simp) (hV.cells.mono (hle _)) rfl⟩
      simp only [execOp, ho, Instr.box, Sem.run_bind, Result.andThen_ok, newVar, newRow, run_newObj_alloc, Sem.run_pure]
    · cases h
  · -- buildSlice
    rename_i t n ps ho
    split at h
    · rename_i l hl
      have hP := evParts_V T hl
      unfold buildSliceE at h
      split at h
      · cases h
      · rename_i i hi
        have hu := O.under t i hi
        split at h
        · rename_i e hd
          rw [hd] at hu
          split at h
          · rename_i j hj
            split at h
            · rename_i r h1 h2 h3 h4
              cases h
              have h1 := Nat.le_of_ble_eq_true h1
              have h3 := Nat.eq_of_beq_eq_true h3
              have h2 : j.size ≠ 0 := fun e => by rw [e] at h2; cases h2
              obtain ⟨y, hy, hys, _, hyz⟩ := O.info e j hj
              obtain ⟨hz, _⟩ := O.zero e j hj
              have hrep : Vs m (repl j.zero.cells.toList n) (madeCells j.zero.cells (n * j.size)).toList := by
                have e1 := zeroCells_repl j.zero.cells n
                have e2 : Builtin.zeroCells j.zero.cells n = madeCells j.zero.cells (n * j.size) := by
                  simp [Builtin.zeroCells, madeCells, h3]
                rw [← e2, e1]
                exact Vs.repl hz n
              have hlen : (repl j.zero.cells.toList n).length = n * j.size := by rw [repl_length]; simp [h3]
              obtain ⟨c, k1, k2, k3⟩ := fill_run (place := fun k => some (k * j.size, j.size)) _ (ps.map fun (i, x) => (i, a.eval x)).toList _ (madeCells j.zero.cells (n * j.size)) r (by simpa using hP) hrep hlen h4
              have k4 : c.size = n * j.size := k3
              have k5 := k2.length
              simp only [Array.length_toList] at k5
              refine ⟨⟨w.heap.size, 0, c.size, 1⟩, .cells c e (0, 0), .slice (some ⟨w.heap.size, 0, none⟩) n n, ?_, rfl, .sl (hput _) ?_, mkRow_obj' (by omega) (k2.mono (hle _)) rfl⟩
              · have hrun : (Instr.buildSlice t n (ps.map fun (i, x) => (i, a.eval x))).run cx.P w = .ok (.slice (some ⟨w.heap.size, 0, none⟩) n n) (w.alloc (.cells c e (0, 0))) := by
                  rw [← hys] at k1 h1
                  by_cases h0 : n * y.size = 0
                  · exact run_buildSlice0 w t e n _ c y j.zero hu hy h0 k1
                  · exact run_buildSlice (P := cx.P) w t e n _ c y j.zero hu hy hyz (by omega) h0 k1
                simp only [execOp, ho, Sem.run_bind, hrun, Result.andThen_ok, Sem.run_pure]
              · have : n ≤ n * j.size := Nat.le_mul_of_pos_right n (by omega)
                unfold unk; omega
            · cases h
          · cases h
        · cases h
    · cases h
  · -- makeMap
    rename_i t ho
    cases h
    refine ⟨⟨w.heap.size, 0, 0, 0⟩, .map #[] 0, .map (some w.heap.size), ?_, rfl, .map (hput _), #[], ?_, .nil⟩
    · simp only [execOp, ho, Instr.makeMap, Option.map_none, Sem.run_bind, Result.andThen_ok, run_newObj_alloc, Sem.run_pure]
    · show (w.heap.push _)[w.heap.size]? = _
      simp
  · -- makeMap with a size
    rename_i t r ho
    split at h
    · rename_i i k n hi hr
      split at h
      · rename_i kt et hd
        cases h
        have hu := O.run_under hi
        rw [hd] at hu
        have e := int_inv (ev_V T hr)
        refine ⟨⟨w.heap.size, 0, 0, 0⟩, .map #[] 0, .map (some w.heap.size), ?_, rfl, .map (hput _), #[], ?_, .nil⟩
        · simp only [execOp, ho, Instr.makeMap, Option.map_some, Sem.run_bind, hu, e, asInt, asIntOf, Result.andThen_ok, run_newObj_alloc, Sem.run_pure]
        · show (w.heap.push _)[w.heap.size]? = _
          simp
      · cases h
    · cases h
  · -- makeChan
    rename_i t s ho
    split at h
    · rename_i i k n hi hr
      split at h
      · rename_i dir e hd
        split at h
        · rename_i j hj h1 h2
          split at h
          · rename_i h3
            cases h
            have h1 : 0 ≤ n := of_decide_eq_true h1
            have h2 : n ≤ 65536 := of_decide_eq_true h2
            have h3 := Nat.le_of_ble_eq_true h3
            obtain ⟨y, hy, hyb⟩ := O.run_info hj
            have hu := O.run_under hi
            rw [hd] at hu
            have e := int_inv (ev_V T hr)
            have hmul : (y.bytes : Int) * n ≤ 65536 * 65536 := by
              rw [hyb]
              exact Int.mul_le_mul (by omega) h2 h1 (by omega)
            have hmax : IntKind.i64.max = 9223372036854775807 := rfl
            have hno : ¬ (n < 0 ∨ n > IntKind.i64.max ∨ (y.bytes : Int) * n > 2 ^ 48 - 112) := by
              rw [hmax]; omega
            refine ⟨⟨w.heap.size, 0, 0, 0⟩, .chan n.toNat #[] false 0 0 false, .chan (some w.heap.size), ?_, rfl, .chan (hput _), #[], 0, 0, ?_, .nil⟩
            · simp only [execOp, ho, Instr.makeChan, Sem.run_bind, hu, e, asInt, asIntOf, Result.andThen_ok, hy, if_neg hno, run_newObj_alloc, Sem.run_pure]
            · show (w.heap.push _)[w.heap.size]? = _
              simp
          · cases h
        · cases h
      · cases h
    · cases h
  · -- makeSlice
    rename_i t l c ho
    split at h
    · rename_i lv cv hl hc
      unfold makeSliceE at h
      split at h
      · rename_i i k1 n1 k2 n2 hi
        split at h
        · rename_i e hd
          split at h
          · rename_i j hj
            split at h
            · rename_i g1 g2 g3 g4 g5 g6
              cases h
              have g1 : 0 ≤ n1 := of_decide_eq_true g1
              have g2 : n1 ≤ n2 := of_decide_eq_true g2
              have g3 : n2 ≤ 4294967296 := of_decide_eq_true g3
              have g4 := Nat.le_of_ble_eq_true g4
              have g6 := Nat.eq_of_beq_eq_true g6
              have g5 : j.size ≠ 0 := fun e => by rw [e] at g5; cases g5
              obtain ⟨y, hy, hys, hyb, hyz⟩ := O.info e j hj
              obtain ⟨hz, _⟩ := O.zero e j hj
              have hu := O.under t i hi
              rw [hd] at hu
              have e1 := int_inv (ev_V T hl)
              have e2 := int_inv (ev_V T hc)
              have hb : (y.bytes : Int) * n2 ≤ 281474976710656 := by
                have : ((n2.toNat * j.bytes : Nat) : Int) = (y.bytes : Int) * n2 := by
                  rw [Int.natCast_mul, hyb, Int.toNat_of_nonneg (by omega), Int.mul_comm]
                omega
              have hrun := run_make (P := cx.P) w t e y j.zero hu hy hyz k1 k2 n1 n2 g1 g2 hb (by omega)
              rw [hys] at hrun
              refine ⟨⟨w.heap.size, 0, n2.toNat * j.size, 1⟩, .cells (madeCells j.zero.cells (n2.toNat * j.size)) e (0, 0), .slice (some ⟨w.heap.size, 0, none⟩) n1.toNat n2.toNat, ?_, rfl, .sl (hput _) ?_, ?_⟩
              · simp only [execOp, ho, Sem.run_bind, e1, e2, hrun, Result.andThen_ok, Sem.run_pure]
              · unfold unk; omega
              · refine ⟨madeCells j.zero.cells (n2.toNat * j.size), e, (0, 0), ?_, fun _ => rfl, fun h => absurd rfl h, Nat.le_refl _, by simp [size_madeCells], fun q hq => ?_⟩
                · show (w.heap.push _)[w.heap.size]? = _
                  simp
                · rw [Nat.zero_add]
                  exact row_flat hz g6 g5 q hq
            · cases h
          · cases h
        · cases h
      · cases h
    · cases h
  · cases h

end
end Go.Em
