/-
  append.
-/
import Derived.Test.YtbfhilhkmicelaaGreatEm7
namespace Go.Em
section
variable {cx : Cx}

structure AppendCx (P : Program) (ts : Array Nat) (st xt et size n : Nat) (d : TypeDesc) (info : TypeInfo) (zero x' : Value) : Prop where
  t0 : ts[0]? = some st
  t1 : ts[1]? = some xt
  under : ∀ w, (underlying st).run P w = .ok (.slice et) w
  underx : ∀ w, (underlying xt).run P w = .ok d w
  notInt : isIntD d = false
  size : ∀ w, (sizeOf et).run P w = .ok size w
  len : ∀ w, (Builtin.lenOf x').run P w = .ok n w
  info : ∀ w, (typeInfo et).run P w = .ok info w
  zero : ∀ w, (zeroValue et).run P w = .ok zero w

theorem append_fits {P : Program} {ts : Array Nat} {st xt et size n ty : Nat} {d : TypeDesc} {info : TypeInfo} {zero x' : Value} {w : World} (A : AppendCx P ts st xt et size n d info zero x') {b : Option Addr} {l c : Nat} (h : l + n ≤ c) :
    (Builtin.append_ ts ty #[.slice b l c, x']).run P w = ((Builtin.firstCells size n x').run P w).andThen fun new w1 => ((match b with
      | some a => storeCells (a.add (l * size)) new.toList
      | none => pure () : Sem Unit).run P w1).andThen fun _ w2 => .ok (.slice b (l + n) c) w2 := by
  have e0 : (#[Value.slice b l c, x'] : Array Value)[0]? = some (.slice b l c) := rfl
  have e1 : (#[Value.slice b l c, x'] : Array Value)[1]? = some x' := rfl
  have hux := A.underx
  have hni := A.notInt
  cases d <;> first
    | (cases hni; done)
    | (simp only [Builtin.append_, A.t0, A.t1, e0, e1, Sem.run_bind, A.under, hux, A.size, A.len, Result.andThen_ok, Sem.run_pure, Bool.false_eq_true, if_false, Bool.not_false, if_true, if_pos h]
       congr 1
       funext new w1
       cases b <;> simp only [Sem.run_bind, Sem.run_pure, Result.andThen_ok])

theorem append_grows {P : Program} {ts : Array Nat} {st xt et size n ty : Nat} {d : TypeDesc} {info : TypeInfo} {zero x' : Value} {w : World} (A : AppendCx P ts st xt et size n d info zero x') {b : Option Addr} {l c : Nat} (h : ¬ l + n ≤ c)
    (hb : info.bytes ≠ 0) (hs : ¬ Builtin.nextslicecap (l + n) c * info.bytes > 2 ^ 48) : ∃ cap, l + n ≤ cap ∧
    (Builtin.append_ ts ty #[.slice b l c, x']).run P w = ((Builtin.firstCells size l (.slice b l c)).run P w.drew).andThen fun old w1 => ((Builtin.firstCells size n x').run P w1).andThen fun new w2 =>
      .ok (.slice (some ⟨w2.heap.size, 0, none⟩) (l + n) cap) (w2.alloc (.cells (old ++ new ++ Builtin.zeroCells zero.cells (cap - (l + n))) et (0, 0))) := by
  have e0 : (#[Value.slice b l c, x'] : Array Value)[0]? = some (.slice b l c) := rfl
  have e1 : (#[Value.slice b l c, x'] : Array Value)[1]? = some x' := rfl
  have hux := A.underx
  have hni := A.notInt
  refine ⟨(Question.appendCap (l + n) c et).cut (w.tape w.drawn (Question.appendCap (l + n) c et)), by simp [Question.cut], ?_⟩
  have hq : (Question.appendCap (l + n) c et).forced = false := rfl
  cases d <;> first
    | (cases hni; done)
    | (simp only [Builtin.append_, A.t0, A.t1, e0, e1, Sem.run_bind, A.under, hux, A.size, A.len, A.info, A.zero, Result.andThen_ok, Sem.run_pure, Bool.false_eq_true, if_false, Bool.not_false, if_true, if_neg h, hb, or_false, and_false, if_neg hs,
        run_choose, hq, run_askRoom]
       rfl)

theorem Ok.run_info (O : Ok cx) {t : Nat} {i : Ty} (h : cx.ty t = some i) : ∃ x : TypeInfo, (∀ w, (typeInfo t).run cx.P w = .ok x w) ∧ x.bytes = i.bytes := by
  obtain ⟨x, hx, _, h2, _⟩ := O.info t i h
  exact ⟨x, fun w => by simp [typeInfo, hx], h2⟩

theorem Vs.of_append_left {m : Pm} {a a' b' : List Value} (h : Vs m a a') : Vs m a ((a' ++ b').take a.length) := by
  rw [List.take_append_of_le_length (by rw [h.length]; exact Nat.le_refl _), ← h.length, List.take_length]
  exact h

theorem loadN_total {h : Heap} {a : Addr} {size : Nat} {b : Nat → Value} {tr : Tr Value} {el esz : Nat} {ro : Bool} (hs : a.spot = none) (hg : h.get a.block = some (.row size b tr el esz ro)) {n : Nat} (hn : a.off + n ≤ size) :
    loadN h a n = some (cellsFrom b tr a.off n) := by
  unfold loadN
  rw [hs]
  simp only [hg]
  rw [Nat.ble_eq_true_of_le hn]

theorem cellsFrom_get (b : Nat → Value) (tr : Tr Value) : ∀ (n i k : Nat), k < n → (cellsFrom b tr i n)[k]? = some (rowAt b tr (i + k))
  | 0, _, _, h => by omega
  | n + 1, i, 0, _ => by simp [cellsFrom]
  | n + 1, i, k + 1, h => by
    simp only [cellsFrom, List.getElem?_cons_succ]
    rw [cellsFrom_get b tr n (i + 1) k (by omega), show i + 1 + k = i + (k + 1) from by omega]

theorem getD_append_right' {a b : List Value} {i : Nat} {d : Value} (h : a.length ≤ i) : (a ++ b).getD i d = b.getD (i - a.length) d := by
  rw [List.getD_eq_getElem?_getD, List.getElem?_append_right h, List.getD_eq_getElem?_getD]

theorem getD_append_left' {a b : List Value} {i : Nat} {d : Value} (h : i < a.length) : (a ++ b).getD i d = a.getD i d := by
  rw [List.getD_eq_getElem?_getD, List.getElem?_append_left h, List.getD_eq_getElem?_getD]

theorem V.ptr' {m : Pm} {a : Addr} {p : Pl} (hs : a.spot = none) (hp : m a.block = some p) : V m (.pointer (some a)) (.pointer (some ⟨p.blk, p.base + a.off, none⟩)) := by
  obtain ⟨b, o, s⟩ := a
  cases hs
  exact .ptr hp

theorem V.sl' {m : Pm} {a : Addr} {p : Pl} {n c : Nat} (hs : a.spot = none) (hp : m a.block = some p) (hc : c ≠ unk) : V m (.slice (some a) n c) (.slice (some ⟨p.blk, p.base + a.off, none⟩) n c) := by
  obtain ⟨b, o, s⟩ := a
  cases hs
  exact .sl hp hc

theorem V.slu' {m : Pm} {a : Addr} {p : Pl} {n : Nat} (hs : a.spot = none) (hp : m a.block = some p) (hc : 0 < p.esz) : V m (.slice (some a) n unk) (.slice (some ⟨p.blk, p.base + a.off, none⟩) n ((p.lim - a.off) / p.esz)) := by
  obtain ⟨b, o, s⟩ := a
  cases hs
  exact .slu hp hc

theorem zeroCells_size (z : Array Value) (n : Nat) : (Builtin.zeroCells z n).size = n * z.size := by simp [Builtin.zeroCells]

/-- The new row of an append, however it is laid. -/
theorem grow_row {m : Pm} {h : Heap} {w : World} (S : Sim m h w) {old new : List Value} {oldA newA z : Array Value} (ho : Vs m old oldA.toList) (hn : Vs m new newA.toList) {len n cap2 size el et : Nat} {base : Nat → Value} {tr : Tr Value}
    (h1 : old.length = len * size) (h2 : new.length = n * size) (hz : z.size = size) (hsz : size ≠ 0) (hcap : len + n ≤ cap2) (hform : ∀ i, i < (len + n) * size → rowAt base tr i = (old ++ new).getD i undef) :
    ∃ m', Sim m' (h.add (.row ((len + n) * size) base tr el size false)) (w.alloc (.cells (oldA ++ newA ++ Builtin.zeroCells z (cap2 - (len + n))) et (0, 0))) ∧
      Stp m h w m' (h.add (.row ((len + n) * size) base tr el size false)) (w.alloc (.cells (oldA ++ newA ++ Builtin.zeroCells z (cap2 - (len + n))) et (0, 0))) ∧
      V m' (.slice (some ⟨h.nx, 0, none⟩) (len + n) unk) (.slice (some ⟨w.heap.size, 0, none⟩) (len + n) cap2) := by
  have l1 := ho.length
  have l2 := hn.length
  simp only [Array.length_toList] at l1 l2
  have hsize : (oldA ++ newA ++ Builtin.zeroCells z (cap2 - (len + n))).size = cap2 * size := by
    simp only [Array.size_append, zeroCells_size, hz, l1, l2, h1, h2]
    rw [← Nat.add_mul, ← Nat.add_mul, Nat.add_sub_cancel' hcap]
  have hlen : (old ++ new).length = (len + n) * size := by simp [h1, h2, Nat.add_mul]
  obtain ⟨p, e1, e2, e3, e4, S', T'⟩ := new_row (w := w) (elem := el) (esz := size) (e := et) (base := base) (tr := tr) (c := oldA ++ newA ++ Builtin.zeroCells z (cap2 - (len + n))) S (by rw [hsize]; exact Nat.mul_le_mul_right _ hcap) (fun i hi => by
    rw [hform i hi]
    have hi' : i < (old ++ new).length := by rw [hlen]; exact hi
    obtain ⟨v', g1, g2⟩ := (ho.append hn).get i ((old ++ new)[i]) (by simp)
    refine ⟨v', ?_, by rw [List.getD_eq_getElem?_getD, List.getElem?_eq_getElem hi']; exact g2⟩
    have hlt : i < (oldA ++ newA).size := by simp only [Array.size_append, l1, l2, h1, h2]; rw [← Nat.add_mul]; exact hi
    rw [Array.getElem?_append_left hlt]
    rw [← Array.getElem?_toList, Array.toList_append]
    exact g1)
  refine ⟨_, S', T', ?_⟩
  have hp : 0 < p.esz := by rw [e4, if_neg hsz]; omega
  have := V.slu' (m := m.put h.nx p) (a := ⟨h.nx, 0, none⟩) (p := p) (n := len + n) rfl put_self hp
  have hc : (p.lim - 0) / p.esz = cap2 := by
    rw [e3, e4, if_neg hsz, hsize, Nat.sub_zero, Nat.mul_div_cancel _ (by omega)]
  rw [e1, e2] at this
  simp only [Nat.zero_add] at this
  rw [hc] at this
  exact this

/-- The new row of an append. -/
theorem grow_new {m : Pm} {h : Heap} {w : World} (S : Sim m h w) {old new : List Value} {oldA newA z : Array Value} (ho : Vs m old oldA.toList) (hn : Vs m new newA.toList) {len n cap2 size el et : Nat}
    (h1 : old.length = len * size) (h2 : new.length = n * size) (hz : z.size = size) (hsz : size ≠ 0) (hcap : len + n ≤ cap2) :
    ∃ m', Sim m' (h.add (mkRow (old ++ new) ((len + n) * size) el size)) (w.alloc (.cells (oldA ++ newA ++ Builtin.zeroCells z (cap2 - (len + n))) et (0, 0))) ∧
      Stp m h w m' (h.add (mkRow (old ++ new) ((len + n) * size) el size)) (w.alloc (.cells (oldA ++ newA ++ Builtin.zeroCells z (cap2 - (len + n))) et (0, 0))) ∧
      V m' (.slice (some ⟨h.nx, 0, none⟩) (len + n) unk) (.slice (some ⟨w.heap.size, 0, none⟩) (len + n) cap2) := by
  obtain ⟨base, he, hb⟩ := mkRow_spec (old ++ new) ((len + n) * size) el size (by simp [h1, h2, Nat.add_mul])
  rw [he]
  exact grow_row S ho hn h1 h2 hz hsz hcap fun i hi => by rw [rowAt_nil, hb i hi, lget_eq]

/-- The same where the row was given up. -/
theorem drop_first {m m' : Pm} {h : Heap} {o : Obj} {w w' : World} (h1 : Sim m' (h.add o) w') (h2 : Stp m h w m' (h.add o) w') (b : Nat) : Sim m' ((h.put b none).add o) w' ∧ Stp m h w m' ((h.put b none).add o) w' := by
  have hget : ∀ k, ((h.put b none).add o).get k = if k = h.nx then some o else if k = b then none else h.get k := fun k => by
    rw [Heap.get_add]
    show (if k = h.nx then some o else (h.put b none).get k) = _
    rw [Heap.get_put]
  have hsub : ∀ i oi, ((h.put b none).add o).get i = some oi → (h.add o).get i = some oi := fun i oi e => by
    rw [hget] at e
    rw [Heap.get_add]
    split at e
    · rename_i e1; rw [if_pos e1]; exact e
    · split at e
      · cases e
      · rename_i e1 e2; rw [if_neg e1]; exact e
  exact ⟨h1.sub hsub (Nat.le_refl _), ⟨h2.le, h2.ids, h2.nx, h2.size, fun k hk ⟨i, oi, q, g1, g3, g4⟩ => h2.own k hk ⟨i, oi, q, hsub i oi g1, g3, g4⟩, h2.keep, h2.tape, h2.os, h2.output⟩⟩

theorem Stp.draw {m m' : Pm} {h h' : Heap} {w w' : World} (T : Stp m h w.drew m' h' w') : Stp m h w m' h' w' :=
  ⟨T.le, T.ids, T.nx, T.size, T.own, T.keep, T.tape, T.os, T.output⟩

/-- append. -/
theorem appendE_run (O : Ok cx) {m : Pm} {h h' : Heap} {w : World} (S : Sim m h w) {ts : Array Nat} {s x s' x' v : Value} (hs : V m s s') (hx : V m x x') (ha : appendE cx h ts.toList s x = some (v, h')) (ty : Nat) :
    ∃ m' w' v', (Builtin.append_ ts ty #[s', x']).run cx.P w = .ok v' w' ∧ Sim m' h' w' ∧ Stp m h w m' h' w' ∧ V m' v v' := by
  unfold appendE at ha
  split at ha
  · rename_i st xt base len cap hts
    have t0 : ts[0]? = some st := by rw [← Array.getElem?_toList, hts]; rfl
    have t1 : ts[1]? = some xt := by rw [← Array.getElem?_toList, hts]; rfl
    split at ha
    · rename_i i xi hi hxi
      split at ha
      · rename_i et hd hni
        split at ha
        · rename_i e n he hn
          split at ha
          · rename_i new hnew hbig hb0 hsz
            obtain ⟨info, hinfo, hib⟩ := O.run_info he
            have A : AppendCx cx.P ts st xt et e.size n xi.d info e.zero x' :=
              ⟨t0, t1, fun w => hd ▸ O.run_under hi w, O.run_under hxi, hni, O.run_size he, fun w => lenE_run hx hn, hinfo, O.run_zero he⟩
            have hsz' : e.size ≠ 0 := fun e0 => by rw [e0] at hsz; cases hsz
            have hb0' : e.bytes ≠ 0 := fun e0 => by rw [e0] at hb0; cases hb0
            have hbig' := Nat.le_of_ble_eq_true hbig
            have hcapok : ∀ c, c < len + n → ¬ Builtin.nextslicecap (len + n) c * info.bytes > 2 ^ 48 := fun c hc => by
              have h1 := nextslicecap_le hc
              have h2 := Nat.mul_le_mul_right info.bytes h1
              rw [hib] at h2 ⊢
              omega
            split at ha
            · cases ha
            · rename_i hlen hcap
              have newLen := Nat.eq_of_beq_eq_true hlen
              have hcap' : cap ≠ unk := fun e0 => by rw [e0] at hcap; simp at hcap
              split at ha
              · rename_i hfit
                have hfit' := Nat.le_of_ble_eq_true hfit
                split at ha
                · rename_i a
                  split at ha
                  · rename_i h2 hst
                    cases ha
                    obtain ⟨p, hp, hsp, hc⟩ := slice_some hs
                    rcases hc with ⟨_, rfl⟩ | ⟨e0, _⟩
                    · obtain ⟨new', hr1, hV1⟩ := firstE_run (P := cx.P) S hx hnew
                      obtain ⟨q, hq, _, w', hr2, S2, T2⟩ := storeN_run (P := cx.P) S hV1 hst
                      have hq' : m a.block = some q := hq
                      rw [hp] at hq'; cases hq'
                      refine ⟨m, w', _, ?_, S2, T2, .sl' hsp hp hcap'⟩
                      rw [append_fits A hfit', hr1]
                      simp only [Result.andThen_ok, addr_add]
                      have : (⟨p.blk, p.base + (addOff a (len * e.size)).off, none⟩ : Addr) = ⟨p.blk, p.base + a.off + len * e.size, none⟩ := by simp [addOff, Nat.add_assoc]
                      rw [this] at hr2
                      rw [hr2]
                      simp only [Result.andThen_ok]
                    · exact absurd e0 hcap'
                  · cases ha
                · cases ha
                  obtain rfl := flat_inv rfl hs
                  obtain ⟨new', hr1, hV1⟩ := firstE_run (P := cx.P) S hx hnew
                  refine ⟨m, w, _, ?_, S, .refl _ _ _, .flat rfl⟩
                  rw [append_fits A hfit', hr1]
                  simp only [Result.andThen_ok, Sem.run_pure]
              · rename_i hfit
                have hfit' : ¬ len + n ≤ cap := fun e0 => by rw [Nat.ble_eq_true_of_le e0] at hfit; cases hfit
                split at ha
                · rename_i old hold
                  split at ha
                  · rename_i holdlen
                    have holdlen' := Nat.eq_of_beq_eq_true holdlen
                    cases ha
                    have : ∃ bb, s' = .slice bb len cap := by
                      cases base with
                      | none => exact ⟨none, flat_inv rfl hs⟩
                      | some a =>
                        obtain ⟨p, hp, hsp, hc⟩ := slice_some hs
                        rcases hc with ⟨_, e0⟩ | ⟨e0, _⟩
                        · exact ⟨_, e0⟩
                        · exact absurd e0 hcap'
                    obtain ⟨bb, rfl⟩ := this
                    obtain ⟨oldA, hr1, hV1⟩ := firstE_run (P := cx.P) S.drew hs hold
                    obtain ⟨newA, hr2, hV2⟩ := firstE_run (P := cx.P) S.drew hx hnew
                    obtain ⟨cap2, hc2, hrun⟩ := append_grows (ty := ty) (w := w) (b := bb) A hfit' (by rw [hib]; exact hb0') (hcapok cap (by omega))
                    rw [hr1] at hrun
                    simp only [Result.andThen_ok] at hrun
                    rw [hr2] at hrun
                    simp only [Result.andThen_ok] at hrun
                    obtain ⟨m', S', T', V'⟩ := grow_new (el := et) (et := et) (z := e.zero.cells) S.drew hV1 hV2 holdlen' newLen (O.zsize _ _ he) hsz' hc2
                    exact ⟨m', _, _, hrun, S', T'.draw, V'⟩
                  · cases ha
                · cases ha
            · rename_i hlen hcap
              have newLen := Nat.eq_of_beq_eq_true hlen
              have hcap' : cap = unk := Nat.eq_of_beq_eq_true hcap
              subst hcap'
              split at ha
              · cases ha
              · rename_i a
                obtain ⟨p, hp, hsp, hc⟩ := slice_some hs
                rcases hc with ⟨e0, _⟩ | ⟨_, hesz, rfl⟩
                · exact absurd rfl e0
                · split at ha
                  · rename_i size b tr el esz _ hg
                    obtain ⟨p', hp', hr⟩ := S.live _ _ hg
                    rw [hp] at hp'; cases hp'
                    have hr0 := hr
                    obtain ⟨c, ce, fz, k1, k2, k3, k4, k5, k6⟩ := hr
                    obtain rfl := k2 rfl
                    split at ha
                    · -- there is room among the cells that are known
                      rename_i g1 g2 g3
                      have g1' : esz = e.size := Nat.eq_of_beq_eq_true g1
                      have g2' := Nat.le_of_ble_eq_true g2
                      cases ha
                      have hpe : p.esz = e.size := by rw [← g1']; exact k3 (by rw [g1']; exact hsz')
                      have hfit : len + n ≤ (p.lim - a.off) / p.esz := by
                        rw [hpe, Nat.le_div_iff_mul_le (by omega)]
                        omega
                      obtain ⟨newA, hr1, hV1⟩ := firstE_run (P := cx.P) S hx hnew
                      obtain ⟨w', hrun, ho, hoth, hsize, ht, hos, hout⟩ := row_write (P := cx.P) hr0 hV1 g3 (a.off + len * e.size) (by rw [newLen]; rw [Nat.add_mul] at g2'; omega)
                      obtain ⟨S2, T2⟩ := S.turn hg rfl rfl hp (Heap.get_putAt _ _ _ _ _) rfl ho hoth hsize ht hos hout
                      refine ⟨m, w', _, ?_, S2, T2, .slu' hsp hp hesz⟩
                      rw [append_fits A hfit, hr1]
                      simp only [Result.andThen_ok, addr_add]
                      rw [show p.base + a.off + len * e.size = p.base + (a.off + len * e.size) from by omega, hrun]
                      simp only [Result.andThen_ok]
                    · -- the row is given up
                      rename_i g1 g2 g3 g4
                      have g1' : esz = e.size := Nat.eq_of_beq_eq_true g1
                      have g4' := Nat.le_of_ble_eq_true g4
                      have hpe : p.esz = e.size := by rw [← g1']; exact k3 (by rw [g1']; exact hsz')
                      have hold : firstE h e.size len (.slice (some a) len unk) = some (cellsFrom b tr a.off (len * e.size)) := loadN_total hsp hg g4'
                      have oldlen : (cellsFrom b tr a.off (len * e.size)).length = len * e.size := cellsFrom_length _ _ _ _
                      -- the two forms of the row behind it
                      have form : ∃ base2 tr2, ((h.put a.block none).add (.row ((len + n) * e.size) base2 tr2 el esz false)) = h' ∧ v = .slice (some ⟨h.nx, 0, none⟩) (len + n) unk ∧
                          ∀ i, i < (len + n) * e.size → rowAt base2 tr2 i = (cellsFrom b tr a.off (len * e.size) ++ new).getD i undef := by
                        split at ha
                        · rename_i hz
                          have hz' : a.off = 0 := Nat.eq_of_beq_eq_true hz
                          cases ha
                          refine ⟨b, _, rfl, rfl, fun i hi => ?_⟩
                          rw [rowAt_setCells]
                          by_cases hin : len * e.size ≤ i ∧ i < len * e.size + new.length
                          · rw [if_pos hin, getD_append_right' (by rw [oldlen]; exact hin.1), oldlen]
                          · rw [if_neg hin]
                            have hlt : i < len * e.size := by rw [newLen] at hin; rw [Nat.add_mul] at hi; omega
                            rw [getD_append_left' (by rw [oldlen]; exact hlt)]
                            rw [List.getD_eq_getElem?_getD, cellsFrom_get b tr _ _ _ hlt, hz', Nat.zero_add]
                            rfl
                        · cases ha
                          obtain ⟨base2, he2, hb2⟩ := mkRow_spec (cellsFrom b tr a.off (len * e.size) ++ new) ((len + n) * e.size) el esz (by simp [oldlen, newLen, Nat.add_mul])
                          rw [he2]
                          exact ⟨base2, .nil, rfl, rfl, fun i hi => by rw [rowAt_nil, hb2 i hi, lget_eq]⟩
                      obtain ⟨base2, tr2, rfl, rfl, hform⟩ := form
                      by_cases hfit : len + n ≤ (p.lim - a.off) / p.esz
                      · -- it grows in its place
                        obtain ⟨newA, hr1, hV1⟩ := firstE_run (P := cx.P) S hx hnew
                        have nl := hV1.length
                        have hfit' : (len + n) * e.size ≤ p.lim - a.off := by rw [hpe, Nat.le_div_iff_mul_le (by omega)] at hfit; exact hfit
                        have hin : a.off + len * e.size + n * e.size ≤ p.lim := by
                          rw [Nat.add_mul] at hfit'
                          omega
                        obtain ⟨w', hrun, ⟨c', kc1, kc2, kc3⟩, hoth, hsize, ht, hos, hout⟩ := storeCells_run (P := cx.P) newA.toList 0 w p.blk (p.base + (a.off + len * e.size)) c ce k1 (hV1.allCells ▸ g3) (by rw [nl, newLen]; omega)
                        have hle : m.Le (m.put h.nx ⟨p.blk, p.base + a.off, p.lim - a.off, p.esz⟩) := Pm.le_put (S.fresh _ (Nat.le_refl _))
                        obtain ⟨S2, T2⟩ := S.regrow (w' := w') (o' := .row ((len + n) * e.size) base2 tr2 el esz false) (q := ⟨p.blk, p.base + a.off, p.lim - a.off, p.esz⟩) hg rfl rfl hp rfl
                          ⟨c', ce, (0, 0), kc1, fun _ => rfl, k3, hfit', by simp only; omega, fun i hi => by
                            rw [hform i hi]
                            simp only
                            rw [kc3]
                            by_cases hi2 : len * e.size ≤ i
                            · rw [if_pos (by rw [nl, newLen]; rw [Nat.add_mul] at hi; omega), getD_append_right' (by rw [oldlen]; exact hi2), oldlen]
                              have hlt : i - len * e.size < new.length := by rw [newLen]; rw [Nat.add_mul] at hi; omega
                              obtain ⟨v', q1, q2⟩ := hV1.get (i - len * e.size) new[i - len * e.size] (by simp [hlt])
                              refine ⟨v', ?_, ?_⟩
                              · rw [show p.base + a.off + i - (p.base + (a.off + len * e.size) + 0) = i - len * e.size from by omega]; exact q1
                              · rw [List.getD_eq_getElem?_getD, List.getElem?_eq_getElem hlt]; exact q2.mono hle
                            · have hlt : i < len * e.size := by omega
                              rw [if_neg (by omega), getD_append_left' (by rw [oldlen]; exact hlt)]
                              obtain ⟨v', q1, q2⟩ := k6 (a.off + i) (by omega)
                              refine ⟨v', by rw [show p.base + a.off + i = p.base + (a.off + i) from by omega]; exact q1, ?_⟩
                              rw [List.getD_eq_getElem?_getD, cellsFrom_get b tr _ _ _ hlt]
                              exact q2.mono hle⟩ hoth hsize ht hos hout
                        have hV := @V.slu (m.put h.nx ⟨p.blk, p.base + a.off, p.lim - a.off, p.esz⟩) h.nx 0 (len + n) ⟨p.blk, p.base + a.off, p.lim - a.off, p.esz⟩ put_self hesz
                        simp only [Nat.add_zero, Nat.sub_zero] at hV
                        refine ⟨_, w', .slice (some ⟨p.blk, p.base + a.off, none⟩) (len + n) ((p.lim - a.off) / p.esz), ?_, S2, T2, hV⟩
                        · rw [append_fits A hfit, hr1]
                          simp only [Result.andThen_ok, addr_add]
                          rw [show p.base + a.off + len * e.size = p.base + (a.off + len * e.size) from by omega, hrun]
                          simp
                      · obtain ⟨oldA, hr1, hV1⟩ := firstE_run (P := cx.P) S.drew hs hold
                        obtain ⟨newA, hr2, hV2⟩ := firstE_run (P := cx.P) S.drew hx hnew
                        obtain ⟨cap2, hc2, hrun⟩ := append_grows (ty := ty) (w := w) (b := some ⟨p.blk, p.base + a.off, none⟩) A hfit (by rw [hib]; exact hb0') (hcapok _ (by omega))
                        rw [hr1] at hrun
                        simp only [Result.andThen_ok] at hrun
                        rw [hr2] at hrun
                        simp only [Result.andThen_ok] at hrun
                        subst g1'
                        obtain ⟨m', S', T', V'⟩ := grow_row (el := el) (et := et) (z := e.zero.cells) S.drew hV1 hV2 oldlen newLen (O.zsize _ _ he) hsz' hc2 hform
                        obtain ⟨S2, T2⟩ := drop_first S' T' a.block
                        exact ⟨m', _, _, hrun, S2, T2.draw, V'⟩
                    · cases ha
                  · cases ha
          · cases ha
        · cases ha
      · cases ha
    · cases ha
  · cases ha

end
end Go.Em
