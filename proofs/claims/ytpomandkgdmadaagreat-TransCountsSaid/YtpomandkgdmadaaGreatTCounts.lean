/-
  'TransCounts' returns true, whatever it is handed, and changes nothing that lay in memory before it. No conditions.
-/
import Derived.Test.YtpomandkgdmadaaGreatRows
import Derived.Test.YtpomandkgdmadaaGreatTcL
import Derived.Test.YtpomandkgdmadaaGreatEnN
import Derived.Test.YtpomandkgdmadaaGreatFacts3
import Derived.ChangeSlices
import Derived.KernelRfl
namespace Go.Proofs.YtpomandkgdmadaaGreat
open Go.ChangeShapes Go.WideShapes Go.ChangeAt Go.RowKit Go.Em

theorem own : ownKnob Tryz.prog.godebug = none := by kernel_rfl
theorem laidOut : laidOutB Tryz.prog = true := by kernel_rfl
theorem read22 : Tryz.prog.readableRec 22 = true := by kernel_rfl
theorem row22 : 22 < Tryz.prog.types.size := of_decide_eq_true (by kernel_rfl)

/-- What the list of limits is, in memory. -/
def LimIn (W : World) (v : Value) : Prop := v = .slice none 0 0 ∨ ∃ (b off len cap : Nat) (zs : List Int), v = .slice (some ⟨b, off, none⟩) len cap ∧ cap ≠ unk ∧ len ≤ zs.length ∧ ∀ i, i < zs.length → W.cell? ⟨b, off + i, none⟩ = some (.int .i64 (zs.getD i 0))

theorem below_of_stp {m m' : Pm} {o : Option Em.Obj} {h' : Heap} {w w' : World} (ho : ∀ x, o = some x → roO x = true) (P : Stp m (litH (besd o []) 1) w m' h' w') : Go.RowKit.Below w.heap.size w w' := by
  refine ⟨P.os, P.tape, P.output, P.size, fun b hb => P.keep b hb ?_⟩
  rintro ⟨i, x, p, h1, h2, _⟩
  cases o with
  | none => cases h1
  | some y =>
    have h1 : (trL ((0, .obj y) :: [])).get i = some x := h1
    rw [cons_get] at h1
    split at h1
    · cases h1
      have := h2 rfl
      rw [ho _ rfl] at this
      cases this
    · cases h1

theorem walk {times most : Int} {v : Value} {W : World} (t1 : -9223372036854775808 ≤ times) (t2 : times ≤ 9223372036854775807) (m1 : -9223372036854775808 ≤ most) (m2 : most ≤ 9223372036854775807) (hv : LimIn W v) :
    Calls Tryz.prog 3 #[.int .i64 times, .int .i64 most, v] W fun e w' => e = .returned (.bool true) ∧ Go.RowKit.Below W.heap.size W w' := by
  have fin : ∀ {lim : Value} {o : Option Em.Obj} {m : Pm}, Lm lim o → (∀ x, o = some x → roO x = true) → Sim m (litH (besd o []) 1) W → V m lim v → Calls Tryz.prog 3 #[.int .i64 times, .int .i64 most, v] W fun e w' => e = .returned (.bool true) ∧ Go.RowKit.Below W.heap.size W w' := by
    intro lim o m hL ho hS hV
    obtain ⟨h1, C⟩ := law_call hL t1 t2 m1 m2
    refine (C.2 m W #[.int .i64 times, .int .i64 most, v] hS (.cons (.int _ _ _) (.cons (.int _ _ _) (.cons hV .nil)))).mono ?_
    rintro e w' ⟨m', _, P, F⟩
    refine ⟨?_, below_of_stp ho P⟩
    cases e with
    | returned u => exact congrArg Ending.returned (bool_inv F)
    | panicked c => exact F.elim
    | _ => exact F.elim
  have sim0 : ∀ (b off : Nat), Sim (oneMem b off) (litH (besd none []) 1) W := by
    intro b off
    refine ⟨oneMem_none b off, ?_, ?_⟩
    · intro i o h; cases h
    · intro i j oi oj pi pj h; cases h
  rcases hv with rfl | ⟨b, off, len, cap, zs, rfl, hc, hl, hz⟩
  · exact fin (.inl rfl) (fun x h => by cases h) (sim0 0 0) (.flat rfl)
  · rcases Nat.eq_zero_or_pos len with rfl | hpos
    · exact fin (.inr (.inl ⟨cap, rfl⟩)) (fun x h => by cases h) (sim0 b off) (oneMem_slice b off 0 cap hc)
    · -- the block
      have hcell : ∀ i, i < len → ∃ (c : Array Value) (e : Nat) (fz : Nat × Nat), W.heap[b]? = some (.cells c e fz) ∧ c[off + i]? = some (.int .i64 (zs.getD i 0)) := by
        intro i hi
        have h := hz i (by omega)
        unfold World.cell? at h
        simp only at h
        split at h
        · rename_i c e fz hb
          exact ⟨c, e, fz, hb, h⟩
        · cases h
      obtain ⟨c, e, fz, hb, _⟩ := hcell 0 hpos
      have hcc : ∀ i, i < len → c[off + i]? = some (.int .i64 (zs.getD i 0)) := by
        intro i hi
        obtain ⟨c', e', fz', hb', h'⟩ := hcell i hi
        rw [hb] at hb'
        cases hb'
        exact h'
      have hsz : off + len ≤ c.size := by
        have := hcc (len - 1) (by omega)
        have := (Array.getElem?_eq_some_iff.1 this).1
        omega
      let m : Pm := fun i => if i = 0 then some ⟨b, off, len, 0⟩ else none
      have hm0 : m 0 = some ⟨b, off, len, 0⟩ := rfl
      have hS : Sim m (litH (besd (some (.row len (fun j => vI (zs.getD j 0)) .nil 3 0 true)) []) 1) W := by
        refine ⟨?_, ?_, ?_⟩
        · intro i hi
          have hi : 1 ≤ i := hi
          show (if i = 0 then some _ else none) = none
          rw [if_neg (by omega)]
        · intro i o h
          have h : (trL ((0, .obj (.row len (fun j => vI (zs.getD j 0)) .nil 3 0 true)) :: [])).get i = some o := h
          rw [cons_get] at h
          split at h
          · rename_i ei
            subst ei
            cases h
            refine ⟨_, hm0, c, e, fz, hb, fun h => Bool.noConfusion h, fun h => absurd rfl h, Nat.le_refl _, hsz, fun i hi => ⟨_, hcc i hi, ?_⟩⟩
            rw [rowAt_nil]
            exact V.int _ _ _
          · cases h
        · intro i j oi oj pi pj hi hj hmi hmj hne
          have hi : (trL ((0, .obj (.row len (fun j => vI (zs.getD j 0)) .nil 3 0 true)) :: [])).get i = some oi := hi
          have hj : (trL ((0, .obj (.row len (fun j => vI (zs.getD j 0)) .nil 3 0 true)) :: [])).get j = some oj := hj
          rw [cons_get] at hi hj
          split at hi
          · split at hj
            · rename_i e1 e2; exact absurd (e1.trans e2.symm) hne
            · cases hj
          · cases hi
      refine fin (.inr (.inr ⟨len, cap, len, 3, 0, fun j => zs.getD j 0, true, rfl, rfl, Nat.le_refl _⟩)) (fun x h => by cases h; rfl) hS ?_
      have := V.sl (m := m) (b := 0) (o := 0) (n := len) (c := cap) hm0 hc
      simpa using this

set_option maxRecDepth 100000 in
theorem lifted (os : Os) (started : os.Started) (H : Type) (enc : TypeId × Value → H) :
    ReturnsInHanded {} Tryz.checked os 3 .any (Rows.transCountsSpec.pre6 enc Tryz.prog Tryz.f3 Rows.transCountsRow.domain false) (Rows.transCountsSpec.post enc Tryz.prog Tryz.f3 false true false false) := by
  refine returnsInHanded_of_change (C := Tryz.checked) own started (by kernel_rfl) Tryz.func3
    (ChangeSpec.witness6 (enc := enc) (C := Tryz.checked) false ⟨#[], #[.int .i64 0, .int .i64 0, .slice none 0 0], []⟩ 8 (by kernel_rfl) (by kernel_rfl) (by kernel_rfl) (by kernel_rfl)) ?_
  intro W base args ds gs before hval0 hW hcnd _
  have hval : ∀ (j : Nat) t v, Tryz.f3.params[j]? = some t → args[j]? = some v → Value.okWide Tryz.prog W .any base t v := hval0
  have hW' := hW
  obtain ⟨p, q, hA0, hV, rfl, hfz, hnd⟩ := hW
  have hA : DataW.TrodAll enc Tryz.prog W 0 (fun _ => true) true Tryz.f3.params.toList args.toList ds p := hA0
  rw [Tryz.params3] at hA hval
  obtain ⟨v0, vs0, d0, ds0, p0, q0, hargs, rfl, rfl, h0, r0⟩ := trodAll_cons hA
  obtain ⟨v1, vs1, d1, ds1, p1, q1, rfl, rfl, rfl, h1, r1⟩ := trodAll_cons r0
  obtain ⟨v2, vs2, d2, ds2, p2, q2, rfl, rfl, rfl, h2, r2⟩ := trodAll_cons r1
  obtain ⟨rfl, rfl, rfl⟩ := trodAll_nil r2
  obtain rfl : args = #[v0, v1, v2] := by cases args; simp_all
  obtain ⟨rfl, rfl⟩ := trodVars_none hV
  obtain ⟨a0, rfl, rfl, rfl, w0⟩ := open_int Tryz.underlying3 (hval 0 3 v0 rfl rfl) h0
  obtain ⟨a1, rfl, rfl, rfl, w1⟩ := open_int Tryz.underlying3 (hval 1 3 v1 rfl rfl) h1
  have hs := slice_forms Tryz.underlying22 (hval 2 22 v2 rfl rfl)
  have hlim : LimIn W v2 := by
    rcases hs with rfl | ⟨b, off, len, cap, rfl, hc⟩
    · exact .inl rfl
    · obtain ⟨fuel, hf⟩ := h2
      have hf : DataW.trod enc Tryz.prog W 0 (fun _ => true) true fuel 22 [.slice (some ⟨b, off, none⟩) len cap] = some (d2, p2) := hf
      rcases open_ints Tryz.underlying22 Tryz.underlying3 (by kernel_rfl) hf with ⟨h, _⟩ | ⟨a, len', cap', zs, h, _, hlc, _, hzl, _, hz, _⟩
      · cases h
      · cases h
        refine .inr ⟨b, off, len, cap, zs, rfl, hc, ?_, ?_⟩
        · rw [hzl]
          simp only [if_true]
          exact hlc
        · intro i hi
          have := hz i hi
          rwa [addr_add] at this
  clear hA0 hval0
  simp only [List.append_nil] at hW'
  have b0 := bounds_i64 w0
  have b1 := bounds_i64 w1
  refine (walk b0.1 b0.2 b1.1 b1.2 hlim).mono fun e W' ⟨he, hb⟩ => ?_
  subst he
  have hlt : ∀ x ∈ p2, x.block < W.heap.size := fun x hx => hW'.lt x (by simpa using hx)
  exact ⟨_, rfl, post_same (pa := [] ++ ([] ++ (p2 ++ []))) (pv := []) hW' (fun _ _ _ => (trodAll_cons_mk (shut_bool Tryz.underlying4 _) trodAll_mk0))
    (fun sp hsp => trodAll_cons_mk (shut_int Tryz.underlying3 w0) (trodAll_cons_mk (shut_int Tryz.underlying3 w1) (trodAll_cons_mk (WideElems.Trod_stays laidOut read22 row22 h2 (fun x hx => hb.same (hlt x hx)) (fun x hx => hsp x (by simpa using hx))) trodAll_mk0))) (fun _ _ => rfl) (by simp)
    (Same.of_below hb) (ok_one (by kernel_rfl) rfl (okWide_bool_mk Tryz.underlying4 _))⟩

theorem over : Rows.transCountsRow.holds Tryz.pinned (OpenSpec.ofChange Rows.transCountsSpec) :=
  OpenClaim.holds_of_wide 3 Tryz.f3 rfl rfl rfl rfl rfl rfl rfl ⟨rfl, rfl, rfl, rfl, rfl⟩ rfl rfl rfl rfl rfl (by kernel_rfl) Tryz.func3 transCounts_facts
    (of_decide_eq_true (by kernel_rfl)) (by unfold Func.isWrapper; first | (rw [if_pos (by decide +kernel)]; kernel_rfl) | (rw [if_neg (by decide +kernel)]; exact ⟨rfl, rfl⟩))
    (fun os started H enc _ => lifted os started H enc)

/-- The statement. -/
theorem transCounts_holds : Rows.TransCountsSaid :=
  over
end Go.Proofs.YtpomandkgdmadaaGreat
