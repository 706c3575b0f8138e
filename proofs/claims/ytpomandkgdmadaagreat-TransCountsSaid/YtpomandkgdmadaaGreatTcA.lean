/-
  The outside functions of a block's run are right.
-/
import Derived.Test.YtpomandkgdmadaaGreatTcE
namespace Go.Proofs.YtpomandkgdmadaaGreat
open Go.Em
set_option linter.unusedVariables false

theorem CallR.closedT {cx : Cx} {f : Nat} {args : List Value} {vs : List Value} {H : Heap} (C : CallR cx f args noHeap (.ret (.tuple vs.toArray)) H) (ha : ∀ a ∈ args, flat a = true) (hv : ∀ v ∈ vs, flat v = true) (h : Heap) : CallR cx f args h (.ret (.tuple vs.toArray)) h := by
  refine ⟨C.1, fun m w args' S hA => ?_⟩
  have e := Vs.flat_eq ha hA
  refine (C.2 noMem w args' (sim_none w) (by rw [e]; exact Vs.of_flat ha)).mono ?_
  rintro e w' ⟨m', S', P, F⟩
  have hk : ∀ b, b < w.heap.size → w'.heap[b]? = w.heap[b]? := fun b hb => P.keep b hb (by
    rintro ⟨i, o, p, h, _⟩
    cases h)
  refine ⟨m, S.world hk, ⟨.refl m, fun _ _ _ h => h, Nat.le_refl _, P.size, fun _ _ _ h => h, fun b hb _ => hk b hb, P.tape, P.os, P.output⟩, ?_⟩
  cases e with
  | returned u =>
    have F : V m' (.tuple vs.toArray) u := F
    obtain ⟨a', rfl, h2⟩ := tuple_inv F
    have h3 := Vs.flat_eq (l := vs) hv (by simpa using h2)
    show V m (.tuple vs.toArray) (.tuple a')
    rw [tuple_iff]
    rw [h3]
    simpa using Vs.of_flat hv
  | panicked c => exact F.elim
  | outgrown => exact F.elim

theorem O0 : Ok cx ∧ Bd cx := cx_ok
theorem E0 : Outs cx noE noE := Outs.nil cx
theorem J0 : ∀ f R, jt.get f = some R → JOk (withE cx noE) f R := jt_oke noE

/-- A closed run that comes to a value. -/
theorem run_ok {f : Nat} {args : List Value} {r : Fin} {H : Heap} (hr : run0 f args noHeap = some (r, H)) (ha : asmB H.dt = true) : CallR cx f args noHeap r H := E0.call O0 J0 hr (asmB_ok ha)

noncomputable def chkN (r : Option (Fin × Heap)) (k : IntKind) (n : Nat) : Bool := match r with
  | some (.ret (.int k' (.ofNat x)), h) => match decEq k' k with
    | isTrue _ => and (asmB h.dt) (Nat.beq x n)
    | isFalse _ => false
  | _ => false
theorem chkN_ok {r : Option (Fin × Heap)} {k : IntKind} {n : Nat} (h : chkN r k n = true) : ∃ H, r = some (.ret (.int k (.ofNat n)), H) ∧ asmB H.dt = true := by
  unfold chkN at h
  split at h
  · rename_i k' x H
    split at h
    · rename_i e _
      subst e
      rw [Bool.and_eq_true] at h
      have := Nat.eq_of_beq_eq_true h.2
      subst this
      exact ⟨H, rfl, h.1⟩
    · cases h
  · cases h
noncomputable def allN (f : Nat → Bool) (n : Nat) : Bool := @Nat.rec (fun _ => Bool) true (fun n ih => @Bool.rec (fun _ => Bool) false ih (f n)) n
theorem allN_ok {f : Nat → Bool} : ∀ {n : Nat}, allN f n = true → ∀ i, i < n → f i = true
  | 0, _, i, hi => by omega
  | n + 1, h, i, hi => by
    have h : @Bool.rec (fun _ => Bool) false (allN f n) (f n) = true := h
    cases hf : f n with
    | false => rw [hf] at h; cases h
    | true =>
      rw [hf] at h
      rcases Nat.lt_or_ge i n with l | l
      · exact allN_ok h i l
      · have : i = n := by omega
        subst this; exact hf

set_option maxRecDepth 1000000 in
theorem onesAll : allN (fun n => chkN (run0 407 [.int .u8 (.ofNat n)] noHeap) .i64 (popc n)) 256 = true := by kernel_rfl
set_option maxRecDepth 1000000 in
theorem bitT (n : Nat) : chkN (run0 387 [.int .u32 (.ofNat n), .bool true] noHeap) .u32 n = and true (Nat.beq n n) := by kernel_rfl
set_option maxRecDepth 1000000 in
theorem bitF (n : Nat) : chkN (run0 387 [.int .u32 (.ofNat n), .bool false] noHeap) .u32 0 = true := by kernel_rfl

theorem ones_ok : Out1 cx 407 (cU kOnes) (Go.Em.cS kOnes) := Out1.flat (by
  intro args v bs hk ha h
  unfold kOnes at hk
  split at hk
  · rename_i n
    cases hk
    have hn : Nat.ble n 255 = true := ha _ (by simp)
    have hn := Nat.le_of_ble_eq_true hn
    obtain ⟨H, h1, h2⟩ := chkN_ok (allN_ok onesAll n (by omega))
    exact CallR.closed (run_ok h1 h2) (by intro a ha; simp at ha; subst ha; rfl) rfl h
  · cases hk)
theorem bit_ok : Out1 cx 387 (cU kBit) (Go.Em.cS kBit) := Out1.flat (by
  intro args v bs hk ha h
  unfold kBit at hk
  split at hk
  · rename_i n b
    cases hk
    cases b with
    | true =>
      obtain ⟨H, h1, h2⟩ := chkN_ok ((bitT n).trans (by rw [Nat.beq_refl]; rfl))
      exact CallR.closed (run_ok h1 h2) (by intro a ha; simp at ha; rcases ha with rfl | rfl <;> rfl) rfl h
    | false =>
      obtain ⟨H, h1, h2⟩ := chkN_ok (bitF n)
      exact CallR.closed (run_ok h1 h2) (by intro a ha; simp at ha; rcases ha with rfl | rfl <;> rfl) rfl h
  · cases hk)

/-! ### alu.Do -/
noncomputable def aluArgs (a b fl : Nat) : List Value := [.int .i64 (.ofNat 9), .int .i64 (.ofNat 4), .int .u32 (.ofNat a), .int .u32 (.ofNat b), .int .u32 (.ofNat fl)]
noncomputable def alu3 (r : Option (Fin × Heap)) : Option (Nat × Nat) := match r with
  | some (.ret (.tuple vs), h) => match vs.toList with
    | [.int .u32 (.ofNat x), .int .u32 (.ofNat y), .int .i64 (.ofNat 0)] => match asmB h.dt with
      | true => some (x, y)
      | false => none
    | _ => none
  | _ => none
noncomputable def aluOut (a b fl : Nat) : Option (Nat × Nat) := alu3 (run0 304 (aluArgs a b fl) noHeap)
noncomputable def aluR (a b fl : Nat) : Nat := @Option.rec (Nat × Nat) (fun _ => Nat) 0 (fun p => p.1) (aluOut a b fl)
noncomputable def aluF (a b fl : Nat) : Nat := @Option.rec (Nat × Nat) (fun _ => Nat) 0 (fun p => p.2) (aluOut a b fl)
noncomputable def aluOk (a b fl : Nat) : Bool := @Option.rec (Nat × Nat) (fun _ => Bool) false (fun p => true) (aluOut a b fl)
theorem alu3_inv {r : Option (Fin × Heap)} {x y : Nat} (h : alu3 r = some (x, y)) : ∃ H, r = some (.ret (.tuple [Value.int .u32 (.ofNat x), .int .u32 (.ofNat y), .int .i64 (.ofNat 0)].toArray), H) ∧ asmB H.dt = true := by
  unfold alu3 at h
  split at h
  · rename_i vs H
    split at h
    · rename_i x1 y1 hvs
      cases hb : asmB H.dt with
      | false => rw [hb] at h; cases h
      | true =>
        rw [hb] at h
        cases h
        refine ⟨H, ?_, hb⟩
        rw [← hvs]
    · cases h
  · cases h
theorem do_ok : Out1 cx 304 (cU (kDo aluR aluF aluOk 9)) (Go.Em.cS (kDo aluR aluF aluOk 9)) := Out1.flat (by
  intro args v bs hk ha h
  unfold kDo at hk
  split at hk
  · rename_i o sz a b fl
    cases hk
    have h1 : Nat.beq o 9 = true := ha _ (by simp)
    have h2 : Nat.beq sz 4 = true := ha _ (by simp)
    have h3 : aluOk a b fl = true := ha _ (by simp)
    have h1 := Nat.eq_of_beq_eq_true h1
    have h2 := Nat.eq_of_beq_eq_true h2
    subst h1
    subst h2
    unfold aluOk at h3
    cases ho : aluOut a b fl with
    | none => rw [ho] at h3; cases h3
    | some p =>
      obtain ⟨x, y⟩ := p
      have hR : aluR a b fl = x := by unfold aluR; rw [ho]
      have hF : aluF a b fl = y := by unfold aluF; rw [ho]
      rw [hR, hF]
      obtain ⟨H, g1, g2⟩ := alu3_inv ho
      exact CallR.closedT (run_ok g1 g2) (by intro a ha; simp [aluArgs] at ha; rcases ha with rfl | rfl | rfl | rfl | rfl <;> rfl) (by intro a ha; simp at ha; rcases ha with rfl | rfl | rfl <;> rfl) h
  · cases hk)

/-! ### The contexts -/
noncomputable def sLow (z : Bool) : ExtF := addE 304 (Go.Em.cS (kDo aluR aluF aluOk 9)) (addE 407 (Go.Em.cS kOnes) (addE 387 (Go.Em.cS kBit)
  (addE 102 (gS (withE cx noE) 100000 wayQuiet (mkFn Tryz.f102) (Go.Em.call (withE cx noE) 100000)) (addE 261 (rS true (Go.Em.call (withE cx noE) 100000) 261) (addE 324 (gS (withE cx noE) 100000 (wayL z) (mkFn Tryz.f324) (Go.Em.call (withE cx noE) 100000)) noE)))))
theorem fE102 : cx.fn 102 = some (mkFn Tryz.f102) := by kernel_rfl
theorem fE324 : cx.fn 324 = some (mkFn Tryz.f324) := by kernel_rfl
theorem fE26 : cx.fn 26 = some (mkFn Tryz.f26) := by kernel_rfl
theorem low_ok (z : Bool) : Outs cx (eLow z aluR aluF aluOk) (sLow z) := by
  refine Outs.add (Outs.add (Outs.add (Outs.add (Outs.add (Outs.add E0 ?_) ?_) ?_) ?_) ?_) ?_
  · exact Out1.told O0 E0 J0 fE324 rfl 100000 (wayL z)
  · exact Out1.truth O0 E0 J0 261 true 100000
  · exact Out1.told O0 E0 J0 fE102 rfl 100000 wayQuiet
  · exact bit_ok
  · exact ones_ok
  · exact do_ok
/-- How flags go on. -/
noncomputable def aluG (x fl : Nat) : Nat := aluF (mk32 x) 0 fl
noncomputable def sMid (z : Bool) : ExtF := addE 55 (tellS (Go.Em.call (withE cx (sLow z)) 100000 55) (nxtC aluG)) (sLow z)
theorem mid_ok (z : Bool) : Outs cx (eMid (sLow z) z aluR aluF aluOk aluG) (sMid z) :=
  Outs.add (low_ok z) (Out1.tell O0 (low_ok z) (jt_oke (sLow z)) 55 100000 (nxtC aluG))
noncomputable def sTop (z : Bool) : ExtF := addE 26 (gS (withE cx (sMid z)) 100000 wayStep (mkFn Tryz.f26) (Go.Em.call (withE cx (sMid z)) 100000)) (sMid z)
theorem top_ok (z : Bool) : Outs cx (eTop (sLow z) (sMid z) z aluR aluF aluOk aluG) (sTop z) :=
  Outs.add (mid_ok z) (Out1.told O0 (mid_ok z) (jt_oke (sMid z)) fE26 (by cases z <;> kernel_rfl) 100000 wayStep)

/-- A block's run from one filling of a form to another one. -/
theorem run_step (z : Bool) {args : List Value} {v : Value} {S : List (Nat × Sh)} {K : Nat} {x x' : Nat → Int} {ns : List Nat}
    (hr : outM (fillH x S) (callHU (withE cx (sTop z)) (eTop (sLow z) (sMid z) z aluR aluF aluOk aluG) jt 100000 9 args (litH (fillH x S) K)) = some (.ret v, fillH x' S, ns)) (ha : ∀ n ∈ ns, n = 0) (hv : flat v = true) :
    CallR cx 9 args (litH (fillH x S) K) (.ret v) (litH (fillH x' S) K) := by
  obtain ⟨H1, h1, h2, h3⟩ := outM_inv hr
  refine CallR.step ((top_ok z).call O0 (jt_oke (sTop z)) h1 (asmL_ok ?_)) h2 hv
  rw [h3]; exact ha

/-! ### Facts on one more -/
noncomputable def chkA (x fl : Nat) : Bool := @Option.rec (Nat × Nat) (fun _ => Bool) false (fun p => and (Nat.beq p.1 (Nat.succ x)) (or (Nat.beq p.2 514) (or (Nat.beq p.2 518) (or (Nat.beq p.2 530) (Nat.beq p.2 534))))) (aluOut x 0 fl)
def F4 (fl : Nat) : Prop := fl = 514 ∨ fl = 518 ∨ fl = 530 ∨ fl = 534
end Go.Proofs.YtpomandkgdmadaaGreat
