/-
  Few, awake, and what stands ahead of the loop: the outside functions.
-/
import Derived.Test.YtpomandkgdmadaaGreatTcA
import Derived.Test.YtpomandkgdmadaaGreatUaB
import Derived.KernelRfl
namespace Go.Proofs.YtpomandkgdmadaaGreat
open Go.Em
set_option linter.unusedVariables false

/-- A statement of a function's code, by its number. -/
noncomputable def regA (n : Nat) : Code → Option (Array Oper)
  | .region id ops _ => match Nat.beq id n with
    | true => some ops
    | false => none
  | .seq a b => match regA n a with
    | some x => some x
    | none => regA n b
  | .cond _ a b => match regA n a with
    | some x => some x
    | none => regA n b
  | .block _ a => regA n a
  | .loop a => regA n a
  | .scope a => regA n a
  | _ => none
noncomputable def regO (o : Option (Array Oper)) : Array Oper := match o with
  | some x => x
  | none => #[]
noncomputable def R6 (n : Nat) : Array Oper := regO (regA n (mkFn Tryz.f6).2)
theorem fE6 : cx.fn 6 = some (mkFn Tryz.f6) := by kernel_rfl
theorem fewBody : (mkFn Tryz.f6).2 = (.seq (.region 0 (R6 0) false) (.seq (.seq (.region 1 (R6 1) false) (.cond (.tmp 6) (.region 2 (R6 2) false) .skip)) (.seq (.region 3 (R6 3) false) .ret))) := by kernel_rfl

noncomputable def fewN (n : Int) : Int := IntKind.wrap .i64 (0 - IntKind.wrap .i64 (n + 1))
noncomputable def fewI (n : Int) (m : Nat) : Int := (@Bool.rec (fun _ => Int) n (fewN n) (decide (n < 0))).tmod (IntKind.wrap .i64 (Int.ofNat m + 1))
theorem few200 (n : Int) (h : Heap) : CallR cx 6 [.int .i64 n, .int .i64 (.ofNat 200)] h (.ret (.int .i64 (fewI n 200))) h := by
  have W0 : Weak ⟨argsT 0 [.int .i64 n, .int .i64 (.ofNat 200)] .nil, [], .run, h⟩ (stL [(0, .int .i64 n), (1, .int .i64 (.ofNat 200))] h) := Weak.slots (ts := [0, 1]) (by kernel_rfl) rfl
  have R0 : RunR cx 14 (.region 0 (R6 0) false) (stL [(0, .int .i64 n), (1, .int .i64 (.ofNat 200))] h) .normal (stL [(0, .int .i64 n), (1, .int .i64 (.ofNat 200))] h) :=
    RunR.way O0 noCallF_ok (A := fun _ => none) (ts := [0, 1]) (bs := []) (by kernel_rfl) (fun _ h => by cases h) (by kernel_rfl)
  have R1 : RunR cx 14 (.region 1 (R6 1) false) (stL [(0, .int .i64 n), (1, .int .i64 (.ofNat 200))] h) .normal (stL [(0, .int .i64 n), (1, .int .i64 (.ofNat 200)), (6, .bool (decide (n < 0)))] h) :=
    RunR.way O0 noCallF_ok (A := fun _ => none) (ts := [0, 1, 6]) (bs := []) (by kernel_rfl) (fun _ h => by cases h) (by kernel_rfl)
  have R2 : ∀ b, RunR cx 14 (.region 2 (R6 2) false) (stL [(0, .int .i64 n), (1, .int .i64 (.ofNat 200)), (6, .bool b)] h) .normal (stL [(0, .int .i64 (fewN n)), (1, .int .i64 (.ofNat 200))] h) := fun b =>
    RunR.way O0 noCallF_ok (A := fun _ => none) (ts := [0, 1]) (bs := []) (by kernel_rfl) (fun _ h => by cases h) (by kernel_rfl)
  have R3 : ∀ x : Int, RunR cx 14 (.region 3 (R6 3) false) (stL [(0, .int .i64 x), (1, .int .i64 (.ofNat 200))] h) .normal (stL [(4, .int .i64 (x.tmod (IntKind.wrap .i64 (Int.ofNat 200 + 1))))] h) := fun x =>
    RunR.way O0 noCallF_ok (A := fun _ => none) (ts := [4]) (bs := []) (by kernel_rfl) (fun _ h => by cases h) (by kernel_rfl)
  have W1 : ∀ b, Weak (stL [(0, .int .i64 n), (1, .int .i64 (.ofNat 200)), (6, .bool b)] h) (stL [(0, .int .i64 n), (1, .int .i64 (.ofNat 200))] h) := fun b => Weak.slots (st := stL [(0, .int .i64 n), (1, .int .i64 (.ofNat 200)), (6, .bool b)] h) (ts := [0, 1]) (by kernel_rfl) rfl
  have Rc : RunR cx 14 (.cond (.tmp 6) (.region 2 (R6 2) false) .skip) (stL [(0, .int .i64 n), (1, .int .i64 (.ofNat 200)), (6, .bool (decide (n < 0)))] h) .normal (stL [(0, .int .i64 (@Bool.rec (fun _ => Int) n (fewN n) (decide (n < 0)))), (1, .int .i64 (.ofNat 200))] h) := by
    cases hb : decide (n < 0) with
    | true => exact RunR.cond (t := true) (by kernel_rfl) (R2 true)
    | false => exact RunR.cond (t := false) (by kernel_rfl) ((RunR.skip _).weak (W1 false))
  have R : RunR cx 14 (mkFn Tryz.f6).2 (stL [(0, .int .i64 n), (1, .int .i64 (.ofNat 200))] h) .ret (stL [(4, .int .i64 (fewI n 200))] h) := by
    rw [fewBody]
    exact R0.seq ((R1.seq Rc).seq ((R3 _).seq (RunR.ret _)))
  exact CallR.of_run O0 (fn := Tryz.f6) (vs := [.int .i64 (fewI n 200)]) fE6 (R.from W0) rfl (.inr rfl) (by kernel_rfl)

theorem few63 (n : Int) (h : Heap) : CallR cx 6 [.int .i64 n, .int .i64 (.ofNat 63)] h (.ret (.int .i64 (fewI n 63))) h := by
  have W0 : Weak ⟨argsT 0 [.int .i64 n, .int .i64 (.ofNat 63)] .nil, [], .run, h⟩ (stL [(0, .int .i64 n), (1, .int .i64 (.ofNat 63))] h) := Weak.slots (ts := [0, 1]) (by kernel_rfl) rfl
  have R0 : RunR cx 14 (.region 0 (R6 0) false) (stL [(0, .int .i64 n), (1, .int .i64 (.ofNat 63))] h) .normal (stL [(0, .int .i64 n), (1, .int .i64 (.ofNat 63))] h) :=
    RunR.way O0 noCallF_ok (A := fun _ => none) (ts := [0, 1]) (bs := []) (by kernel_rfl) (fun _ h => by cases h) (by kernel_rfl)
  have R1 : RunR cx 14 (.region 1 (R6 1) false) (stL [(0, .int .i64 n), (1, .int .i64 (.ofNat 63))] h) .normal (stL [(0, .int .i64 n), (1, .int .i64 (.ofNat 63)), (6, .bool (decide (n < 0)))] h) :=
    RunR.way O0 noCallF_ok (A := fun _ => none) (ts := [0, 1, 6]) (bs := []) (by kernel_rfl) (fun _ h => by cases h) (by kernel_rfl)
  have R2 : ∀ b, RunR cx 14 (.region 2 (R6 2) false) (stL [(0, .int .i64 n), (1, .int .i64 (.ofNat 63)), (6, .bool b)] h) .normal (stL [(0, .int .i64 (fewN n)), (1, .int .i64 (.ofNat 63))] h) := fun b =>
    RunR.way O0 noCallF_ok (A := fun _ => none) (ts := [0, 1]) (bs := []) (by kernel_rfl) (fun _ h => by cases h) (by kernel_rfl)
  have R3 : ∀ x : Int, RunR cx 14 (.region 3 (R6 3) false) (stL [(0, .int .i64 x), (1, .int .i64 (.ofNat 63))] h) .normal (stL [(4, .int .i64 (x.tmod (IntKind.wrap .i64 (Int.ofNat 63 + 1))))] h) := fun x =>
    RunR.way O0 noCallF_ok (A := fun _ => none) (ts := [4]) (bs := []) (by kernel_rfl) (fun _ h => by cases h) (by kernel_rfl)
  have W1 : ∀ b, Weak (stL [(0, .int .i64 n), (1, .int .i64 (.ofNat 63)), (6, .bool b)] h) (stL [(0, .int .i64 n), (1, .int .i64 (.ofNat 63))] h) := fun b => Weak.slots (st := stL [(0, .int .i64 n), (1, .int .i64 (.ofNat 63)), (6, .bool b)] h) (ts := [0, 1]) (by kernel_rfl) rfl
  have Rc : RunR cx 14 (.cond (.tmp 6) (.region 2 (R6 2) false) .skip) (stL [(0, .int .i64 n), (1, .int .i64 (.ofNat 63)), (6, .bool (decide (n < 0)))] h) .normal (stL [(0, .int .i64 (@Bool.rec (fun _ => Int) n (fewN n) (decide (n < 0)))), (1, .int .i64 (.ofNat 63))] h) := by
    cases hb : decide (n < 0) with
    | true => exact RunR.cond (t := true) (by kernel_rfl) (R2 true)
    | false => exact RunR.cond (t := false) (by kernel_rfl) ((RunR.skip _).weak (W1 false))
  have R : RunR cx 14 (mkFn Tryz.f6).2 (stL [(0, .int .i64 n), (1, .int .i64 (.ofNat 63))] h) .ret (stL [(4, .int .i64 (fewI n 63))] h) := by
    rw [fewBody]
    exact R0.seq ((R1.seq Rc).seq ((R3 _).seq (RunR.ret _)))
  exact CallR.of_run O0 (fn := Tryz.f6) (vs := [.int .i64 (fewI n 63)]) fE6 (R.from W0) rfl (.inr rfl) (by kernel_rfl)

/-- What Few comes to, told ahead: k of 200, p of 63. -/
noncomputable def kFew (k p : Nat) : List Value → Option (Value × List Bool) := fun args => match args with
  | [.int .i64 n, .int .i64 (.ofNat m)] => match Nat.beq m 200 with
    | true => some (.int .i64 (.ofNat k), [isI (fewI n 200) k])
    | false => match Nat.beq m 63 with
      | true => some (.int .i64 (.ofNat p), [isI (fewI n 63) p])
      | false => none
  | _ => none
theorem few_ok (k p : Nat) : Out1 cx 6 (cU (kFew k p)) (Go.Em.cS (kFew k p)) := Out1.flat (by
  intro args v bs hk ha h
  unfold kFew at hk
  split at hk
  · rename_i n m
    cases h1 : Nat.beq m 200 with
    | true =>
      rw [h1] at hk
      cases hk
      have := Nat.eq_of_beq_eq_true h1
      subst this
      have e := isI_iff.1 (ha (isI (fewI n 200) k) (by simp))
      have := few200 n h
      rw [e] at this
      exact this
    | false =>
      rw [h1] at hk
      dsimp only at hk
      cases h2 : Nat.beq m 63 with
      | false => rw [h2] at hk; cases hk
      | true =>
        rw [h2] at hk
        cases hk
        have := Nat.eq_of_beq_eq_true h2
        subst this
        have e := isI_iff.1 (ha (isI (fewI n 63) p) (by simp))
        have := few63 n h
        rw [e] at this
        exact this
  · cases hk)

noncomputable def chkT (r : Option (Fin × Heap)) : Bool := match r with
  | some (.ret (.bool true), h) => asmB h.dt
  | _ => false
theorem chkT_ok {r : Option (Fin × Heap)} (h : chkT r = true) : ∃ H, r = some (.ret (.bool true), H) ∧ asmB H.dt = true := by
  unfold chkT at h
  split at h
  · rename_i H; exact ⟨H, rfl, h⟩
  · cases h
set_option maxRecDepth 1000000 in
theorem awake4 : chkT (run0 4 [] noHeap) = true := by kernel_rfl
noncomputable def kTrue : List Value → Option (Value × List Bool) := fun args => match args with
  | [] => some (.bool true, [])
  | _ => none
theorem awake_ok : Out1 cx 4 (cU kTrue) (Go.Em.cS kTrue) := Out1.flat (by
  intro args v bs hk ha h
  unfold kTrue at hk
  split at hk
  · cases hk
    obtain ⟨H, h1, h2⟩ := chkT_ok awake4
    exact CallR.closed (run_ok h1 h2) (by intro a ha; cases ha) rfl h
  · cases hk)

noncomputable def wayMake : Em.Way := fun t => match t with
  | 38 => some false
  | _ => none
noncomputable def ePre (k p : Nat) : ExtF := addE 4 (cU kTrue) (addE 6 (cU (kFew k p)) noE)
noncomputable def sPre (k p : Nat) : ExtF := addE 4 (Go.Em.cS kTrue) (addE 6 (Go.Em.cS (kFew k p)) noE)
theorem pre_ok (k p : Nat) : Outs cx (ePre k p) (sPre k p) := Outs.add (Outs.add E0 (few_ok k p)) awake_ok
noncomputable def eMake (k q : Nat) : ExtF := addE 8 (argIU (gU (withE cx noE) 100000 wayMake (mkFn Tryz.f8) run0) .i64 (q + 5)) (ePre k (q + 4))
noncomputable def sMake (k q : Nat) : ExtF := addE 8 (argIS (gS (withE cx noE) 100000 wayMake (mkFn Tryz.f8) (Go.Em.call (withE cx noE) 100000)) .i64 (q + 5)) (sPre k (q + 4))
theorem fE8 : cx.fn 8 = some (mkFn Tryz.f8) := by kernel_rfl
theorem make_ok (k q : Nat) : Outs cx (eMake k q) (sMake k q) := Outs.add (pre_ok k (q + 4)) (Out1.argI (Out1.told O0 E0 J0 fE8 rfl 100000 wayMake) .i64 (q + 5))

end Go.Proofs.YtpomandkgdmadaaGreat

/-
  The law's statements.
-/
namespace Go.Proofs.YtpomandkgdmadaaGreat
open Go.Em
set_option linter.unusedVariables false

noncomputable def R3 (n : Nat) : Array Oper := regO (regA n (mkFn Tryz.f3).2)
noncomputable def rg (n : Nat) : Code := .region n (R3 n) false
noncomputable def preL : List Code := [.seq (rg 3) (.cond (.tmp 21) (.seq (rg 4) .ret) .skip), rg 5, rg 6, rg 7, rg 8, rg 9, rg 10, .seq (rg 11) (.cond (.tmp 58) (.seq (rg 12) .ret) .skip), rg 13]
noncomputable def loopB : Code := .seq (.seq (rg 15) (.cond (.tmp 66) .skip (.exit 0))) (.seq (.block 1 (.seq (rg 17) (.seq (.seq (rg 18) (.cond (.tmp 79) (rg 19) .skip)) (.seq (.seq (rg 20) (.cond (.tmp 89) (rg 21) .skip)) (rg 22))))) (rg 16))
noncomputable def tailC : Code := .seq (.seq (rg 14) (.block 0 (.loop loopB))) (.seq (rg 23) .ret)
theorem lawBody : (mkFn Tryz.f3).2 = .seq (rg 0) (.seq (rg 1) (.seq (rg 2) (seqs preL tailC))) := by kernel_rfl
/-- The wish for how often, as it is stored. -/
noncomputable def wT (k : Nat) : Int := IntKind.wrap .i64 (Int.ofNat 1 + Int.ofNat k)
noncomputable def xP (k fl t : Nat) : Nat → Int := pv [.ofNat 0, .ofNat 7, IntKind.wrap .u32 (wT k), .ofNat fl, .ofNat 256, .ofNat t]

end Go.Proofs.YtpomandkgdmadaaGreat
