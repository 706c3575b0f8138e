/-
  The law's loop, statement by statement.
-/
import Derived.Test.YtpomandkgdmadaaGreatTcS
import Derived.Test.YtpomandkgdmadaaGreatUaB
import Derived.Test.YtpomandkgdmadaaGreatTcG
import Derived.KernelRfl
import Derived.Test.YtpomandkgdmadaaGreatTcQ0
import Derived.Test.YtpomandkgdmadaaGreatTcQ2
import Derived.Test.YtpomandkgdmadaaGreatTcQ4
namespace Go.Proofs.YtpomandkgdmadaaGreat
open Go.Em
set_option linter.unusedVariables false
set_option maxRecDepth 100000

abbrev NT : Nat := 144
noncomputable def one1 (t : Nat) (x : Bool) : Em.Way := fun s => match Nat.beq s t with
  | true => some x
  | false => none
noncomputable def vI (n : Int) : Value := .int .i64 n
noncomputable def base6 (T : Int) (lim env blk : Value) (D I : Int) : List (Nat × Value) := [(0, vI T), (2, lim), (8, env), (9, blk), (11, vI D), (12, vI I)]
noncomputable def base7 (T : Int) (lim env blk : Value) (D I l : Int) : List (Nat × Value) := [(0, vI T), (2, lim), (8, env), (9, blk), (11, vI D), (12, vI I), (13, vI l)]

section
variable (T D I l : Int) (lim env blk : Value) (h : Heap)

theorem r14 : RunR cx NT (rg 14) (stL [(0, vI T), (2, lim), (8, env), (9, blk), (11, vI D)] h) .normal (stL (base6 T lim env blk D 0) h) :=
  RunR.way O0 noCallF_ok (A := fun _ => none) (ts := [0, 2, 8, 9, 11, 12]) (bs := []) (by kernel_rfl) (fun _ h => by cases h) (by kernel_rfl)

theorem r15t (hd : D < IntKind.wrap .i64 (3 * T)) (hi : I < 2000) : RunR cx NT (.seq (rg 15) (.cond (.tmp 66) .skip (.exit 0))) (stL (base6 T lim env blk D I) h) .normal (stL (base6 T lim env blk D I) h) := by
  have R : RunR cx NT (rg 15) (stL (base6 T lim env blk D I) h) .normal (stL ((66, .bool (decide (I < 2000))) :: base6 T lim env blk D I) h) :=
    RunR.way O0 noCallF_ok (A := one1 63 true) (ts := [66, 0, 2, 8, 9, 11, 12]) (bs := [eqB (decide (D < IntKind.wrap .i64 (3 * T))) true, eqB (decide (D < IntKind.wrap .i64 (3 * T))) true, eqB (decide (D < IntKind.wrap .i64 (3 * T))) true]) (by kernel_rfl)
      (fun b hb => by simp at hb; subst hb; rw [decide_eq_true hd]; rfl) (by kernel_rfl)
  have e : decide (I < 2000) = true := decide_eq_true hi
  rw [e] at R
  refine R.seq (RunR.cond (t := true) (by kernel_rfl) ((RunR.skip _).weak ?_))
  exact Weak.slots (st := stL ((66, .bool true) :: base6 T lim env blk D I) h) (ts := [0, 2, 8, 9, 11, 12]) (by kernel_rfl) rfl
theorem r15f (hd : ¬ D < IntKind.wrap .i64 (3 * T)) : RunR cx NT (.seq (rg 15) (.cond (.tmp 66) .skip (.exit 0))) (stL (base6 T lim env blk D I) h) (.exit 0) (stL (base6 T lim env blk D I) h) := by
  have R : RunR cx NT (rg 15) (stL (base6 T lim env blk D I) h) .normal (stL ((66, .bool false) :: base6 T lim env blk D I) h) :=
    RunR.way O0 noCallF_ok (A := one1 63 false) (ts := [66, 0, 2, 8, 9, 11, 12]) (bs := [eqB (decide (D < IntKind.wrap .i64 (3 * T))) false, eqB (decide (D < IntKind.wrap .i64 (3 * T))) false, eqB (decide (D < IntKind.wrap .i64 (3 * T))) false]) (by kernel_rfl)
      (fun b hb => by simp at hb; subst hb; rw [decide_eq_false hd]; rfl) (by kernel_rfl)
  refine R.seq (RunR.cond (t := false) (by kernel_rfl) ((RunR.exit 0 _).weak ?_))
  exact Weak.slots (st := stL ((66, .bool false) :: base6 T lim env blk D I) h) (ts := [0, 2, 8, 9, 11, 12]) (by kernel_rfl) rfl

theorem r17 : RunR cx NT (rg 17) (stL (base6 T lim env blk D I) h) .normal (stL (base7 T lim env blk D I 64) h) :=
  RunR.way O0 noCallF_ok (A := fun _ => none) (ts := [0, 2, 8, 9, 11, 12, 13]) (bs := []) (by kernel_rfl) (fun _ h => by cases h) (by kernel_rfl)

theorem r20 : RunR cx NT (rg 20) (stL (base7 T lim env blk D I l) h) .normal (stL ((89, .bool (decide (l > IntKind.wrap .i64 (IntKind.wrap .i64 (3 * T) - D)))) :: base7 T lim env blk D I l) h) :=
  RunR.way O0 noCallF_ok (A := fun _ => none) (ts := [89, 0, 2, 8, 9, 11, 12, 13]) (bs := []) (by kernel_rfl) (fun _ h => by cases h) (by kernel_rfl)
theorem r21 (b : Bool) : RunR cx NT (rg 21) (stL ((89, .bool b) :: base7 T lim env blk D I l) h) .normal (stL (base7 T lim env blk D I (IntKind.wrap .i64 (IntKind.wrap .i64 (3 * T) - D))) h) :=
  RunR.way O0 noCallF_ok (A := fun _ => none) (ts := [0, 2, 8, 9, 11, 12, 13]) (bs := []) (by kernel_rfl) (fun _ h => by cases h) (by kernel_rfl)
theorem r16 : RunR cx NT (rg 16) (stL (base6 T lim env blk D I) h) .normal (stL (base6 T lim env blk D (IntKind.wrap .i64 (I + 1))) h) :=
  RunR.way O0 noCallF_ok (A := fun _ => none) (ts := [0, 2, 8, 9, 11, 12]) (bs := []) (by kernel_rfl) (fun _ h => by cases h) (by kernel_rfl)

/-- The limit that is asked of a round is cut. -/
theorem r2021 (x : Int) (hx : IntKind.wrap .i64 (IntKind.wrap .i64 (3 * T) - D) = x) : RunR cx NT (.seq (rg 20) (.cond (.tmp 89) (rg 21) .skip)) (stL (base7 T lim env blk D I l) h) .normal (stL (base7 T lim env blk D I (if l > x then x else l)) h) := by
  have R := r20 T D I l lim env blk h
  have R2 := r21 T D I l lim env blk h true
  rw [hx] at R R2
  by_cases hl : l > x
  · rw [if_pos hl]
    rw [decide_eq_true hl] at R
    exact R.seq (RunR.cond (t := true) (by kernel_rfl) R2)
  · rw [if_neg hl]
    rw [decide_eq_false hl] at R
    refine R.seq (RunR.cond (t := false) (by kernel_rfl) ((RunR.skip _).weak ?_))
    exact Weak.slots (st := stL ((89, .bool false) :: base7 T lim env blk D I l) h) (ts := [0, 2, 8, 9, 11, 12, 13]) (by kernel_rfl) rfl

/-- The block's run. -/
theorem r22 {n : Int} {h1 : Heap} (C : CallR cx 9 [blk, env, vI l] h (.ret (vI n)) h1) : RunR cx NT (rg 22) (stL (base7 T lim env blk D I l) h) .normal (stL (base6 T lim env blk (IntKind.wrap .i64 (D + n)) I) h1) :=
  RunR.call1 O0 C (A := fun _ => none) (ts := [0, 2, 8, 9, 11, 12]) (bs := []) (fun cf => by kernel_rfl) (by kernel_rfl) (fun _ h => by cases h) (by kernel_rfl)
end

/-! ### The limits -/
theorem tq22 : cx.ty 22 = some ⟨.slice 3, 1, 24, .slice none 0 0⟩ := by kernel_rfl
theorem tq3 : cx.ty 3 = some ⟨.int .i64, 1, 8, .int .i64 (.ofNat 0)⟩ := by kernel_rfl
theorem idx {i len cap : Nat} (hi : i < len) : indexAddrE cx 22 (.slice (some ⟨0, 0, none⟩) len cap) (.int .i64 (.ofNat i)) = some (.pointer (some ⟨0, i, none⟩)) := by
  have e := tq22
  have e3 := tq3
  unfold indexAddrE
  rw [e]
  dsimp only
  rw [e3]
  have h1 : decide ((0 : Int) ≤ Int.ofNat i) = true := decide_eq_true (Int.natCast_nonneg i)
  have h2 : Nat.blt (Int.ofNat i).toNat len = true := by
    show Nat.ble (i + 1) len = true
    exact Nat.ble_eq_true_of_le hi
  rw [h1, h2]
  dsimp only
  show (match Nat.beq (i * 1) 0 with
    | true => some (Value.pointer (some ⟨0, 0, none⟩))
    | false => some (Value.pointer (some ⟨0, 0 + i * 1, none⟩))) = _
  rw [Nat.mul_one, Nat.zero_add]
  cases hb : Nat.beq i 0 with
  | true => rw [Nat.eq_of_beq_eq_true hb]
  | false => rfl
theorem lod {h : Heap} {i size el es : Nat} {f : Nat → Int} {ro : Bool} (hg : h.get 0 = some (.row size (fun j => vI (f j)) .nil el es ro)) (hi : i < size) : loadT cx h 3 ⟨0, i, none⟩ = some (vI (f i)) := by
  have e3 := tq3
  unfold loadT
  rw [e3]
  dsimp only
  show (match loadN h ⟨0, i, none⟩ 1 with
    | some [v] => some v
    | _ => none) = _
  unfold loadN
  dsimp only
  rw [hg]
  dsimp only
  have h2 : Nat.ble (i + 1) size = true := Nat.ble_eq_true_of_le hi
  rw [h2]
  rfl

noncomputable def puts (tm : Tr Value) : List (Nat × Value) → Tr Value
  | [] => tm
  | p :: l => puts (putT tm (some p.1) p.2) l
noncomputable def nthO : Nat → List Oper → Oper
  | _, [] => ⟨none, .move (.tmp 0), 0, "", #[], none⟩
  | 0, o :: _ => o
  | n + 1, _ :: l => nthO n l
noncomputable def fstO : Nat → List Oper → List Oper
  | 0, _ => []
  | _, [] => []
  | n + 1, o :: l => o :: fstO n l
noncomputable def dropO : Nat → List Oper → List Oper
  | 0, l => l
  | _, [] => []
  | n + 1, _ :: l => dropO n l

noncomputable def l18 : List Oper := (R3 18).toList
theorem l18_eq : l18 = fstO 7 l18 ++ (nthO 7 l18 :: nthO 8 l18 :: dropO 9 l18) := by kernel_rfl
noncomputable def l19 : List Oper := (R3 19).toList
theorem l19_eq : l19 = fstO 2 l19 ++ (nthO 2 l19 :: nthO 3 l19 :: dropO 4 l19) := by kernel_rfl

section
variable (T D : Int) (i len cap : Nat) (env blk : Value) (h : Heap)
noncomputable abbrev limV (len cap : Nat) : Value := .slice (some ⟨0, 0, none⟩) len cap

/-- No such limit. -/
theorem r18n (I l : Int) (lim : Value) (n : Nat) (hlim : lim = .slice none 0 0 ∧ n = 0 ∨ lim = limV n cap) (hi : ¬ I < Int.ofNat n) :
    RunR cx NT (.seq (rg 18) (.cond (.tmp 79) (rg 19) .skip)) (stL (base7 T lim env blk D I l) h) .normal (stL (base7 T lim env blk D I l) h) := by
  have R : RunR cx NT (rg 18) (stL (base7 T lim env blk D I l) h) .normal (stL ((79, .bool false) :: base7 T lim env blk D I l) h) := by
    rcases hlim with ⟨rfl, rfl⟩ | rfl
    · exact RunR.way O0 noCallF_ok (A := one1 73 false) (ts := [79, 0, 2, 8, 9, 11, 12, 13]) (bs := [eqB (decide (I < Int.ofNat 0)) false, eqB (decide (I < Int.ofNat 0)) false, eqB (decide (I < Int.ofNat 0)) false, eqB (decide (I < Int.ofNat 0)) false, eqB (decide (I < Int.ofNat 0)) false, eqB (decide (I < Int.ofNat 0)) false]) (by kernel_rfl)
        (fun b hb => by simp only [List.mem_cons, List.not_mem_nil, or_false, or_self] at hb; subst hb; rw [decide_eq_false hi]; rfl) (by kernel_rfl)
    · exact RunR.way O0 noCallF_ok (A := one1 73 false) (ts := [79, 0, 2, 8, 9, 11, 12, 13]) (bs := [eqB (decide (I < Int.ofNat n)) false, eqB (decide (I < Int.ofNat n)) false, eqB (decide (I < Int.ofNat n)) false, eqB (decide (I < Int.ofNat n)) false, eqB (decide (I < Int.ofNat n)) false, eqB (decide (I < Int.ofNat n)) false]) (by kernel_rfl)
        (fun b hb => by simp only [List.mem_cons, List.not_mem_nil, or_false, or_self] at hb; subst hb; rw [decide_eq_false hi]; rfl) (by kernel_rfl)
  refine R.seq (RunR.cond (t := false) (by kernel_rfl) ((RunR.skip _).weak ?_))
  exact Weak.slots (st := stL ((79, .bool false) :: base7 T lim env blk D I l) h) (ts := [0, 2, 8, 9, 11, 12, 13]) (by kernel_rfl) rfl

noncomputable def p18 (b : Bool) : List (Nat × Value) := [(69, vI (.ofNat i)), (70, limV len cap), (71, vI (.ofNat len)), (72, .bool b), (73, .bool b), (74, limV len cap), (75, vI (.ofNat i))]
theorem c18a (l : Int) (ht : decide (Int.ofNat i < Int.ofNat len) = true) : opsE cx noCallF false l18 (fstO 7 l18) (stL (base7 T (limV len cap) env blk D (.ofNat i) l) h) =
    some (.normal, ⟨puts (tmL (base7 T (limV len cap) env blk D (.ofNat i) l)) (p18 i len cap true), [], .run, h⟩) := by
  have e : opsW cx noCallF (one1 73 true) l18 (fstO 7 l18) (stL (base7 T (limV len cap) env blk D (.ofNat i) l) h) =
    some (⟨puts (tmL (base7 T (limV len cap) env blk D (.ofNat i) l)) (p18 i len cap (decide (Int.ofNat i < Int.ofNat len))), [], .run, h⟩, [eqB (decide (Int.ofNat i < Int.ofNat len)) true, eqB (decide (Int.ofNat i < Int.ofNat len)) true]) := by kernel_rfl
  rw [ht] at e
  exact opsW_ok e (fun b hb => by simp only [List.mem_cons, List.not_mem_nil, or_false, or_self] at hb; subst hb; rfl)
theorem c18b (l v : Int) : opsE cx noCallF false l18 (dropO 9 l18) ⟨puts (tmL (base7 T (limV len cap) env blk D (.ofNat i) l)) (p18 i len cap true ++ [(76, .pointer (some ⟨0, i, none⟩)), (77, vI v)]), [], .run, h⟩ =
    some (.normal, ⟨puts (tmL (base7 T (limV len cap) env blk D (.ofNat i) l)) (p18 i len cap true ++ [(76, .pointer (some ⟨0, i, none⟩)), (77, vI v), (78, .bool (decide (v > 0))), (79, .bool (decide (v > 0)))]), [], .run, h⟩) := by kernel_rfl
theorem c18 (l v : Int) (hi : i < len) (hl : loadT cx h 3 ⟨0, i, none⟩ = some (vI v)) : opsE cx noCallF false l18 l18 (stL (base7 T (limV len cap) env blk D (.ofNat i) l) h) =
    some (.normal, ⟨puts (tmL (base7 T (limV len cap) env blk D (.ofNat i) l)) (p18 i len cap true ++ [(76, .pointer (some ⟨0, i, none⟩)), (77, vI v), (78, .bool (decide (v > 0))), (79, .bool (decide (v > 0)))]), [], .run, h⟩) := by
  have ht : decide (Int.ofNat i < Int.ofNat len) = true := decide_eq_true (Int.ofNat_lt.2 hi)
  refine Eq.trans (congrArg (fun x => opsE cx noCallF false l18 x (stL (base7 T (limV len cap) env blk D (.ofNat i) l) h)) l18_eq) ?_
  · refine opsE_app (c18a T D i len cap env blk h l ht) ?_
    have w1 : wantE l18 (puts (tmL (base7 T (limV len cap) env blk D (.ofNat i) l)) (p18 i len cap true)) (nthO 7 l18) = some true := by kernel_rfl
    have o1 : opE cx noCallF (puts (tmL (base7 T (limV len cap) env blk D (.ofNat i) l)) (p18 i len cap true)) h (nthO 7 l18).op = some (.val (.pointer (some ⟨0, i, none⟩)), h) := by
      have e : opE cx noCallF (puts (tmL (base7 T (limV len cap) env blk D (.ofNat i) l)) (p18 i len cap true)) h (nthO 7 l18).op = val (indexAddrE cx 22 (limV len cap) (.int .i64 (.ofNat i))) h := by kernel_rfl
      rw [e, idx hi]; rfl
    rw [opsE_one w1 o1]
    have w2 : wantE l18 (puts (tmL (base7 T (limV len cap) env blk D (.ofNat i) l)) (p18 i len cap true ++ [(76, .pointer (some ⟨0, i, none⟩))])) (nthO 8 l18) = some true := by kernel_rfl
    have o2 : opE cx noCallF (puts (tmL (base7 T (limV len cap) env blk D (.ofNat i) l)) (p18 i len cap true ++ [(76, .pointer (some ⟨0, i, none⟩))])) h (nthO 8 l18).op = some (.val (vI v), h) := by
      have e : opE cx noCallF (puts (tmL (base7 T (limV len cap) env blk D (.ofNat i) l)) (p18 i len cap true ++ [(76, .pointer (some ⟨0, i, none⟩))])) h (nthO 8 l18).op = val (loadT cx h 3 ⟨0, i, none⟩) h := by kernel_rfl
      rw [e, hl]; rfl
    have s1 : (⟨putT (puts (tmL (base7 T (limV len cap) env blk D (.ofNat i) l)) (p18 i len cap true)) (nthO 7 l18).dst (.pointer (some ⟨0, i, none⟩)), [], .run, h⟩ : St) =
        ⟨puts (tmL (base7 T (limV len cap) env blk D (.ofNat i) l)) (p18 i len cap true ++ [(76, .pointer (some ⟨0, i, none⟩))]), [], .run, h⟩ := by kernel_rfl
    rw [s1, opsE_one w2 o2]
    have s2 : (⟨putT (puts (tmL (base7 T (limV len cap) env blk D (.ofNat i) l)) (p18 i len cap true ++ [(76, .pointer (some ⟨0, i, none⟩))])) (nthO 8 l18).dst (vI v), [], .run, h⟩ : St) =
        ⟨puts (tmL (base7 T (limV len cap) env blk D (.ofNat i) l)) (p18 i len cap true ++ [(76, .pointer (some ⟨0, i, none⟩)), (77, vI v)]), [], .run, h⟩ := by kernel_rfl
    rw [s2]
    exact c18b T D i len cap env blk h l v

noncomputable def p19 : List (Nat × Value) := [(80, limV len cap), (81, vI (.ofNat i))]
noncomputable def b8 (b : Bool) (l : Int) : List (Nat × Value) := (79, .bool b) :: base7 T (limV len cap) env blk D (.ofNat i) l
theorem c19b (l v : Int) : opsE cx noCallF false l19 (dropO 4 l19) ⟨puts (tmL (b8 T D i len cap env blk true l)) (p19 i len cap ++ [(82, .pointer (some ⟨0, i, none⟩)), (83, vI v)]), [], .run, h⟩ =
    some (.normal, ⟨puts (tmL (b8 T D i len cap env blk true l)) (p19 i len cap ++ [(82, .pointer (some ⟨0, i, none⟩)), (83, vI v), (13, vI v)]), [], .run, h⟩) := by kernel_rfl
theorem c19 (l v : Int) (hi : i < len) (hl : loadT cx h 3 ⟨0, i, none⟩ = some (vI v)) : opsE cx noCallF false l19 l19 (stL (b8 T D i len cap env blk true l) h) =
    some (.normal, ⟨puts (tmL (b8 T D i len cap env blk true l)) (p19 i len cap ++ [(82, .pointer (some ⟨0, i, none⟩)), (83, vI v), (13, vI v)]), [], .run, h⟩) := by
  refine Eq.trans (congrArg (fun x => opsE cx noCallF false l19 x (stL (b8 T D i len cap env blk true l) h)) l19_eq) ?_
  · have c1 : opsE cx noCallF false l19 (fstO 2 l19) (stL (b8 T D i len cap env blk true l) h) = some (.normal, ⟨puts (tmL (b8 T D i len cap env blk true l)) (p19 i len cap), [], .run, h⟩) := by kernel_rfl
    refine opsE_app c1 ?_
    have w1 : wantE l19 (puts (tmL (b8 T D i len cap env blk true l)) (p19 i len cap)) (nthO 2 l19) = some true := by kernel_rfl
    have o1 : opE cx noCallF (puts (tmL (b8 T D i len cap env blk true l)) (p19 i len cap)) h (nthO 2 l19).op = some (.val (.pointer (some ⟨0, i, none⟩)), h) := by
      have e : opE cx noCallF (puts (tmL (b8 T D i len cap env blk true l)) (p19 i len cap)) h (nthO 2 l19).op = val (indexAddrE cx 22 (limV len cap) (.int .i64 (.ofNat i))) h := by kernel_rfl
      rw [e, idx hi]; rfl
    rw [opsE_one w1 o1]
    have w2 : wantE l19 (puts (tmL (b8 T D i len cap env blk true l)) (p19 i len cap ++ [(82, .pointer (some ⟨0, i, none⟩))])) (nthO 3 l19) = some true := by kernel_rfl
    have o2 : opE cx noCallF (puts (tmL (b8 T D i len cap env blk true l)) (p19 i len cap ++ [(82, .pointer (some ⟨0, i, none⟩))])) h (nthO 3 l19).op = some (.val (vI v), h) := by
      have e : opE cx noCallF (puts (tmL (b8 T D i len cap env blk true l)) (p19 i len cap ++ [(82, .pointer (some ⟨0, i, none⟩))])) h (nthO 3 l19).op = val (loadT cx h 3 ⟨0, i, none⟩) h := by kernel_rfl
      rw [e, hl]; rfl
    have s1 : (⟨putT (puts (tmL (b8 T D i len cap env blk true l)) (p19 i len cap)) (nthO 2 l19).dst (.pointer (some ⟨0, i, none⟩)), [], .run, h⟩ : St) =
        ⟨puts (tmL (b8 T D i len cap env blk true l)) (p19 i len cap ++ [(82, .pointer (some ⟨0, i, none⟩))]), [], .run, h⟩ := by kernel_rfl
    rw [s1, opsE_one w2 o2]
    have s2 : (⟨putT (puts (tmL (b8 T D i len cap env blk true l)) (p19 i len cap ++ [(82, .pointer (some ⟨0, i, none⟩))])) (nthO 3 l19).dst (vI v), [], .run, h⟩ : St) =
        ⟨puts (tmL (b8 T D i len cap env blk true l)) (p19 i len cap ++ [(82, .pointer (some ⟨0, i, none⟩)), (83, vI v)]), [], .run, h⟩ := by kernel_rfl
    rw [s2]
    exact c19b T D i len cap env blk h l v

/-- A limit of one's own, if it is above nothing. -/
theorem r18y (l v : Int) (hi : i < len) (hl : loadT cx h 3 ⟨0, i, none⟩ = some (vI v)) :
    RunR cx NT (.seq (rg 18) (.cond (.tmp 79) (rg 19) .skip)) (stL (base7 T (limV len cap) env blk D (.ofNat i) l) h) .normal (stL (base7 T (limV len cap) env blk D (.ofNat i) (if v > 0 then v else l)) h) := by
  have R : RunR cx NT (rg 18) (stL (base7 T (limV len cap) env blk D (.ofNat i) l) h) .normal (stL (b8 T D i len cap env blk (decide (v > 0)) l) h) := by
    refine (RunR.ops O0 noCallF_ok (c18 T D i len cap env blk h l v hi hl) (by kernel_rfl)).weak ?_
    exact Weak.slots (st := ⟨puts (tmL (base7 T (limV len cap) env blk D (.ofNat i) l)) (p18 i len cap true ++ [(76, .pointer (some ⟨0, i, none⟩)), (77, vI v), (78, .bool (decide (v > 0))), (79, .bool (decide (v > 0)))]), [], .run, h⟩) (ts := [79, 0, 2, 8, 9, 11, 12, 13]) (by kernel_rfl) rfl
  by_cases hv : v > 0
  · rw [if_pos hv]
    rw [decide_eq_true hv] at R
    refine R.seq (RunR.cond (t := true) (by kernel_rfl) ?_)
    refine (RunR.ops O0 noCallF_ok (c19 T D i len cap env blk h l v hi hl) (by kernel_rfl)).weak ?_
    exact Weak.slots (st := ⟨puts (tmL (b8 T D i len cap env blk true l)) (p19 i len cap ++ [(82, .pointer (some ⟨0, i, none⟩)), (83, vI v), (13, vI v)]), [], .run, h⟩) (ts := [0, 2, 8, 9, 11, 12, 13]) (by kernel_rfl) rfl
  · rw [if_neg hv]
    rw [decide_eq_false hv] at R
    refine R.seq (RunR.cond (t := false) (by kernel_rfl) ((RunR.skip _).weak ?_))
    exact Weak.slots (st := stL (b8 T D i len cap env blk false l) h) (ts := [0, 2, 8, 9, 11, 12, 13]) (by kernel_rfl) rfl
end

end Go.Proofs.YtpomandkgdmadaaGreat

/-
  The law's loop runs its rounds.
-/
namespace Go.Proofs.YtpomandkgdmadaaGreat
open Go.Em
set_option linter.unusedVariables false
set_option maxRecDepth 100000

/-- A list of limits and the block that holds it. -/
def Lm (lim : Value) (o : Option Em.Obj) : Prop := lim = .slice none 0 0 ∨ (∃ cap : Nat, lim = limV 0 cap) ∨ ∃ (len cap size el es : Nat) (f : Nat → Int) (ro : Bool), lim = limV len cap ∧ o = some (.row size (fun j => vI (f j)) .nil el es ro) ∧ len ≤ size

theorem besd_get (o : Em.Obj) (L : List (Nat × Lo)) (K : Nat) : (litH (besd (some o) L) K).get 0 = some o := by
  show (trL ((0, .obj o) :: L)).get 0 = some o
  rw [cons_get, if_pos rfl]

theorem r18 {lim : Value} {o : Option Em.Obj} (hL : Lm lim o) (T D : Int) (i : Nat) (env blk : Value) (L : List (Nat × Lo)) (K : Nat) : ∃ l : Int, 1 ≤ l ∧
    RunR cx NT (.seq (rg 18) (.cond (.tmp 79) (rg 19) .skip)) (stL (base7 T lim env blk D (.ofNat i) 64) (litH (besd o L) K)) .normal (stL (base7 T lim env blk D (.ofNat i) l) (litH (besd o L) K)) := by
  rcases hL with rfl | ⟨cap, rfl⟩ | ⟨len, cap, size, el, es, f, ro, rfl, rfl, hs⟩
  · refine ⟨64, by omega, r18n T D 0 env blk _ (.ofNat i) 64 _ 0 (.inl ⟨rfl, rfl⟩) ?_⟩
    intro h
    have : (Int.ofNat i) < 0 := h
    have : (0 : Int) ≤ Int.ofNat i := Int.natCast_nonneg i
    omega
  · refine ⟨64, by omega, r18n T D cap env blk _ (.ofNat i) 64 _ 0 (.inr rfl) ?_⟩
    intro h
    have : (Int.ofNat i) < 0 := h
    have : (0 : Int) ≤ Int.ofNat i := Int.natCast_nonneg i
    omega
  · by_cases hi : i < len
    · refine ⟨_, ?_, r18y T D i len cap env blk _ 64 (f i) hi (lod (f := f) (besd_get _ L K) (by omega))⟩
      split
      · omega
      · omega
    · refine ⟨64, by omega, r18n T D cap env blk _ (.ofNat i) 64 _ len (.inr rfl) ?_⟩
      intro h
      have := Int.ofNat_lt.1 h
      exact hi this

noncomputable abbrev mem (S : List (Nat × Sh)) (K : Nat) (o : Option Em.Obj) (T d fl : Nat) : Heap := litH (besd o (fillH (X T 0 d fl) S)) K

/-- A round. -/
theorem round {S : List (Nat × Sh)} {K : Nat} {blk env : Value} (RF : RunFact S K blk env) (h0 : ∀ x, (trL (fillH x S)).get 0 = none) {lim : Value} {o : Option Em.Obj} (hL : Lm lim o) {T : Nat} (hT : T ≤ 201) {d i fl : Nat} (hd : d < 3 * T) (hi : i < 2000) (hf : F4 fl) : ∃ n fl', 1 ≤ n ∧ d + n ≤ 3 * T ∧ F4 fl' ∧
    RunR cx NT loopB (stL (base6 (.ofNat T) lim env blk (.ofNat d) (.ofNat i)) (mem S K o T d fl)) .normal (stL (base6 (.ofNat T) lim env blk (.ofNat (d + n)) (.ofNat (i + 1))) (mem S K o T (d + n) fl')) := by
  have w3 : IntKind.wrap .i64 (3 * Int.ofNat T) = Int.ofNat (3 * T) := by
    rw [wrap64 (by show _ ≤ 3 * (T : Int); omega) (by show 3 * (T : Int) < _; omega)]
    show 3 * (T : Int) = ((3 * T : Nat) : Int)
    omega
  obtain ⟨l, hl, R18⟩ := r18 hL (.ofNat T) (.ofNat d) i env blk (fillH (X T 0 d fl) S) K
  have hx : IntKind.wrap .i64 (IntKind.wrap .i64 (3 * Int.ofNat T) - Int.ofNat d) = Int.ofNat (3 * T - d) := by
    rw [w3, wrap64 (by show _ ≤ ((3 * T : Nat) : Int) - (d : Int); omega) (by show ((3 * T : Nat) : Int) - (d : Int) < _; omega)]
    show ((3 * T : Nat) : Int) - (d : Int) = ((3 * T - d : Nat) : Int)
    omega
  have R20 := r2021 (.ofNat T) (.ofNat d) (.ofNat i) l lim env blk (mem S K o T d fl) _ hx
  obtain ⟨q, hq, hq1, hq2⟩ : ∃ q : Nat, (if l > Int.ofNat (3 * T - d) then Int.ofNat (3 * T - d) else l) = Int.ofNat q ∧ 1 ≤ q ∧ q ≤ 3 * T - d := by
    by_cases hl2 : l > Int.ofNat (3 * T - d)
    · exact ⟨3 * T - d, by rw [if_pos hl2], by omega, by omega⟩
    · refine ⟨l.toNat, ?_, ?_, ?_⟩
      · rw [if_neg hl2]
        show l = ((l.toNat : Nat) : Int)
        omega
      · omega
      · have : ¬ l > ((3 * T - d : Nat) : Int) := hl2
        omega
  rw [hq] at R20
  obtain ⟨n, fl', hn1, hn2, hf', C⟩ := RF T 0 d fl q hT (by omega) hd hf hq1 hq2
  have R22 := r22 (.ofNat T) (.ofNat d) (.ofNat i) (.ofNat q) lim env blk _ (n := .ofNat n) (C.beside (h0 _) o)
  have wd : IntKind.wrap .i64 (Int.ofNat d + Int.ofNat n) = Int.ofNat (d + n) := by
    rw [wrap64 (by show _ ≤ (d : Int) + (n : Int); omega) (by show (d : Int) + (n : Int) < _; omega)]
    rfl
  rw [wd] at R22
  have R16 := r16 (.ofNat T) (.ofNat (d + n)) (.ofNat i) lim env blk (mem S K o T (d + n) fl')
  have wi : IntKind.wrap .i64 (Int.ofNat i + 1) = Int.ofNat (i + 1) := by
    rw [wrap64 (by show _ ≤ (i : Int) + 1; omega) (by show (i : Int) + 1 < _; omega)]
    rfl
  rw [wi] at R16
  have R15 := r15t (.ofNat T) (.ofNat d) (.ofNat i) lim env blk (mem S K o T d fl) (by rw [w3]; exact Int.ofNat_lt.2 hd) (by show (i : Int) < 2000; omega)
  have R17 := r17 (.ofNat T) (.ofNat d) (.ofNat i) lim env blk (mem S K o T d fl)
  exact ⟨n, fl', hn1, by omega, hf', R15.seq ((RunR.block (R17.seq (R18.seq (R20.seq R22)))).seq R16)⟩

/-- All rounds. -/
theorem rounds {S : List (Nat × Sh)} {K : Nat} {blk env : Value} (RF : RunFact S K blk env) (h0 : ∀ x, (trL (fillH x S)).get 0 = none) {lim : Value} {o : Option Em.Obj} (hL : Lm lim o) {T : Nat} (hT : T ≤ 201) : ∀ (m d i fl : Nat), 3 * T - d ≤ m → d ≤ 3 * T → i ≤ d → F4 fl → ∃ ie fl', F4 fl' ∧
    RunR cx NT (.loop loopB) (stL (base6 (.ofNat T) lim env blk (.ofNat d) (.ofNat i)) (mem S K o T d fl)) (.exit 0) (stL (base6 (.ofNat T) lim env blk (.ofNat (3 * T)) (.ofNat ie)) (mem S K o T (3 * T) fl')) := by
  intro m
  induction m with
  | zero =>
    intro d i fl hm hd hi hf
    have e : d = 3 * T := by omega
    subst e
    have w3 : IntKind.wrap .i64 (3 * Int.ofNat T) = Int.ofNat (3 * T) := by
      rw [wrap64 (by show _ ≤ 3 * (T : Int); omega) (by show 3 * (T : Int) < _; omega)]
      show 3 * (T : Int) = ((3 * T : Nat) : Int)
      omega
    exact ⟨i, fl, hf, RunR.loop_out (RunR.seq_out (r15f _ _ _ _ _ _ _ (by rw [w3]; exact Int.lt_irrefl _)) (by intro h; cases h)) (by intro h; cases h)⟩
  | succ m ih =>
    intro d i fl hm hd hi hf
    by_cases e : d = 3 * T
    · subst e
      have w3 : IntKind.wrap .i64 (3 * Int.ofNat T) = Int.ofNat (3 * T) := by
        rw [wrap64 (by show _ ≤ 3 * (T : Int); omega) (by show 3 * (T : Int) < _; omega)]
        show 3 * (T : Int) = ((3 * T : Nat) : Int)
        omega
      exact ⟨i, fl, hf, RunR.loop_out (RunR.seq_out (r15f _ _ _ _ _ _ _ (by rw [w3]; exact Int.lt_irrefl _)) (by intro h; cases h)) (by intro h; cases h)⟩
    · obtain ⟨n, fl1, hn1, hn2, hf1, R⟩ := round RF h0 hL hT (d := d) (i := i) (by omega) (by omega) hf
      obtain ⟨ie, fl2, hf2, R2⟩ := ih (d + n) (i + 1) fl1 (by omega) hn2 (by omega) hf1
      exact ⟨ie, fl2, hf2, RunR.loop_next R R2⟩

/-! ### What is looked at last -/
noncomputable def way23 : Em.Way := fun t => match t with
  | 104 => some true
  | 115 => some true
  | 127 => some true
  | 136 => some true
  | _ => none
noncomputable def n23 (T D A B C : Int) : List Bool := List.replicate 10 (eqB (D == IntKind.wrap .i64 (3 * T)) true) ++ (List.replicate 11 (eqB (A == IntKind.wrap .u32 T) true) ++ (List.replicate 8 (eqB (B == IntKind.wrap .u32 (IntKind.wrap .i64 (T + 7))) true) ++ List.replicate 7 (eqB (C == 0) true)))
/-- What is looked at last, of a form of memory. -/
def EndFact (S : List (Nat × Sh)) (K : Nat) (blk env : Value) : Prop := ∀ (o : Option Em.Obj) (T D I A B C FL t : Int) (lim : Value), allT (n23 T D A B C) →
  RunR cx NT (rg 23) (stL (base6 T lim env blk D I) (litH (besd o (fillH (pv [A, B, C, FL, .ofNat 260, t]) S)) K)) .normal (stL [(6, .bool true)] (litH (besd o (fillH (pv [A, B, C, FL, .ofNat 260, t]) S)) K))
theorem end1 : EndFact shape1 nx1 blk1 env1 := by
  intro o T D I A B C FL t lim ha
  cases o with
  | none => exact RunR.way O0 noCallF_ok (A := way23) (ts := [6]) (bs := n23 T D A B C) (by kernel_rfl) ha (by kernel_rfl)
  | some o => exact RunR.way O0 noCallF_ok (A := way23) (ts := [6]) (bs := n23 T D A B C) (by kernel_rfl) ha (by kernel_rfl)
theorem end2 : EndFact shape2 nx2 blk2 env2 := by
  intro o T D I A B C FL t lim ha
  cases o with
  | none => exact RunR.way O0 noCallF_ok (A := way23) (ts := [6]) (bs := n23 T D A B C) (by kernel_rfl) ha (by kernel_rfl)
  | some o => exact RunR.way O0 noCallF_ok (A := way23) (ts := [6]) (bs := n23 T D A B C) (by kernel_rfl) ha (by kernel_rfl)
theorem end3 : EndFact shape3 nx3 blk3 env3 := by
  intro o T D I A B C FL t lim ha
  cases o with
  | none => exact RunR.way O0 noCallF_ok (A := way23) (ts := [6]) (bs := n23 T D A B C) (by kernel_rfl) ha (by kernel_rfl)
  | some o => exact RunR.way O0 noCallF_ok (A := way23) (ts := [6]) (bs := n23 T D A B C) (by kernel_rfl) ha (by kernel_rfl)
theorem end4 : EndFact shape4 nx4 blk4 env4 := by
  intro o T D I A B C FL t lim ha
  cases o with
  | none => exact RunR.way O0 noCallF_ok (A := way23) (ts := [6]) (bs := n23 T D A B C) (by kernel_rfl) ha (by kernel_rfl)
  | some o => exact RunR.way O0 noCallF_ok (A := way23) (ts := [6]) (bs := n23 T D A B C) (by kernel_rfl) ha (by kernel_rfl)
theorem zero1 : ∀ x, (trL (fillH x shape1)).get 0 = none := fun x => by kernel_rfl
theorem zero2 : ∀ x, (trL (fillH x shape2)).get 0 = none := fun x => by kernel_rfl
theorem zero3 : ∀ x, (trL (fillH x shape3)).get 0 = none := fun x => by kernel_rfl
theorem zero4 : ∀ x, (trL (fillH x shape4)).get 0 = none := fun x => by kernel_rfl

/-- The loop and what is behind it. -/
theorem tail_ok {S : List (Nat × Sh)} {K : Nat} {blk env : Value} (RF : RunFact S K blk env) (EF : EndFact S K blk env) (h0 : ∀ x, (trL (fillH x S)).get 0 = none) {lim : Value} {o : Option Em.Obj} (hL : Lm lim o) {T : Nat} (hT : T ≤ 201) (hT1 : 1 ≤ T) :
    ∃ h1, RunR cx NT tailC (stL [(0, vI (.ofNat T)), (2, lim), (8, env), (9, blk), (11, vI (.ofNat 0))] (mem S K o T 0 514)) .ret (stL [(6, .bool true)] h1) := by
  obtain ⟨ie, fl, hf, R⟩ := rounds RF h0 hL hT (3 * T) 0 0 514 (by omega) (by omega) (by omega) (.inl rfl)
  have R14 := r14 (.ofNat T) (.ofNat 0) lim env blk (mem S K o T 0 514)
  have eX : X T 0 (3 * T) fl = pv [.ofNat T, .ofNat (7 + T), .ofNat 0, .ofNat fl, .ofNat 260, .ofNat (3 * T)] := X_of (by omega) (by omega) (by omega) (if_pos rfl) (by omega)
  have w3 : IntKind.wrap .i64 (3 * Int.ofNat T) = Int.ofNat (3 * T) := by
    rw [wrap64 (by show _ ≤ 3 * (T : Int); omega) (by show 3 * (T : Int) < _; omega)]
    show 3 * (T : Int) = ((3 * T : Nat) : Int)
    omega
  have w7 : IntKind.wrap .u32 (IntKind.wrap .i64 (Int.ofNat T + 7)) = Int.ofNat (7 + T) := by
    rw [wrap64 (by show _ ≤ (T : Int) + 7; omega) (by show (T : Int) + 7 < _; omega), wrap32 (by show _ ≤ (T : Int) + 7; omega) (by show (T : Int) + 7 < _; omega)]
    show (T : Int) + 7 = ((7 + T : Nat) : Int)
    omega
  have w1 : IntKind.wrap .u32 (Int.ofNat T) = Int.ofNat T := wrap32 (Int.natCast_nonneg T) (by show (T : Int) < _; omega)
  have ha : allT (n23 (.ofNat T) (.ofNat (3 * T)) (.ofNat T) (.ofNat (7 + T)) (.ofNat 0)) := by
    unfold n23
    rw [w3, w7, w1]
    have key : ∀ (n : Nat) (x : Int), allT (List.replicate n (eqB (x == x) true)) := by
      intro n x b hb
      have := (List.mem_replicate.1 hb).2
      rw [this, beq_self_eq_true]
      rfl
    have app : ∀ {a b : List Bool}, allT a → allT b → allT (a ++ b) := fun h1 h2 x hx => by
      rcases List.mem_append.1 hx with h | h
      · exact h1 x h
      · exact h2 x h
    exact app (key 10 _) (app (key 11 _) (app (key 8 _) (key 7 (.ofNat 0))))
  have R23 := EF o (.ofNat T) (.ofNat (3 * T)) (.ofNat ie) (.ofNat T) (.ofNat (7 + T)) (.ofNat 0) (.ofNat fl) (.ofNat (3 * T)) lim ha
  rw [← eX] at R23
  exact ⟨_, (R14.seq (RunR.block_exit R)).seq (R23.seq (RunR.ret _))⟩

end Go.Proofs.YtpomandkgdmadaaGreat

/-
  The law's call.
-/
namespace Go.Proofs.YtpomandkgdmadaaGreat
open Go.Em
set_option linter.unusedVariables false
set_option maxRecDepth 100000

theorem fE3 : cx.fn 3 = some (mkFn Tryz.f3) := by kernel_rfl

/-- Few is few. -/
theorem few_lt {n : Int} {m : Nat} (hm : m = 200 ∨ m = 63) (h1 : -9223372036854775808 ≤ n) (h2 : n ≤ 9223372036854775807) : ∃ k : Nat, k ≤ m ∧ fewI n m = Int.ofNat k := by
  have wm : IntKind.wrap .i64 (Int.ofNat m + 1) = (m : Int) + 1 := by
    rw [wrap64 (by show _ ≤ (m : Int) + 1; omega) (by show (m : Int) + 1 < _; omega)]
    rfl
  have key : ∀ x : Int, 0 ≤ x → ∃ k : Nat, k ≤ m ∧ x.tmod ((m : Int) + 1) = Int.ofNat k := by
    intro x hx
    rw [Int.tmod_eq_emod_of_nonneg hx]
    have a1 : 0 ≤ x % ((m : Int) + 1) := Int.emod_nonneg x (by omega)
    have a2 : x % ((m : Int) + 1) < (m : Int) + 1 := Int.emod_lt_of_pos x (by omega)
    refine ⟨(x % ((m : Int) + 1)).toNat, by omega, ?_⟩
    show x % ((m : Int) + 1) = (((x % ((m : Int) + 1)).toNat : Nat) : Int)
    omega
  unfold fewI
  rw [wm]
  by_cases hn : n < 0
  · rw [decide_eq_true hn]
    show ∃ k : Nat, k ≤ m ∧ (fewN n).tmod ((m : Int) + 1) = Int.ofNat k
    refine key _ ?_
    unfold fewN
    rw [wrap64 (n := n + 1) (by omega) (by omega), wrap64 (by omega) (by omega)]
    omega
  · rw [decide_eq_false hn]
    exact key n (by omega)

theorem wT_eq {k : Nat} (hk : k ≤ 200) : wT k = Int.ofNat (k + 1) := by
  unfold wT
  rw [wrap64 (by show _ ≤ (1 : Int) + (k : Int); omega) (by show (1 : Int) + (k : Int) < _; omega)]
  show (1 : Int) + (k : Int) = ((k + 1 : Nat) : Int)
  omega
theorem xP_eq {k : Nat} (hk : k ≤ 200) : xP k 514 0 = X (k + 1) 0 0 514 := by
  have e : X (k + 1) 0 0 514 = pv [.ofNat 0, .ofNat 7, .ofNat (k + 1), .ofNat 514, .ofNat 256, .ofNat 0] := X_of (by omega) (by omega) (by omega) (by rw [if_neg (by omega)]) (by omega)
  rw [e]
  unfold xP
  rw [wT_eq hk, wrap32 (n := Int.ofNat (k + 1)) (Int.natCast_nonneg (k + 1)) (by show ((k + 1 : Nat) : Int) < _; omega)]

theorem startedC (o : Option Em.Obj) : CallR cx 5 [.int .i64 (.ofNat 0), .int .u32 (.ofNat 36352)] (litH (besd o []) 1) (.ret env0) (litH (besd o (fillH x0 shape0)) nx0) :=
  (E0.stepNew O0 J0 startedRun (fun n h => by cases h)).beside rfl o
theorem awakeC (h : Heap) : CallR cx 4 [] h (.ret (.bool true)) h := by
  obtain ⟨H, h1, h2⟩ := chkT_ok awake4
  exact CallR.closed (run_ok h1 h2) (by intro a ha; cases ha) rfl h

/-- Ahead of the chain. -/
theorem head_ok (o : Option Em.Obj) (times most : Int) (lim : Value) {tail : Code} {ex : Ex} {st' : St} (R : RunR cx NT tail (stL [(0, vI times), (1, vI most), (2, lim), (7, .bool true), (8, env0)] (litH (besd o (fillH x0 shape0)) nx0)) ex st') :
    RunR cx NT (.seq (rg 0) (.seq (rg 1) (.seq (rg 2) tail))) ⟨argsT 0 [vI times, vI most, lim] .nil, [], .run, litH (besd o []) 1⟩ ex st' := by
  have W0 : Weak ⟨argsT 0 [vI times, vI most, lim] .nil, [], .run, litH (besd o []) 1⟩ (stL [(0, vI times), (1, vI most), (2, lim)] (litH (besd o []) 1)) := Weak.slots (ts := [0, 1, 2]) (by kernel_rfl) rfl
  have R0 : ∀ h, RunR cx NT (rg 0) (stL [(0, vI times), (1, vI most), (2, lim)] h) .normal (stL [(0, vI times), (1, vI most), (2, lim)] h) := fun h =>
    RunR.way O0 noCallF_ok (A := fun _ => none) (ts := [0, 1, 2]) (bs := []) (by kernel_rfl) (fun _ h => by cases h) (by kernel_rfl)
  have R1 : ∀ h, RunR cx NT (rg 1) (stL [(0, vI times), (1, vI most), (2, lim)] h) .normal (stL [(0, vI times), (1, vI most), (2, lim), (7, .bool true)] h) := fun h =>
    RunR.call1 O0 (awakeC h) (A := fun _ => none) (ts := [0, 1, 2, 7]) (bs := []) (fun cf => by kernel_rfl) (by kernel_rfl) (fun _ h => by cases h) (by kernel_rfl)
  have R2 : ∀ h h1, CallR cx 5 [.int .i64 (.ofNat 0), .int .u32 (.ofNat 36352)] h (.ret env0) h1 → RunR cx NT (rg 2) (stL [(0, vI times), (1, vI most), (2, lim), (7, .bool true)] h) .normal (stL [(0, vI times), (1, vI most), (2, lim), (7, .bool true), (8, env0)] h1) := fun h h1 C =>
    RunR.call1 O0 C (A := fun _ => none) (ts := [0, 1, 2, 7, 8]) (bs := []) (fun cf => by kernel_rfl) (by kernel_rfl) (fun _ h => by cases h) (by kernel_rfl)
  exact RunR.from W0 ((R0 _).seq ((R1 _).seq ((R2 _ _ (startedC o)).seq R)))

theorem codeOk : codeB NT (seqs preL .skip) = true := by kernel_rfl

theorem zs1 {n : Nat} (h : n = 0) : ∀ m ∈ [n], m = 0 := fun m hm => by simp at hm; rw [hm]; exact h

/-- What the law's statements come to. -/
theorem law_run {lim : Value} {o : Option Em.Obj} (hL : Lm lim o) {times most : Int} (t1 : -9223372036854775808 ≤ times) (t2 : times ≤ 9223372036854775807) (m1 : -9223372036854775808 ≤ most) (m2 : most ≤ 9223372036854775807) :
    ∃ h1, RunR cx NT (mkFn Tryz.f3).2 ⟨argsT 0 [vI times, vI most, lim] .nil, [], .run, litH (besd o []) 1⟩ .ret (stL [(6, .bool true)] h1) := by
  obtain ⟨k, hk, ek⟩ := few_lt (.inl rfl) t1 t2
  obtain ⟨p, hp, ep⟩ := few_lt (.inr rfl) m1 m2
  have ak : offB (isI (fewI times 200) k) = 0 := offB_true (isI_iff.2 ek)
  have ap : offB (isI (fewI most 63) p) = 0 := offB_true (isI_iff.2 ep)
  rw [lawBody]
  have fin : ∀ {S : List (Nat × Sh)} {K nx : Nat} {blk env : Value} {e s : ExtF} {ns : List Nat}, RunFact S K blk env → EndFact S K blk env → (∀ x, (trL (fillH x S)).get 0 = none) → Outs cx e s → nx ≤ K → (∀ n ∈ ns, n = 0) →
      outN [0, 2, 8, 9, 11] (besd o (fillH (xP k 514 0) S)) (exec (withE cx s) (callHU (withE cx s) e jt 100000) false 100 (seqs preL .skip) (stL [(0, vI times), (1, vI most), (2, lim), (7, .bool true), (8, env0)] (litH (besd o (fillH x0 shape0)) nx0))) =
        some ([(0, .int .i64 (wT k)), (2, lim), (8, env), (9, blk), (11, .int .i64 0)], besd o (fillH (xP k 514 0) S), nx, ns) →
      ∃ h1, RunR cx NT (.seq (rg 0) (.seq (rg 1) (.seq (rg 2) (seqs preL tailC)))) ⟨argsT 0 [vI times, vI most, lim] .nil, [], .run, litH (besd o []) 1⟩ .ret (stL [(6, .bool true)] h1) := by
    intro S K nx blk env e s ns RF EF h0 H hK ha hr
    obtain ⟨h1, R⟩ := tail_ok RF EF h0 hL (T := k + 1) (by omega) (by omega)
    refine ⟨h1, head_ok o times most lim (RunR.chain O0 H (jt_oke s) hr ha codeOk hK ?_)⟩
    rw [wT_eq hk, xP_eq hk]
    exact R
  have two : ∀ {a b : Nat}, a = 0 → b = 0 → ∀ n ∈ [a, b], n = 0 := by
    intro a b ha hb n hn
    simp only [List.mem_cons, List.not_mem_nil, or_false] at hn
    rcases hn with rfl | rfl
    · exact ha
    · exact hb
  rcases Nat.lt_or_ge p 4 with h4 | h4
  · have hp4 : p = 0 ∨ p = 1 ∨ p = 2 ∨ p = 3 := by omega
    rcases hp4 with rfl | rfl | rfl | rfl
    · cases o with
      | none => exact fin fact1 end1 zero1 (pre_ok k 0) (Nat.le_refl _) (two ap ak) (pre0n (sPre k 0) times most lim k 0)
      | some o => exact fin fact1 end1 zero1 (pre_ok k 0) (Nat.le_refl _) (two ap ak) (pre0o o (sPre k 0) times most lim k 0)
    · cases o with
      | none => exact fin fact2 end2 zero2 (pre_ok k 1) (Nat.le_refl _) (two ap ak) (pre1n (sPre k 1) times most lim k 0)
      | some o => exact fin fact2 end2 zero2 (pre_ok k 1) (Nat.le_refl _) (two ap ak) (pre1o o (sPre k 1) times most lim k 0)
    · cases o with
      | none => exact fin fact3 end3 zero3 (pre_ok k 2) (Nat.le_refl _) (two ap ak) (pre2n (sPre k 2) times most lim k 0)
      | some o => exact fin fact3 end3 zero3 (pre_ok k 2) (Nat.le_refl _) (two ap ak) (pre2o o (sPre k 2) times most lim k 0)
    · cases o with
      | none => exact fin fact4 end4 zero4 (pre_ok k 3) (of_decide_eq_true (by kernel_rfl)) (two ap ak) (pre3n (sPre k 3) times most lim k 0)
      | some o => exact fin fact4 end4 zero4 (pre_ok k 3) (of_decide_eq_true (by kernel_rfl)) (two ap ak) (pre3o o (sPre k 3) times most lim k 0)
  · obtain ⟨q, rfl⟩ : ∃ q, p = q + 4 := ⟨p - 4, by omega⟩
    have a1 : offB (isI (IntKind.wrap .i64 (Int.ofNat 1 + Int.ofNat (q + 4))) (q + 5)) = 0 := offB_true (isI_iff.2 (by
      rw [wrap64 (by show _ ≤ (1 : Int) + ((q + 4 : Nat) : Int); omega) (by show (1 : Int) + ((q + 4 : Nat) : Int) < _; omega)]
      show (1 : Int) + ((q + 4 : Nat) : Int) = ((q + 5 : Nat) : Int)
      omega))
    have a2 : offB (eqB (Nat.ble 65 (q + 5)) false) = 0 := offB_true (by
      have : Nat.ble 65 (q + 5) = false := by
        cases hb : Nat.ble 65 (q + 5) with
        | false => rfl
        | true => have := Nat.le_of_ble_eq_true hb; omega
      rw [this]; rfl)
    have four : ∀ n ∈ [offB (isI (IntKind.wrap .i64 (Int.ofNat 1 + Int.ofNat (q + 4))) (q + 5)), offB (eqB (Nat.ble 65 (q + 5)) false), offB (isI (fewI most 63) (q + 4)), offB (isI (fewI times 200) k)], n = 0 := by
      intro n hn
      simp only [List.mem_cons, List.not_mem_nil, or_false] at hn
      rcases hn with rfl | rfl | rfl | rfl
      · exact a1
      · exact a2
      · exact ap
      · exact ak
    cases o with
    | none => exact fin fact4 end4 zero4 (make_ok k q) (Nat.le_refl _) four (pre4n (sMake k q) times most lim k q)
    | some o => exact fin fact4 end4 zero4 (make_ok k q) (Nat.le_refl _) four (pre4o o (sMake k q) times most lim k q)

/-- The law's call. -/
theorem law_call {lim : Value} {o : Option Em.Obj} (hL : Lm lim o) {times most : Int} (t1 : -9223372036854775808 ≤ times) (t2 : times ≤ 9223372036854775807) (m1 : -9223372036854775808 ≤ most) (m2 : most ≤ 9223372036854775807) :
    ∃ h1, CallR cx 3 [vI times, vI most, lim] (litH (besd o []) 1) (.ret (.bool true)) h1 := by
  obtain ⟨h1, R⟩ := law_run hL t1 t2 m1 m2
  exact ⟨h1, CallR.of_run O0 (fn := Tryz.f3) (vs := [.bool true]) fE3 R rfl (.inr rfl) (by kernel_rfl)⟩

end Go.Proofs.YtpomandkgdmadaaGreat
