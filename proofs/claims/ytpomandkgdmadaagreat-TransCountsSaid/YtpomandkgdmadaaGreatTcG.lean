/-
  Where what a block's run notes holds.
-/
import Derived.Test.YtpomandkgdmadaaGreatTcF1
import Derived.Test.YtpomandkgdmadaaGreatTcF2
import Derived.Test.YtpomandkgdmadaaGreatTcF3
import Derived.Test.YtpomandkgdmadaaGreatTcF4
import Derived.KernelRfl
import Derived.Test.YtpomandkgdmadaaGreatTcR1
import Derived.Test.YtpomandkgdmadaaGreatTcR2
import Derived.Test.YtpomandkgdmadaaGreatTcR3
import Derived.Test.YtpomandkgdmadaaGreatTcR4
namespace Go.Proofs.YtpomandkgdmadaaGreat
open Go.Em
set_option linter.unusedVariables false

theorem alu_facts {x fl : Nat} (hx : x < 208) (hf : F4 fl) : aluOk x 0 fl = true ∧ aluR x 0 fl = x + 1 ∧ F4 (aluF x 0 fl) := by
  have h : chkA x fl = true := by
    rcases hf with rfl | rfl | rfl | rfl
    · exact allN_ok alu514 x hx
    · exact allN_ok alu518 x hx
    · exact allN_ok alu530 x hx
    · exact allN_ok alu534 x hx
  unfold chkA at h
  unfold aluOk aluR aluF
  cases ho : aluOut x 0 fl with
  | none => rw [ho] at h; cases h
  | some p =>
    rw [ho] at h
    have h : and (Nat.beq p.1 (Nat.succ x)) (or (Nat.beq p.2 514) (or (Nat.beq p.2 518) (or (Nat.beq p.2 530) (Nat.beq p.2 534)))) = true := h
    rw [Bool.and_eq_true, Bool.or_eq_true, Bool.or_eq_true, Bool.or_eq_true] at h
    obtain ⟨h1, h2⟩ := h
    refine ⟨rfl, Nat.eq_of_beq_eq_true h1, ?_⟩
    rcases h2 with h | h | h | h
    · exact .inl (Nat.eq_of_beq_eq_true h)
    · exact .inr (.inl (Nat.eq_of_beq_eq_true h))
    · exact .inr (.inr (.inl (Nat.eq_of_beq_eq_true h)))
    · exact .inr (.inr (.inr (Nat.eq_of_beq_eq_true h)))


/-! ### Each kind of note -/
theorem mk32_eq {x : Nat} (h : x < 4294967296) : mk32 x = x := by
  unfold mk32
  show ((x % 4294967296) &&& 4294967295) % 4294967296 = x
  have e : (x % 4294967296) &&& 4294967295 = (x % 4294967296) % 2 ^ 32 := Nat.and_two_pow_sub_one_eq_mod _ 32
  rw [e]
  omega
theorem offB_refl (n : Nat) : offB (Nat.beq n n) = 0 := by rw [Nat.beq_refl]; rfl
theorem offB_true {b : Bool} (h : b = true) : offB b = 0 := by rw [h]; rfl
theorem low0_eq (x : Nat) : low0 x = 0 := by unfold low0; exact Nat.and_zero _
def Zs (l : List Nat) : Prop := ∀ n ∈ l, n = 0
theorem Zs.cons {n : Nat} {l : List Nat} (h : n = 0) (hl : Zs l) : Zs (n :: l) := fun m hm => by
  rcases List.mem_cons.1 hm with rfl | hm
  · exact h
  · exact hl m hm
theorem Zs.nil : Zs [] := fun n h => by cases h

theorem cT_ok {t : Nat} {l : List Nat} (ht : t < 32000) (hl : Zs l) : Zs (cT t l) := by
  unfold cT
  refine .cons (offB_true ?_) (.cons (offB_true ?_) hl)
  · show Nat.beq ((t + 1) % 18446744073709551616) (t + 1) = true
    rw [Nat.mod_eq_of_lt (by omega)]
    exact Nat.beq_refl _
  · have e : Nat.ble (Nat.succ (Nat.mod (Nat.mod (Nat.sub (Nat.mod (Nat.add t 1) 18446744073709551616) 0) 18446744073709551616) 65536)) 32768 = true := by
      apply Nat.ble_eq_true_of_le
      show ((((t + 1) % 18446744073709551616 - 0) % 18446744073709551616) % 65536) + 1 ≤ 32768
      omega
    rw [e]; rfl
theorem cI_ok {x fl t : Nat} {l : List Nat} (hx : x < 208) (hf : F4 fl) (ht : t < 32000) (hl : Zs l) : Zs (cI aluR aluF aluOk aluG x fl t l) := by
  unfold cI
  obtain ⟨h1, h2, h3⟩ := alu_facts hx hf
  have hm : mk32 x = x := mk32_eq (by omega)
  refine .cons (offB_true ?_) (.cons (offB_true ?_) (cT_ok ht (.cons rfl (.cons rfl (.cons (offB_true ?_) hl)))))
  · rw [hm, h2, low0_eq]
    have e : Nat.mod (Nat.lor (Nat.mod (Nat.mod 0 4294967296) 4294967296) (Nat.mod (Nat.mod (Nat.land (Nat.mod (Nat.mod (Nat.mul (x + 1) 1) 4294967296) 4294967296) 4294967295) 4294967296) 4294967296)) 4294967296 = Nat.succ x := by
      show (0 ||| (((((x + 1) * 1 % 4294967296) % 4294967296) &&& 4294967295) % 4294967296) % 4294967296) % 4294967296 = x + 1
      rw [Nat.zero_or]
      have e : ((((x + 1) * 1 % 4294967296) % 4294967296) &&& 4294967295) = (((x + 1) * 1 % 4294967296) % 4294967296) % 2 ^ 32 := Nat.and_two_pow_sub_one_eq_mod _ 32
      rw [e]
      omega
    rw [e]
    exact Nat.beq_refl _
  · exact Nat.beq_refl _
  · rw [hm]; exact h1
theorem fIF_ok {fl : Nat} (hf : F4 fl) : fIF fl = false := by
  rcases hf with rfl | rfl | rfl | rfl <;> kernel_rfl
theorem cQ_ok {fl : Nat} {l : List Nat} (hf : F4 fl) (hl : Zs l) : Zs (cQ fl l) := by
  unfold cQ
  rw [fIF_ok hf]
  exact .cons rfl (.cons rfl (.cons rfl (.cons rfl (.cons rfl hl))))
theorem cS_ok {fl : Nat} {l : List Nat} (hf : F4 fl) (hl : Zs l) : Zs (cS fl l) := by
  unfold cS
  rw [fIF_ok hf]
  exact .cons rfl (.cons rfl (.cons rfl (.cons rfl (.cons rfl (.cons rfl (.cons rfl hl))))))
theorem cL_ok {k t : Nat} {l : List Nat} (hk : k < 1000) (ht : t < 32000) (hl : Zs l) : Zs (cL k t l) := by
  unfold cL
  have e : Nat.mod (Nat.sub (k + 2) 1) 4294967296 = k + 1 := by
    show (k + 2 - 1) % 4294967296 = k + 1
    omega
  have hf : fL k = false := by
    unfold fL
    rw [e]; rfl
  rw [e, hf]
  exact .cons (offB_refl _) (cT_ok ht (.cons rfl (.cons rfl (.cons rfl (.cons rfl (.cons rfl (.cons rfl (.cons rfl (.cons rfl (.cons rfl hl))))))))))
theorem cZ_ok {t : Nat} {l : List Nat} (ht : t < 32000) (hl : Zs l) : Zs (cZ t l) := .cons rfl (cT_ok ht hl)
theorem aluG_ok {x fl : Nat} (hx : x < 208) (hf : F4 fl) : F4 (aluG x fl) := by
  unfold aluG
  rw [mk32_eq (by omega)]
  exact (alu_facts hx hf).2.2

end Go.Proofs.YtpomandkgdmadaaGreat

/-
  What a block's run does, step counted.
-/
namespace Go.Proofs.YtpomandkgdmadaaGreat
open Go.Em
set_option linter.unusedVariables false

/-- The numbers behind d steps of a loop of T rounds. -/
noncomputable def X (T t0 d fl : Nat) : Nat → Int := pv [.ofNat ((d + 2) / 3), .ofNat (7 + (d + 1) / 3), .ofNat (T - d / 3), .ofNat fl, .ofNat (if d = 3 * T then 260 else 256 + d % 3), .ofNat (t0 + d)]
theorem X_of {T t0 d fl a b c ip t : Nat} (ha : (d + 2) / 3 = a) (hb : 7 + (d + 1) / 3 = b) (hc : T - d / 3 = c) (hi : (if d = 3 * T then 260 else 256 + d % 3) = ip) (ht : t0 + d = t) :
    X T t0 d fl = pv [.ofNat a, .ofNat b, .ofNat c, .ofNat fl, .ofNat ip, .ofNat t] := by
  subst ha; subst hb; subst hc; subst ht
  unfold X
  rw [hi]
theorem ip_in {T d p : Nat} (h : d < 3 * T) (hp : d % 3 = p) : (if d = 3 * T then 260 else 256 + d % 3) = 256 + p := by
  rw [if_neg (by omega), hp]
theorem ip_end {T d : Nat} (h : d = 3 * T) : (if d = 3 * T then 260 else 256 + d % 3) = 260 := if_pos h

theorem g1_256_1 {T t0 d fl l : Nat} (hT : T ≤ 201) (ht : t0 < 1000) (hd : d < 3 * T) (hp : d % 3 = 0) (hl : 1 ≤ l)  (hf : F4 fl) : ∃ fl', F4 fl' ∧
    CallR cx 9 [blk1, env1, .int .i64 (.ofNat l)] (litH (fillH (X T t0 d fl) shape1) nx1) (.ret (.int .i64 (.ofNat 1))) (litH (fillH (X T t0 (d + 1) fl') shape1) nx1) := by
  obtain ⟨j, rfl⟩ : ∃ j, l = j + 1 := ⟨l - 1, by omega⟩
  have e0 : X T t0 d fl = pv [.ofNat (d / 3), .ofNat (7 + d / 3), .ofNat (T - d / 3), .ofNat fl, .ofNat 256, .ofNat (t0 + d)] := X_of (by omega) (by omega) (by omega) (ip_in hd hp) rfl
  have e1 : X T t0 (d + 1) (aluG (d / 3) fl) = pv [.ofNat ((d / 3) + 1), .ofNat (7 + d / 3), .ofNat (T - d / 3), .ofNat (aluG (d / 3) fl), .ofNat 257, .ofNat (t0 + d + 1)] := X_of (by omega) (by omega) (by omega) (ip_in (T := T) (d := d + 1) (p := 1) (by omega) (by omega)) (by omega)
  refine ⟨_, (aluG_ok (x := (d / 3)) (by omega) hf), ?_⟩
  rw [e0, e1]
  exact run_step true (r1_256_1 (sLow true) (sMid true) (sTop true) aluR aluF aluOk aluG (d / 3) (7 + d / 3) (T - d / 3) fl (t0 + d) 0 j) (cI_ok (by omega) hf (by omega) (cQ_ok hf Zs.nil)) rfl

theorem g1_257_1 {T t0 d fl l : Nat} (hT : T ≤ 201) (ht : t0 < 1000) (hd : d < 3 * T) (hp : d % 3 = 1) (hl : 1 ≤ l)  (hf : F4 fl) : ∃ fl', F4 fl' ∧
    CallR cx 9 [blk1, env1, .int .i64 (.ofNat l)] (litH (fillH (X T t0 d fl) shape1) nx1) (.ret (.int .i64 (.ofNat 1))) (litH (fillH (X T t0 (d + 1) fl') shape1) nx1) := by
  obtain ⟨j, rfl⟩ : ∃ j, l = j + 1 := ⟨l - 1, by omega⟩
  have e0 : X T t0 d fl = pv [.ofNat (d / 3 + 1), .ofNat (7 + d / 3), .ofNat (T - d / 3), .ofNat fl, .ofNat 257, .ofNat (t0 + d)] := X_of (by omega) (by omega) (by omega) (ip_in hd hp) rfl
  have e1 : X T t0 (d + 1) (aluG (7 + d / 3) fl) = pv [.ofNat (d / 3 + 1), .ofNat ((7 + d / 3) + 1), .ofNat (T - d / 3), .ofNat (aluG (7 + d / 3) fl), .ofNat 258, .ofNat (t0 + d + 1)] := X_of (by omega) (by omega) (by omega) (ip_in (T := T) (d := d + 1) (p := 2) (by omega) (by omega)) (by omega)
  refine ⟨_, (aluG_ok (x := (7 + d / 3)) (by omega) hf), ?_⟩
  rw [e0, e1]
  exact run_step true (r1_257_1 (sLow true) (sMid true) (sTop true) aluR aluF aluOk aluG (d / 3 + 1) (7 + d / 3) (T - d / 3) fl (t0 + d) 0 j) (cS_ok hf (cI_ok (by omega) hf (by omega) Zs.nil)) rfl

theorem g1_258_1 {T t0 d fl l : Nat} (hT : T ≤ 201) (ht : t0 < 1000) (hd : d < 3 * T) (hp : d % 3 = 2) (hl : 1 ≤ l) (hc : 2 ≤ T - d / 3) (hf : F4 fl) : ∃ fl', F4 fl' ∧
    CallR cx 9 [blk1, env1, .int .i64 (.ofNat l)] (litH (fillH (X T t0 d fl) shape1) nx1) (.ret (.int .i64 (.ofNat 1))) (litH (fillH (X T t0 (d + 1) fl') shape1) nx1) := by
  obtain ⟨j, rfl⟩ : ∃ j, l = j + 1 := ⟨l - 1, by omega⟩
  obtain ⟨k, hk⟩ : ∃ k, T - d / 3 = k + 2 := ⟨T - d / 3 - 2, by omega⟩
  have e0 : X T t0 d fl = pv [.ofNat (d / 3 + 1), .ofNat (7 + d / 3 + 1), .ofNat (k + 2), .ofNat fl, .ofNat 258, .ofNat (t0 + d)] := X_of (by omega) (by omega) (by omega) (ip_in hd hp) rfl
  have e1 : X T t0 (d + 1) fl = pv [.ofNat (d / 3 + 1), .ofNat (7 + d / 3 + 1), .ofNat (k + 1), .ofNat fl, .ofNat 256, .ofNat (t0 + d + 1)] := X_of (by omega) (by omega) (by omega) (ip_in (T := T) (d := d + 1) (p := 0) (by omega) (by omega)) (by omega)
  refine ⟨_, hf, ?_⟩
  rw [e0, e1]
  exact run_step true (r1_258_1 (sLow true) (sMid true) (sTop true) aluR aluF aluOk aluG (d / 3 + 1) (7 + d / 3 + 1) 0 fl (t0 + d) k j) (cS_ok hf (cL_ok (by omega) (by omega) Zs.nil)) rfl

theorem g1_258_1z {T t0 d fl l : Nat} (hT : T ≤ 201) (ht : t0 < 1000) (hd : d < 3 * T) (hp : d % 3 = 2) (hl : 1 ≤ l) (hc : T - d / 3 = 1) (hf : F4 fl) : ∃ fl', F4 fl' ∧
    CallR cx 9 [blk1, env1, .int .i64 (.ofNat l)] (litH (fillH (X T t0 d fl) shape1) nx1) (.ret (.int .i64 (.ofNat 1))) (litH (fillH (X T t0 (d + 1) fl') shape1) nx1) := by
  obtain ⟨j, rfl⟩ : ∃ j, l = j + 1 := ⟨l - 1, by omega⟩
  have e0 : X T t0 d fl = pv [.ofNat (d / 3 + 1), .ofNat (7 + d / 3 + 1), .ofNat 1, .ofNat fl, .ofNat 258, .ofNat (t0 + d)] := X_of (by omega) (by omega) (by omega) (ip_in hd hp) rfl
  have e1 : X T t0 (d + 1) fl = pv [.ofNat (d / 3 + 1), .ofNat (7 + d / 3 + 1), .ofNat 0, .ofNat fl, .ofNat 260, .ofNat (t0 + d + 1)] := X_of (by omega) (by omega) (by omega) (ip_end (T := T) (d := d + 1) (by omega)) (by omega)
  refine ⟨_, hf, ?_⟩
  rw [e0, e1]
  exact run_step false (r1_258_1z (sLow false) (sMid false) (sTop false) aluR aluF aluOk aluG (d / 3 + 1) (7 + d / 3 + 1) 0 fl (t0 + d) 0 j) (cS_ok hf (cZ_ok (by omega) Zs.nil)) rfl

theorem g2_256_1 {T t0 d fl l : Nat} (hT : T ≤ 201) (ht : t0 < 1000) (hd : d < 3 * T) (hp : d % 3 = 0) (hl : l = 1)  (hf : F4 fl) : ∃ fl', F4 fl' ∧
    CallR cx 9 [blk2, env2, .int .i64 (.ofNat l)] (litH (fillH (X T t0 d fl) shape2) nx2) (.ret (.int .i64 (.ofNat 1))) (litH (fillH (X T t0 (d + 1) fl') shape2) nx2) := by
  subst hl
  have e0 : X T t0 d fl = pv [.ofNat (d / 3), .ofNat (7 + d / 3), .ofNat (T - d / 3), .ofNat fl, .ofNat 256, .ofNat (t0 + d)] := X_of (by omega) (by omega) (by omega) (ip_in hd hp) rfl
  have e1 : X T t0 (d + 1) (aluG (d / 3) fl) = pv [.ofNat ((d / 3) + 1), .ofNat (7 + d / 3), .ofNat (T - d / 3), .ofNat (aluG (d / 3) fl), .ofNat 257, .ofNat (t0 + d + 1)] := X_of (by omega) (by omega) (by omega) (ip_in (T := T) (d := d + 1) (p := 1) (by omega) (by omega)) (by omega)
  refine ⟨_, (aluG_ok (x := (d / 3)) (by omega) hf), ?_⟩
  rw [e0, e1]
  exact run_step true (r2_256_1 (sLow true) (sMid true) (sTop true) aluR aluF aluOk aluG (d / 3) (7 + d / 3) (T - d / 3) fl (t0 + d) 0 0) (cI_ok (by omega) hf (by omega) (cQ_ok hf Zs.nil)) rfl

theorem g2_256_2 {T t0 d fl l : Nat} (hT : T ≤ 201) (ht : t0 < 1000) (hd : d < 3 * T) (hp : d % 3 = 0) (hl : 2 ≤ l)  (hf : F4 fl) : ∃ fl', F4 fl' ∧
    CallR cx 9 [blk2, env2, .int .i64 (.ofNat l)] (litH (fillH (X T t0 d fl) shape2) nx2) (.ret (.int .i64 (.ofNat 2))) (litH (fillH (X T t0 (d + 2) fl') shape2) nx2) := by
  obtain ⟨j, rfl⟩ : ∃ j, l = j + 2 := ⟨l - 2, by omega⟩
  have e0 : X T t0 d fl = pv [.ofNat (d / 3), .ofNat (7 + d / 3), .ofNat (T - d / 3), .ofNat fl, .ofNat 256, .ofNat (t0 + d)] := X_of (by omega) (by omega) (by omega) (ip_in hd hp) rfl
  have e1 : X T t0 (d + 2) (aluG (7 + d / 3) (aluG (d / 3) fl)) = pv [.ofNat ((d / 3) + 1), .ofNat ((7 + d / 3) + 1), .ofNat (T - d / 3), .ofNat (aluG (7 + d / 3) (aluG (d / 3) fl)), .ofNat 258, .ofNat (t0 + d + 2)] := X_of (by omega) (by omega) (by omega) (ip_in (T := T) (d := d + 2) (p := 2) (by omega) (by omega)) (by omega)
  refine ⟨_, (aluG_ok (x := (7 + d / 3)) (by omega) (aluG_ok (x := (d / 3)) (by omega) hf)), ?_⟩
  rw [e0, e1]
  exact run_step true (r2_256_2 (sLow true) (sMid true) (sTop true) aluR aluF aluOk aluG (d / 3) (7 + d / 3) (T - d / 3) fl (t0 + d) 0 j) (cI_ok (by omega) (aluG_ok (x := (d / 3)) (by omega) hf) (by omega) (cQ_ok (aluG_ok (x := (d / 3)) (by omega) hf) (cI_ok (by omega) hf (by omega) (cQ_ok hf Zs.nil)))) rfl

theorem g2_257_1 {T t0 d fl l : Nat} (hT : T ≤ 201) (ht : t0 < 1000) (hd : d < 3 * T) (hp : d % 3 = 1) (hl : 1 ≤ l)  (hf : F4 fl) : ∃ fl', F4 fl' ∧
    CallR cx 9 [blk2, env2, .int .i64 (.ofNat l)] (litH (fillH (X T t0 d fl) shape2) nx2) (.ret (.int .i64 (.ofNat 1))) (litH (fillH (X T t0 (d + 1) fl') shape2) nx2) := by
  obtain ⟨j, rfl⟩ : ∃ j, l = j + 1 := ⟨l - 1, by omega⟩
  have e0 : X T t0 d fl = pv [.ofNat (d / 3 + 1), .ofNat (7 + d / 3), .ofNat (T - d / 3), .ofNat fl, .ofNat 257, .ofNat (t0 + d)] := X_of (by omega) (by omega) (by omega) (ip_in hd hp) rfl
  have e1 : X T t0 (d + 1) (aluG (7 + d / 3) fl) = pv [.ofNat (d / 3 + 1), .ofNat ((7 + d / 3) + 1), .ofNat (T - d / 3), .ofNat (aluG (7 + d / 3) fl), .ofNat 258, .ofNat (t0 + d + 1)] := X_of (by omega) (by omega) (by omega) (ip_in (T := T) (d := d + 1) (p := 2) (by omega) (by omega)) (by omega)
  refine ⟨_, (aluG_ok (x := (7 + d / 3)) (by omega) hf), ?_⟩
  rw [e0, e1]
  exact run_step true (r2_257_1 (sLow true) (sMid true) (sTop true) aluR aluF aluOk aluG (d / 3 + 1) (7 + d / 3) (T - d / 3) fl (t0 + d) 0 j) (cS_ok hf (cI_ok (by omega) hf (by omega) Zs.nil)) rfl

theorem g2_258_1 {T t0 d fl l : Nat} (hT : T ≤ 201) (ht : t0 < 1000) (hd : d < 3 * T) (hp : d % 3 = 2) (hl : 1 ≤ l) (hc : 2 ≤ T - d / 3) (hf : F4 fl) : ∃ fl', F4 fl' ∧
    CallR cx 9 [blk2, env2, .int .i64 (.ofNat l)] (litH (fillH (X T t0 d fl) shape2) nx2) (.ret (.int .i64 (.ofNat 1))) (litH (fillH (X T t0 (d + 1) fl') shape2) nx2) := by
  obtain ⟨j, rfl⟩ : ∃ j, l = j + 1 := ⟨l - 1, by omega⟩
  obtain ⟨k, hk⟩ : ∃ k, T - d / 3 = k + 2 := ⟨T - d / 3 - 2, by omega⟩
  have e0 : X T t0 d fl = pv [.ofNat (d / 3 + 1), .ofNat (7 + d / 3 + 1), .ofNat (k + 2), .ofNat fl, .ofNat 258, .ofNat (t0 + d)] := X_of (by omega) (by omega) (by omega) (ip_in hd hp) rfl
  have e1 : X T t0 (d + 1) fl = pv [.ofNat (d / 3 + 1), .ofNat (7 + d / 3 + 1), .ofNat (k + 1), .ofNat fl, .ofNat 256, .ofNat (t0 + d + 1)] := X_of (by omega) (by omega) (by omega) (ip_in (T := T) (d := d + 1) (p := 0) (by omega) (by omega)) (by omega)
  refine ⟨_, hf, ?_⟩
  rw [e0, e1]
  exact run_step true (r2_258_1 (sLow true) (sMid true) (sTop true) aluR aluF aluOk aluG (d / 3 + 1) (7 + d / 3 + 1) 0 fl (t0 + d) k j) (cS_ok hf (cL_ok (by omega) (by omega) Zs.nil)) rfl

theorem g2_258_1z {T t0 d fl l : Nat} (hT : T ≤ 201) (ht : t0 < 1000) (hd : d < 3 * T) (hp : d % 3 = 2) (hl : 1 ≤ l) (hc : T - d / 3 = 1) (hf : F4 fl) : ∃ fl', F4 fl' ∧
    CallR cx 9 [blk2, env2, .int .i64 (.ofNat l)] (litH (fillH (X T t0 d fl) shape2) nx2) (.ret (.int .i64 (.ofNat 1))) (litH (fillH (X T t0 (d + 1) fl') shape2) nx2) := by
  obtain ⟨j, rfl⟩ : ∃ j, l = j + 1 := ⟨l - 1, by omega⟩
  have e0 : X T t0 d fl = pv [.ofNat (d / 3 + 1), .ofNat (7 + d / 3 + 1), .ofNat 1, .ofNat fl, .ofNat 258, .ofNat (t0 + d)] := X_of (by omega) (by omega) (by omega) (ip_in hd hp) rfl
  have e1 : X T t0 (d + 1) fl = pv [.ofNat (d / 3 + 1), .ofNat (7 + d / 3 + 1), .ofNat 0, .ofNat fl, .ofNat 260, .ofNat (t0 + d + 1)] := X_of (by omega) (by omega) (by omega) (ip_end (T := T) (d := d + 1) (by omega)) (by omega)
  refine ⟨_, hf, ?_⟩
  rw [e0, e1]
  exact run_step false (r2_258_1z (sLow false) (sMid false) (sTop false) aluR aluF aluOk aluG (d / 3 + 1) (7 + d / 3 + 1) 0 fl (t0 + d) 0 j) (cS_ok hf (cZ_ok (by omega) Zs.nil)) rfl

theorem g3_256_1 {T t0 d fl l : Nat} (hT : T ≤ 201) (ht : t0 < 1000) (hd : d < 3 * T) (hp : d % 3 = 0) (hl : l = 1)  (hf : F4 fl) : ∃ fl', F4 fl' ∧
    CallR cx 9 [blk3, env3, .int .i64 (.ofNat l)] (litH (fillH (X T t0 d fl) shape3) nx3) (.ret (.int .i64 (.ofNat 1))) (litH (fillH (X T t0 (d + 1) fl') shape3) nx3) := by
  subst hl
  have e0 : X T t0 d fl = pv [.ofNat (d / 3), .ofNat (7 + d / 3), .ofNat (T - d / 3), .ofNat fl, .ofNat 256, .ofNat (t0 + d)] := X_of (by omega) (by omega) (by omega) (ip_in hd hp) rfl
  have e1 : X T t0 (d + 1) (aluG (d / 3) fl) = pv [.ofNat ((d / 3) + 1), .ofNat (7 + d / 3), .ofNat (T - d / 3), .ofNat (aluG (d / 3) fl), .ofNat 257, .ofNat (t0 + d + 1)] := X_of (by omega) (by omega) (by omega) (ip_in (T := T) (d := d + 1) (p := 1) (by omega) (by omega)) (by omega)
  refine ⟨_, (aluG_ok (x := (d / 3)) (by omega) hf), ?_⟩
  rw [e0, e1]
  exact run_step true (r3_256_1 (sLow true) (sMid true) (sTop true) aluR aluF aluOk aluG (d / 3) (7 + d / 3) (T - d / 3) fl (t0 + d) 0 0) (cI_ok (by omega) hf (by omega) (cQ_ok hf Zs.nil)) rfl

theorem g3_256_2 {T t0 d fl l : Nat} (hT : T ≤ 201) (ht : t0 < 1000) (hd : d < 3 * T) (hp : d % 3 = 0) (hl : l = 2)  (hf : F4 fl) : ∃ fl', F4 fl' ∧
    CallR cx 9 [blk3, env3, .int .i64 (.ofNat l)] (litH (fillH (X T t0 d fl) shape3) nx3) (.ret (.int .i64 (.ofNat 2))) (litH (fillH (X T t0 (d + 2) fl') shape3) nx3) := by
  subst hl
  have e0 : X T t0 d fl = pv [.ofNat (d / 3), .ofNat (7 + d / 3), .ofNat (T - d / 3), .ofNat fl, .ofNat 256, .ofNat (t0 + d)] := X_of (by omega) (by omega) (by omega) (ip_in hd hp) rfl
  have e1 : X T t0 (d + 2) (aluG (7 + d / 3) (aluG (d / 3) fl)) = pv [.ofNat ((d / 3) + 1), .ofNat ((7 + d / 3) + 1), .ofNat (T - d / 3), .ofNat (aluG (7 + d / 3) (aluG (d / 3) fl)), .ofNat 258, .ofNat (t0 + d + 2)] := X_of (by omega) (by omega) (by omega) (ip_in (T := T) (d := d + 2) (p := 2) (by omega) (by omega)) (by omega)
  refine ⟨_, (aluG_ok (x := (7 + d / 3)) (by omega) (aluG_ok (x := (d / 3)) (by omega) hf)), ?_⟩
  rw [e0, e1]
  exact run_step true (r3_256_2 (sLow true) (sMid true) (sTop true) aluR aluF aluOk aluG (d / 3) (7 + d / 3) (T - d / 3) fl (t0 + d) 0 0) (cI_ok (by omega) (aluG_ok (x := (d / 3)) (by omega) hf) (by omega) (cQ_ok (aluG_ok (x := (d / 3)) (by omega) hf) (cI_ok (by omega) hf (by omega) (cQ_ok hf Zs.nil)))) rfl

theorem g3_256_3 {T t0 d fl l : Nat} (hT : T ≤ 201) (ht : t0 < 1000) (hd : d < 3 * T) (hp : d % 3 = 0) (hl : 3 ≤ l) (hc : 2 ≤ T - d / 3) (hf : F4 fl) : ∃ fl', F4 fl' ∧
    CallR cx 9 [blk3, env3, .int .i64 (.ofNat l)] (litH (fillH (X T t0 d fl) shape3) nx3) (.ret (.int .i64 (.ofNat 3))) (litH (fillH (X T t0 (d + 3) fl') shape3) nx3) := by
  obtain ⟨j, rfl⟩ : ∃ j, l = j + 3 := ⟨l - 3, by omega⟩
  obtain ⟨k, hk⟩ : ∃ k, T - d / 3 = k + 2 := ⟨T - d / 3 - 2, by omega⟩
  have e0 : X T t0 d fl = pv [.ofNat (d / 3), .ofNat (7 + d / 3), .ofNat (k + 2), .ofNat fl, .ofNat 256, .ofNat (t0 + d)] := X_of (by omega) (by omega) (by omega) (ip_in hd hp) rfl
  have e1 : X T t0 (d + 3) (aluG (7 + d / 3) (aluG (d / 3) fl)) = pv [.ofNat ((d / 3) + 1), .ofNat ((7 + d / 3) + 1), .ofNat (k + 1), .ofNat (aluG (7 + d / 3) (aluG (d / 3) fl)), .ofNat 256, .ofNat (t0 + d + 3)] := X_of (by omega) (by omega) (by omega) (ip_in (T := T) (d := d + 3) (p := 0) (by omega) (by omega)) (by omega)
  refine ⟨_, (aluG_ok (x := (7 + d / 3)) (by omega) (aluG_ok (x := (d / 3)) (by omega) hf)), ?_⟩
  rw [e0, e1]
  exact run_step true (r3_256_3 (sLow true) (sMid true) (sTop true) aluR aluF aluOk aluG (d / 3) (7 + d / 3) 0 fl (t0 + d) k j) (cL_ok (by omega) (by omega) (cQ_ok (aluG_ok (x := (7 + d / 3)) (by omega) (aluG_ok (x := (d / 3)) (by omega) hf)) (cI_ok (by omega) (aluG_ok (x := (d / 3)) (by omega) hf) (by omega) (cQ_ok (aluG_ok (x := (d / 3)) (by omega) hf) (cI_ok (by omega) hf (by omega) (cQ_ok hf Zs.nil)))))) rfl

theorem g3_256_3z {T t0 d fl l : Nat} (hT : T ≤ 201) (ht : t0 < 1000) (hd : d < 3 * T) (hp : d % 3 = 0) (hl : 3 ≤ l) (hc : T - d / 3 = 1) (hf : F4 fl) : ∃ fl', F4 fl' ∧
    CallR cx 9 [blk3, env3, .int .i64 (.ofNat l)] (litH (fillH (X T t0 d fl) shape3) nx3) (.ret (.int .i64 (.ofNat 3))) (litH (fillH (X T t0 (d + 3) fl') shape3) nx3) := by
  obtain ⟨j, rfl⟩ : ∃ j, l = j + 3 := ⟨l - 3, by omega⟩
  have e0 : X T t0 d fl = pv [.ofNat (d / 3), .ofNat (7 + d / 3), .ofNat 1, .ofNat fl, .ofNat 256, .ofNat (t0 + d)] := X_of (by omega) (by omega) (by omega) (ip_in hd hp) rfl
  have e1 : X T t0 (d + 3) (aluG (7 + d / 3) (aluG (d / 3) fl)) = pv [.ofNat ((d / 3) + 1), .ofNat ((7 + d / 3) + 1), .ofNat 0, .ofNat (aluG (7 + d / 3) (aluG (d / 3) fl)), .ofNat 260, .ofNat (t0 + d + 3)] := X_of (by omega) (by omega) (by omega) (ip_end (T := T) (d := d + 3) (by omega)) (by omega)
  refine ⟨_, (aluG_ok (x := (7 + d / 3)) (by omega) (aluG_ok (x := (d / 3)) (by omega) hf)), ?_⟩
  rw [e0, e1]
  exact run_step false (r3_256_3z (sLow false) (sMid false) (sTop false) aluR aluF aluOk aluG (d / 3) (7 + d / 3) 0 fl (t0 + d) 0 j) (cZ_ok (by omega) (cQ_ok (aluG_ok (x := (7 + d / 3)) (by omega) (aluG_ok (x := (d / 3)) (by omega) hf)) (cI_ok (by omega) (aluG_ok (x := (d / 3)) (by omega) hf) (by omega) (cQ_ok (aluG_ok (x := (d / 3)) (by omega) hf) (cI_ok (by omega) hf (by omega) (cQ_ok hf Zs.nil)))))) rfl

theorem g3_257_1 {T t0 d fl l : Nat} (hT : T ≤ 201) (ht : t0 < 1000) (hd : d < 3 * T) (hp : d % 3 = 1) (hl : 1 ≤ l)  (hf : F4 fl) : ∃ fl', F4 fl' ∧
    CallR cx 9 [blk3, env3, .int .i64 (.ofNat l)] (litH (fillH (X T t0 d fl) shape3) nx3) (.ret (.int .i64 (.ofNat 1))) (litH (fillH (X T t0 (d + 1) fl') shape3) nx3) := by
  obtain ⟨j, rfl⟩ : ∃ j, l = j + 1 := ⟨l - 1, by omega⟩
  have e0 : X T t0 d fl = pv [.ofNat (d / 3 + 1), .ofNat (7 + d / 3), .ofNat (T - d / 3), .ofNat fl, .ofNat 257, .ofNat (t0 + d)] := X_of (by omega) (by omega) (by omega) (ip_in hd hp) rfl
  have e1 : X T t0 (d + 1) (aluG (7 + d / 3) fl) = pv [.ofNat (d / 3 + 1), .ofNat ((7 + d / 3) + 1), .ofNat (T - d / 3), .ofNat (aluG (7 + d / 3) fl), .ofNat 258, .ofNat (t0 + d + 1)] := X_of (by omega) (by omega) (by omega) (ip_in (T := T) (d := d + 1) (p := 2) (by omega) (by omega)) (by omega)
  refine ⟨_, (aluG_ok (x := (7 + d / 3)) (by omega) hf), ?_⟩
  rw [e0, e1]
  exact run_step true (r3_257_1 (sLow true) (sMid true) (sTop true) aluR aluF aluOk aluG (d / 3 + 1) (7 + d / 3) (T - d / 3) fl (t0 + d) 0 j) (cS_ok hf (cI_ok (by omega) hf (by omega) Zs.nil)) rfl

theorem g3_258_1 {T t0 d fl l : Nat} (hT : T ≤ 201) (ht : t0 < 1000) (hd : d < 3 * T) (hp : d % 3 = 2) (hl : 1 ≤ l) (hc : 2 ≤ T - d / 3) (hf : F4 fl) : ∃ fl', F4 fl' ∧
    CallR cx 9 [blk3, env3, .int .i64 (.ofNat l)] (litH (fillH (X T t0 d fl) shape3) nx3) (.ret (.int .i64 (.ofNat 1))) (litH (fillH (X T t0 (d + 1) fl') shape3) nx3) := by
  obtain ⟨j, rfl⟩ : ∃ j, l = j + 1 := ⟨l - 1, by omega⟩
  obtain ⟨k, hk⟩ : ∃ k, T - d / 3 = k + 2 := ⟨T - d / 3 - 2, by omega⟩
  have e0 : X T t0 d fl = pv [.ofNat (d / 3 + 1), .ofNat (7 + d / 3 + 1), .ofNat (k + 2), .ofNat fl, .ofNat 258, .ofNat (t0 + d)] := X_of (by omega) (by omega) (by omega) (ip_in hd hp) rfl
  have e1 : X T t0 (d + 1) fl = pv [.ofNat (d / 3 + 1), .ofNat (7 + d / 3 + 1), .ofNat (k + 1), .ofNat fl, .ofNat 256, .ofNat (t0 + d + 1)] := X_of (by omega) (by omega) (by omega) (ip_in (T := T) (d := d + 1) (p := 0) (by omega) (by omega)) (by omega)
  refine ⟨_, hf, ?_⟩
  rw [e0, e1]
  exact run_step true (r3_258_1 (sLow true) (sMid true) (sTop true) aluR aluF aluOk aluG (d / 3 + 1) (7 + d / 3 + 1) 0 fl (t0 + d) k j) (cS_ok hf (cL_ok (by omega) (by omega) Zs.nil)) rfl

theorem g3_258_1z {T t0 d fl l : Nat} (hT : T ≤ 201) (ht : t0 < 1000) (hd : d < 3 * T) (hp : d % 3 = 2) (hl : 1 ≤ l) (hc : T - d / 3 = 1) (hf : F4 fl) : ∃ fl', F4 fl' ∧
    CallR cx 9 [blk3, env3, .int .i64 (.ofNat l)] (litH (fillH (X T t0 d fl) shape3) nx3) (.ret (.int .i64 (.ofNat 1))) (litH (fillH (X T t0 (d + 1) fl') shape3) nx3) := by
  obtain ⟨j, rfl⟩ : ∃ j, l = j + 1 := ⟨l - 1, by omega⟩
  have e0 : X T t0 d fl = pv [.ofNat (d / 3 + 1), .ofNat (7 + d / 3 + 1), .ofNat 1, .ofNat fl, .ofNat 258, .ofNat (t0 + d)] := X_of (by omega) (by omega) (by omega) (ip_in hd hp) rfl
  have e1 : X T t0 (d + 1) fl = pv [.ofNat (d / 3 + 1), .ofNat (7 + d / 3 + 1), .ofNat 0, .ofNat fl, .ofNat 260, .ofNat (t0 + d + 1)] := X_of (by omega) (by omega) (by omega) (ip_end (T := T) (d := d + 1) (by omega)) (by omega)
  refine ⟨_, hf, ?_⟩
  rw [e0, e1]
  exact run_step false (r3_258_1z (sLow false) (sMid false) (sTop false) aluR aluF aluOk aluG (d / 3 + 1) (7 + d / 3 + 1) 0 fl (t0 + d) 0 j) (cS_ok hf (cZ_ok (by omega) Zs.nil)) rfl

theorem g4_256_1 {T t0 d fl l : Nat} (hT : T ≤ 201) (ht : t0 < 1000) (hd : d < 3 * T) (hp : d % 3 = 0) (hl : l = 1)  (hf : F4 fl) : ∃ fl', F4 fl' ∧
    CallR cx 9 [blk4, env4, .int .i64 (.ofNat l)] (litH (fillH (X T t0 d fl) shape4) nx4) (.ret (.int .i64 (.ofNat 1))) (litH (fillH (X T t0 (d + 1) fl') shape4) nx4) := by
  subst hl
  have e0 : X T t0 d fl = pv [.ofNat (d / 3), .ofNat (7 + d / 3), .ofNat (T - d / 3), .ofNat fl, .ofNat 256, .ofNat (t0 + d)] := X_of (by omega) (by omega) (by omega) (ip_in hd hp) rfl
  have e1 : X T t0 (d + 1) (aluG (d / 3) fl) = pv [.ofNat ((d / 3) + 1), .ofNat (7 + d / 3), .ofNat (T - d / 3), .ofNat (aluG (d / 3) fl), .ofNat 257, .ofNat (t0 + d + 1)] := X_of (by omega) (by omega) (by omega) (ip_in (T := T) (d := d + 1) (p := 1) (by omega) (by omega)) (by omega)
  refine ⟨_, (aluG_ok (x := (d / 3)) (by omega) hf), ?_⟩
  rw [e0, e1]
  exact run_step true (r4_256_1 (sLow true) (sMid true) (sTop true) aluR aluF aluOk aluG (d / 3) (7 + d / 3) (T - d / 3) fl (t0 + d) 0 0) (cI_ok (by omega) hf (by omega) (cQ_ok hf Zs.nil)) rfl

theorem g4_256_2 {T t0 d fl l : Nat} (hT : T ≤ 201) (ht : t0 < 1000) (hd : d < 3 * T) (hp : d % 3 = 0) (hl : l = 2)  (hf : F4 fl) : ∃ fl', F4 fl' ∧
    CallR cx 9 [blk4, env4, .int .i64 (.ofNat l)] (litH (fillH (X T t0 d fl) shape4) nx4) (.ret (.int .i64 (.ofNat 2))) (litH (fillH (X T t0 (d + 2) fl') shape4) nx4) := by
  subst hl
  have e0 : X T t0 d fl = pv [.ofNat (d / 3), .ofNat (7 + d / 3), .ofNat (T - d / 3), .ofNat fl, .ofNat 256, .ofNat (t0 + d)] := X_of (by omega) (by omega) (by omega) (ip_in hd hp) rfl
  have e1 : X T t0 (d + 2) (aluG (7 + d / 3) (aluG (d / 3) fl)) = pv [.ofNat ((d / 3) + 1), .ofNat ((7 + d / 3) + 1), .ofNat (T - d / 3), .ofNat (aluG (7 + d / 3) (aluG (d / 3) fl)), .ofNat 258, .ofNat (t0 + d + 2)] := X_of (by omega) (by omega) (by omega) (ip_in (T := T) (d := d + 2) (p := 2) (by omega) (by omega)) (by omega)
  refine ⟨_, (aluG_ok (x := (7 + d / 3)) (by omega) (aluG_ok (x := (d / 3)) (by omega) hf)), ?_⟩
  rw [e0, e1]
  exact run_step true (r4_256_2 (sLow true) (sMid true) (sTop true) aluR aluF aluOk aluG (d / 3) (7 + d / 3) (T - d / 3) fl (t0 + d) 0 0) (cI_ok (by omega) (aluG_ok (x := (d / 3)) (by omega) hf) (by omega) (cQ_ok (aluG_ok (x := (d / 3)) (by omega) hf) (cI_ok (by omega) hf (by omega) (cQ_ok hf Zs.nil)))) rfl

theorem g4_256_3 {T t0 d fl l : Nat} (hT : T ≤ 201) (ht : t0 < 1000) (hd : d < 3 * T) (hp : d % 3 = 0) (hl : l = 3) (hc : 2 ≤ T - d / 3) (hf : F4 fl) : ∃ fl', F4 fl' ∧
    CallR cx 9 [blk4, env4, .int .i64 (.ofNat l)] (litH (fillH (X T t0 d fl) shape4) nx4) (.ret (.int .i64 (.ofNat 3))) (litH (fillH (X T t0 (d + 3) fl') shape4) nx4) := by
  subst hl
  obtain ⟨k, hk⟩ : ∃ k, T - d / 3 = k + 2 := ⟨T - d / 3 - 2, by omega⟩
  have e0 : X T t0 d fl = pv [.ofNat (d / 3), .ofNat (7 + d / 3), .ofNat (k + 2), .ofNat fl, .ofNat 256, .ofNat (t0 + d)] := X_of (by omega) (by omega) (by omega) (ip_in hd hp) rfl
  have e1 : X T t0 (d + 3) (aluG (7 + d / 3) (aluG (d / 3) fl)) = pv [.ofNat ((d / 3) + 1), .ofNat ((7 + d / 3) + 1), .ofNat (k + 1), .ofNat (aluG (7 + d / 3) (aluG (d / 3) fl)), .ofNat 256, .ofNat (t0 + d + 3)] := X_of (by omega) (by omega) (by omega) (ip_in (T := T) (d := d + 3) (p := 0) (by omega) (by omega)) (by omega)
  refine ⟨_, (aluG_ok (x := (7 + d / 3)) (by omega) (aluG_ok (x := (d / 3)) (by omega) hf)), ?_⟩
  rw [e0, e1]
  exact run_step true (r4_256_3 (sLow true) (sMid true) (sTop true) aluR aluF aluOk aluG (d / 3) (7 + d / 3) 0 fl (t0 + d) k 0) (cL_ok (by omega) (by omega) (cQ_ok (aluG_ok (x := (7 + d / 3)) (by omega) (aluG_ok (x := (d / 3)) (by omega) hf)) (cI_ok (by omega) (aluG_ok (x := (d / 3)) (by omega) hf) (by omega) (cQ_ok (aluG_ok (x := (d / 3)) (by omega) hf) (cI_ok (by omega) hf (by omega) (cQ_ok hf Zs.nil)))))) rfl

theorem g4_256_3z {T t0 d fl l : Nat} (hT : T ≤ 201) (ht : t0 < 1000) (hd : d < 3 * T) (hp : d % 3 = 0) (hl : l = 3) (hc : T - d / 3 = 1) (hf : F4 fl) : ∃ fl', F4 fl' ∧
    CallR cx 9 [blk4, env4, .int .i64 (.ofNat l)] (litH (fillH (X T t0 d fl) shape4) nx4) (.ret (.int .i64 (.ofNat 3))) (litH (fillH (X T t0 (d + 3) fl') shape4) nx4) := by
  subst hl
  have e0 : X T t0 d fl = pv [.ofNat (d / 3), .ofNat (7 + d / 3), .ofNat 1, .ofNat fl, .ofNat 256, .ofNat (t0 + d)] := X_of (by omega) (by omega) (by omega) (ip_in hd hp) rfl
  have e1 : X T t0 (d + 3) (aluG (7 + d / 3) (aluG (d / 3) fl)) = pv [.ofNat ((d / 3) + 1), .ofNat ((7 + d / 3) + 1), .ofNat 0, .ofNat (aluG (7 + d / 3) (aluG (d / 3) fl)), .ofNat 260, .ofNat (t0 + d + 3)] := X_of (by omega) (by omega) (by omega) (ip_end (T := T) (d := d + 3) (by omega)) (by omega)
  refine ⟨_, (aluG_ok (x := (7 + d / 3)) (by omega) (aluG_ok (x := (d / 3)) (by omega) hf)), ?_⟩
  rw [e0, e1]
  exact run_step false (r4_256_3z (sLow false) (sMid false) (sTop false) aluR aluF aluOk aluG (d / 3) (7 + d / 3) 0 fl (t0 + d) 0 0) (cZ_ok (by omega) (cQ_ok (aluG_ok (x := (7 + d / 3)) (by omega) (aluG_ok (x := (d / 3)) (by omega) hf)) (cI_ok (by omega) (aluG_ok (x := (d / 3)) (by omega) hf) (by omega) (cQ_ok (aluG_ok (x := (d / 3)) (by omega) hf) (cI_ok (by omega) hf (by omega) (cQ_ok hf Zs.nil)))))) rfl

theorem g4_256_4 {T t0 d fl l : Nat} (hT : T ≤ 201) (ht : t0 < 1000) (hd : d < 3 * T) (hp : d % 3 = 0) (hl : 4 ≤ l) (hc : 2 ≤ T - d / 3) (hf : F4 fl) : ∃ fl', F4 fl' ∧
    CallR cx 9 [blk4, env4, .int .i64 (.ofNat l)] (litH (fillH (X T t0 d fl) shape4) nx4) (.ret (.int .i64 (.ofNat 4))) (litH (fillH (X T t0 (d + 4) fl') shape4) nx4) := by
  obtain ⟨j, rfl⟩ : ∃ j, l = j + 4 := ⟨l - 4, by omega⟩
  obtain ⟨k, hk⟩ : ∃ k, T - d / 3 = k + 2 := ⟨T - d / 3 - 2, by omega⟩
  have e0 : X T t0 d fl = pv [.ofNat (d / 3), .ofNat (7 + d / 3), .ofNat (k + 2), .ofNat fl, .ofNat 256, .ofNat (t0 + d)] := X_of (by omega) (by omega) (by omega) (ip_in hd hp) rfl
  have e1 : X T t0 (d + 4) (aluG ((d / 3) + 1) (aluG (7 + d / 3) (aluG (d / 3) fl))) = pv [.ofNat (((d / 3) + 1) + 1), .ofNat ((7 + d / 3) + 1), .ofNat (k + 1), .ofNat (aluG ((d / 3) + 1) (aluG (7 + d / 3) (aluG (d / 3) fl))), .ofNat 257, .ofNat (t0 + d + 4)] := X_of (by omega) (by omega) (by omega) (ip_in (T := T) (d := d + 4) (p := 1) (by omega) (by omega)) (by omega)
  refine ⟨_, (aluG_ok (x := ((d / 3) + 1)) (by omega) (aluG_ok (x := (7 + d / 3)) (by omega) (aluG_ok (x := (d / 3)) (by omega) hf))), ?_⟩
  rw [e0, e1]
  exact run_step true (r4_256_4 (sLow true) (sMid true) (sTop true) aluR aluF aluOk aluG (d / 3) (7 + d / 3) 0 fl (t0 + d) k j) (cS_ok (aluG_ok (x := (7 + d / 3)) (by omega) (aluG_ok (x := (d / 3)) (by omega) hf)) (cI_ok (by omega) (aluG_ok (x := (7 + d / 3)) (by omega) (aluG_ok (x := (d / 3)) (by omega) hf)) (by omega) (cL_ok (by omega) (by omega) (cQ_ok (aluG_ok (x := (7 + d / 3)) (by omega) (aluG_ok (x := (d / 3)) (by omega) hf)) (cI_ok (by omega) (aluG_ok (x := (d / 3)) (by omega) hf) (by omega) (cQ_ok (aluG_ok (x := (d / 3)) (by omega) hf) (cI_ok (by omega) hf (by omega) (cQ_ok hf Zs.nil)))))))) rfl

theorem g4_257_1 {T t0 d fl l : Nat} (hT : T ≤ 201) (ht : t0 < 1000) (hd : d < 3 * T) (hp : d % 3 = 1) (hl : 1 ≤ l)  (hf : F4 fl) : ∃ fl', F4 fl' ∧
    CallR cx 9 [blk4, env4, .int .i64 (.ofNat l)] (litH (fillH (X T t0 d fl) shape4) nx4) (.ret (.int .i64 (.ofNat 1))) (litH (fillH (X T t0 (d + 1) fl') shape4) nx4) := by
  obtain ⟨j, rfl⟩ : ∃ j, l = j + 1 := ⟨l - 1, by omega⟩
  have e0 : X T t0 d fl = pv [.ofNat (d / 3 + 1), .ofNat (7 + d / 3), .ofNat (T - d / 3), .ofNat fl, .ofNat 257, .ofNat (t0 + d)] := X_of (by omega) (by omega) (by omega) (ip_in hd hp) rfl
  have e1 : X T t0 (d + 1) (aluG (7 + d / 3) fl) = pv [.ofNat (d / 3 + 1), .ofNat ((7 + d / 3) + 1), .ofNat (T - d / 3), .ofNat (aluG (7 + d / 3) fl), .ofNat 258, .ofNat (t0 + d + 1)] := X_of (by omega) (by omega) (by omega) (ip_in (T := T) (d := d + 1) (p := 2) (by omega) (by omega)) (by omega)
  refine ⟨_, (aluG_ok (x := (7 + d / 3)) (by omega) hf), ?_⟩
  rw [e0, e1]
  exact run_step true (r4_257_1 (sLow true) (sMid true) (sTop true) aluR aluF aluOk aluG (d / 3 + 1) (7 + d / 3) (T - d / 3) fl (t0 + d) 0 j) (cS_ok hf (cI_ok (by omega) hf (by omega) Zs.nil)) rfl

theorem g4_258_1 {T t0 d fl l : Nat} (hT : T ≤ 201) (ht : t0 < 1000) (hd : d < 3 * T) (hp : d % 3 = 2) (hl : 1 ≤ l) (hc : 2 ≤ T - d / 3) (hf : F4 fl) : ∃ fl', F4 fl' ∧
    CallR cx 9 [blk4, env4, .int .i64 (.ofNat l)] (litH (fillH (X T t0 d fl) shape4) nx4) (.ret (.int .i64 (.ofNat 1))) (litH (fillH (X T t0 (d + 1) fl') shape4) nx4) := by
  obtain ⟨j, rfl⟩ : ∃ j, l = j + 1 := ⟨l - 1, by omega⟩
  obtain ⟨k, hk⟩ : ∃ k, T - d / 3 = k + 2 := ⟨T - d / 3 - 2, by omega⟩
  have e0 : X T t0 d fl = pv [.ofNat (d / 3 + 1), .ofNat (7 + d / 3 + 1), .ofNat (k + 2), .ofNat fl, .ofNat 258, .ofNat (t0 + d)] := X_of (by omega) (by omega) (by omega) (ip_in hd hp) rfl
  have e1 : X T t0 (d + 1) fl = pv [.ofNat (d / 3 + 1), .ofNat (7 + d / 3 + 1), .ofNat (k + 1), .ofNat fl, .ofNat 256, .ofNat (t0 + d + 1)] := X_of (by omega) (by omega) (by omega) (ip_in (T := T) (d := d + 1) (p := 0) (by omega) (by omega)) (by omega)
  refine ⟨_, hf, ?_⟩
  rw [e0, e1]
  exact run_step true (r4_258_1 (sLow true) (sMid true) (sTop true) aluR aluF aluOk aluG (d / 3 + 1) (7 + d / 3 + 1) 0 fl (t0 + d) k j) (cS_ok hf (cL_ok (by omega) (by omega) Zs.nil)) rfl

theorem g4_258_1z {T t0 d fl l : Nat} (hT : T ≤ 201) (ht : t0 < 1000) (hd : d < 3 * T) (hp : d % 3 = 2) (hl : 1 ≤ l) (hc : T - d / 3 = 1) (hf : F4 fl) : ∃ fl', F4 fl' ∧
    CallR cx 9 [blk4, env4, .int .i64 (.ofNat l)] (litH (fillH (X T t0 d fl) shape4) nx4) (.ret (.int .i64 (.ofNat 1))) (litH (fillH (X T t0 (d + 1) fl') shape4) nx4) := by
  obtain ⟨j, rfl⟩ : ∃ j, l = j + 1 := ⟨l - 1, by omega⟩
  have e0 : X T t0 d fl = pv [.ofNat (d / 3 + 1), .ofNat (7 + d / 3 + 1), .ofNat 1, .ofNat fl, .ofNat 258, .ofNat (t0 + d)] := X_of (by omega) (by omega) (by omega) (ip_in hd hp) rfl
  have e1 : X T t0 (d + 1) fl = pv [.ofNat (d / 3 + 1), .ofNat (7 + d / 3 + 1), .ofNat 0, .ofNat fl, .ofNat 260, .ofNat (t0 + d + 1)] := X_of (by omega) (by omega) (by omega) (ip_end (T := T) (d := d + 1) (by omega)) (by omega)
  refine ⟨_, hf, ?_⟩
  rw [e0, e1]
  exact run_step false (r4_258_1z (sLow false) (sMid false) (sTop false) aluR aluF aluOk aluG (d / 3 + 1) (7 + d / 3 + 1) 0 fl (t0 + d) 0 j) (cS_ok hf (cZ_ok (by omega) Zs.nil)) rfl

/-- What is known of a block's run. -/
def RunFact (S : List (Nat × Sh)) (K : Nat) (blk env : Value) : Prop := ∀ T t0 d fl l : Nat, T ≤ 201 → t0 < 1000 → d < 3 * T → F4 fl → 1 ≤ l → l ≤ 3 * T - d → ∃ n fl', 1 ≤ n ∧ n ≤ l ∧ F4 fl' ∧
  CallR cx 9 [blk, env, .int .i64 (.ofNat l)] (litH (fillH (X T t0 d fl) S) K) (.ret (.int .i64 (.ofNat n))) (litH (fillH (X T t0 (d + n) fl') S) K)
theorem fact_of {T t0 d fl l n : Nat} {S : List (Nat × Sh)} {K : Nat} {blk env : Value} (hn : 1 ≤ n) (hl : n ≤ l) (h : ∃ fl', F4 fl' ∧ CallR cx 9 [blk, env, .int .i64 (.ofNat l)] (litH (fillH (X T t0 d fl) S) K) (.ret (.int .i64 (.ofNat n))) (litH (fillH (X T t0 (d + n) fl') S) K)) :
    ∃ n fl', 1 ≤ n ∧ n ≤ l ∧ F4 fl' ∧ CallR cx 9 [blk, env, .int .i64 (.ofNat l)] (litH (fillH (X T t0 d fl) S) K) (.ret (.int .i64 (.ofNat n))) (litH (fillH (X T t0 (d + n) fl') S) K) := by
  obtain ⟨fl', h1, h2⟩ := h
  exact ⟨n, fl', hn, hl, h1, h2⟩

theorem fact1 : RunFact shape1 nx1 blk1 env1 := by
  intro T t0 d fl l hT ht hd hf h1 h2
  have h3 : d % 3 = 0 ∨ d % 3 = 1 ∨ d % 3 = 2 := by omega
  rcases h3 with hp | hp | hp
  · exact fact_of (by omega) (by omega) (g1_256_1 hT ht hd hp (by omega) hf)
  · exact fact_of (by omega) (by omega) (g1_257_1 hT ht hd hp (by omega) hf)
  · by_cases hc : T - d / 3 = 1
    · exact fact_of (by omega) (by omega) (g1_258_1z hT ht hd hp (by omega) (by omega) hf)
    · exact fact_of (by omega) (by omega) (g1_258_1 hT ht hd hp (by omega) (by omega) hf)

theorem fact2 : RunFact shape2 nx2 blk2 env2 := by
  intro T t0 d fl l hT ht hd hf h1 h2
  have h3 : d % 3 = 0 ∨ d % 3 = 1 ∨ d % 3 = 2 := by omega
  rcases h3 with hp | hp | hp
  · by_cases hl : l = 1
    · exact fact_of (by omega) (by omega) (g2_256_1 hT ht hd hp (by omega) hf)
    · exact fact_of (by omega) (by omega) (g2_256_2 hT ht hd hp (by omega) hf)
  · exact fact_of (by omega) (by omega) (g2_257_1 hT ht hd hp (by omega) hf)
  · by_cases hc : T - d / 3 = 1
    · exact fact_of (by omega) (by omega) (g2_258_1z hT ht hd hp (by omega) (by omega) hf)
    · exact fact_of (by omega) (by omega) (g2_258_1 hT ht hd hp (by omega) (by omega) hf)

theorem fact3 : RunFact shape3 nx3 blk3 env3 := by
  intro T t0 d fl l hT ht hd hf h1 h2
  have h3 : d % 3 = 0 ∨ d % 3 = 1 ∨ d % 3 = 2 := by omega
  rcases h3 with hp | hp | hp
  · by_cases hl : l = 1
    · exact fact_of (by omega) (by omega) (g3_256_1 hT ht hd hp (by omega) hf)
    · by_cases hl2 : l = 2
      · exact fact_of (by omega) (by omega) (g3_256_2 hT ht hd hp (by omega) hf)
      · by_cases hc : T - d / 3 = 1
        · exact fact_of (by omega) (by omega) (g3_256_3z hT ht hd hp (by omega) (by omega) hf)
        · exact fact_of (by omega) (by omega) (g3_256_3 hT ht hd hp (by omega) (by omega) hf)
  · exact fact_of (by omega) (by omega) (g3_257_1 hT ht hd hp (by omega) hf)
  · by_cases hc : T - d / 3 = 1
    · exact fact_of (by omega) (by omega) (g3_258_1z hT ht hd hp (by omega) (by omega) hf)
    · exact fact_of (by omega) (by omega) (g3_258_1 hT ht hd hp (by omega) (by omega) hf)

theorem fact4 : RunFact shape4 nx4 blk4 env4 := by
  intro T t0 d fl l hT ht hd hf h1 h2
  have h3 : d % 3 = 0 ∨ d % 3 = 1 ∨ d % 3 = 2 := by omega
  rcases h3 with hp | hp | hp
  · by_cases hl : l = 1
    · exact fact_of (by omega) (by omega) (g4_256_1 hT ht hd hp (by omega) hf)
    · by_cases hl2 : l = 2
      · exact fact_of (by omega) (by omega) (g4_256_2 hT ht hd hp (by omega) hf)
      · by_cases hc : T - d / 3 = 1
        · exact fact_of (by omega) (by omega) (g4_256_3z hT ht hd hp (by omega) (by omega) hf)
        · by_cases hl3 : l = 3
          · exact fact_of (by omega) (by omega) (g4_256_3 hT ht hd hp (by omega) (by omega) hf)
          · exact fact_of (by omega) (by omega) (g4_256_4 hT ht hd hp (by omega) (by omega) hf)
  · exact fact_of (by omega) (by omega) (g4_257_1 hT ht hd hp (by omega) hf)
  · by_cases hc : T - d / 3 = 1
    · exact fact_of (by omega) (by omega) (g4_258_1z hT ht hd hp (by omega) (by omega) hf)
    · exact fact_of (by omega) (by omega) (g4_258_1 hT ht hd hp (by omega) (by omega) hf)

end Go.Proofs.YtpomandkgdmadaaGreat
