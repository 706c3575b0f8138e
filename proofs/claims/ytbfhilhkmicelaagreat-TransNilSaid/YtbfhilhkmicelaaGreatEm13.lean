/-
  Operators with two operands.
-/
import Derived.Test.YtbfhilhkmicelaaGreatEm12
namespace Go.Em
section
variable {cx : Cx}

theorem V.to_int {m : Pm} {x : Value} {k : IntKind} {n : Int} (h : V m x (.int k n)) : x = .int k n := by cases h; rfl
theorem V.to_string {m : Pm} {x : Value} {s : ByteArray} (h : V m x (.string s)) : x = .string s := by cases h; rfl
theorem V.to_nilIface {m : Pm} {x : Value} (h : V m x .nilIface) : x = .nilIface := by cases h; rfl
theorem V.to_agg {m : Pm} {x : Value} {cs : Array Value} (h : V m x (.agg cs)) : ∃ c, x = .agg c := by
  cases h with
  | flat h => simp [Em.flat] at h
  | agg h1 h2 => exact ⟨_, rfl⟩
theorem V.no_float {m : Pm} {x : Value} {k : FloatKind} {b : Nat} (h : V m x (.float k b)) : False := by
  cases h with
  | flat h => simp [Em.flat] at h
theorem V.no_complex {m : Pm} {x : Value} {k : _} {b c : Nat} (h : V m x (.complex k b c)) : False := by
  cases h with
  | flat h => simp [Em.flat] at h

theorem run_binOp_eql {P : Program} {m : Pm} {x x' y y' : Value} (hx : V m x x') (hy : V m y y') (t : Nat) (hi : ∀ k a k' b, x = .int k a → y = .int k' b → False) (hs : ∀ a b, x = .string a → y = .string b → False) (w : World) :
    (binOp .eql t x' y').run P w = ((Op.equal t x' y').run P w).andThen (fun b w => .ok (.bool b) w) := by
  unfold binOp
  split
  all_goals first
    | (exact (hi _ _ _ _ hx.to_int hy.to_int).elim)
    | (exact hx.no_float.elim)
    | (exact hx.no_complex.elim)
    | (exact (hs _ _ hx.to_string hy.to_string).elim)
    | contradiction
    | (simp only [Sem.run_bind]; rfl)

theorem run_binOp_neq {P : Program} {m : Pm} {x x' y y' : Value} (hx : V m x x') (hy : V m y y') (t : Nat) (hi : ∀ k a k' b, x = .int k a → y = .int k' b → False) (hs : ∀ a b, x = .string a → y = .string b → False) (w : World) :
    (binOp .neq t x' y').run P w = ((Op.equal t x' y').run P w).andThen (fun b w => .ok (.bool !b) w) := by
  unfold binOp
  split
  all_goals first
    | (exact (hi _ _ _ _ hx.to_int hy.to_int).elim)
    | (exact hx.no_float.elim)
    | (exact hx.no_complex.elim)
    | (exact (hs _ _ hx.to_string hy.to_string).elim)
    | contradiction
    | (simp only [Sem.run_bind]; rfl)

theorem eqA_agg {h : Heap} {d t : Nat} {x y : Value} {c : Array Value} {b : Bool} (hx : x = .agg c) (he : eqA cx h d t x y = some b) : ∃ i, cx.ty t = some i ∧ aggD i.d = true := by
  subst hx
  cases d with
  | zero => cases he
  | succ d =>
    simp only [eqA] at he
    split at he
    · cases he
    · rename_i i hi
      refine ⟨i, hi, ?_⟩
      generalize i.d = dd at he ⊢
      cases dd <;> first | rfl | (cases y <;> cases he)

theorem eqGuard_run (O : Ok cx) {m : Pm} {h : Heap} {op : BinOp} {t d : Nat} {xo yo : Operand} {x x' y y' : Value} {b : Bool} (hx : V m x x') (hy : V m y y') (hg : guardE xo yo x = true) (he : eqA cx h d t x y = some b) (w : World) :
    (eqGuard op t xo yo x' y').run cx.P w = .ok () w := by
  have key : ∀ o : BinOp, o = .eql ∨ o = .neq → (eqGuard o t xo yo x' y').run cx.P w = .ok () w := by
    intro o ho
    unfold eqGuard
    rcases ho with rfl | rfl
    · simp only [Bool.not_true, Bool.false_eq_true, if_false]
      split
      · obtain rfl := hx.to_nilIface
        unfold guardE at hg
        simp only at hg
        cases xo <;> cases yo <;> first | rfl | cases hg
      · obtain ⟨c, hc⟩ := hx.to_agg
        obtain ⟨i, hi, ha⟩ := eqA_agg hc he
        simp [O.guard t i hi ha]
      · rfl
    · simp only [Bool.not_true, Bool.false_eq_true, if_false]
      split
      · obtain rfl := hx.to_nilIface
        unfold guardE at hg
        simp only at hg
        cases xo <;> cases yo <;> first | rfl | cases hg
      · obtain ⟨c, hc⟩ := hx.to_agg
        obtain ⟨i, hi, ha⟩ := eqA_agg hc he
        simp [O.guard t i hi ha]
      · rfl
  cases op <;> first | exact key _ (.inl rfl) | exact key _ (.inr rfl) | rfl

theorem eqGuard_other {op : BinOp} (h1 : op ≠ .eql) (h2 : op ≠ .neq) {P : Program} {t : Nat} {xo yo : Operand} {x y : Value} (w : World) : (eqGuard op t xo yo x y).run P w = .ok () w := by
  cases op <;> first | rfl | exact absurd rfl h1 | exact absurd rfl h2

theorem eqGuard_flat {op : BinOp} {P : Program} {t : Nat} {xo yo : Operand} {x y : Value} (h1 : x ≠ .nilIface) (h2 : ∀ c, x ≠ .agg c) (w : World) : (eqGuard op t xo yo x y).run P w = .ok () w := by
  have key : ∀ o : BinOp, o = .eql ∨ o = .neq → (eqGuard o t xo yo x y).run P w = .ok () w := by
    intro o ho
    unfold eqGuard
    rcases ho with rfl | rfl
    · simp only [Bool.not_true, Bool.false_eq_true, if_false]
      split
      · exact absurd rfl h1
      · exact absurd rfl (h2 _)
      · rfl
    · simp only [Bool.not_true, Bool.false_eq_true, if_false]
      split
      · exact absurd rfl h1
      · exact absurd rfl (h2 _)
      · rfl
  cases op <;> first | exact key _ (.inl rfl) | exact key _ (.inr rfl) | rfl

theorem binE_run (O : Ok cx) {m : Pm} {h : Heap} {w : World} (S : Sim m h w) {op : BinOp} {t : Nat} {xo yo : Operand} {x x' y y' v : Value} (hx : V m x x') (hy : V m y y') (hg : guardE xo yo x = true) (hb : binE cx h op t x y = some v) :
    (eqGuard op t xo yo x' y').run cx.P w = .ok () w ∧ (binOp op t x' y').run cx.P w = .ok v w ∧ flat v = true := by
  unfold binE at hb
  split at hb
  · obtain rfl := int_inv hx
    obtain rfl := int_inv hy
    exact ⟨eqGuard_flat (fun h => by cases h) (fun c h => by cases h) w, shiftOp_run hb (.inl rfl) cx.P t w⟩
  · obtain rfl := int_inv hx
    obtain rfl := int_inv hy
    exact ⟨eqGuard_flat (fun h => by cases h) (fun c h => by cases h) w, shiftOp_run hb (.inr rfl) cx.P t w⟩
  · obtain rfl := int_inv hx
    obtain rfl := int_inv hy
    split at hb
    · rename_i hk _
      subst hk
      exact ⟨eqGuard_flat (fun h => by cases h) (fun c h => by cases h) w, intOp_run hb cx.P t w⟩
    · cases hb
  · obtain rfl := string_inv hx
    obtain rfl := string_inv hy
    split at hb
    · rename_i a b _ hle
      have hle := Nat.le_of_ble_eq_true hle
      cases hb
      refine ⟨eqGuard_flat (fun h => by cases h) (fun c h => by cases h) w, ?_, rfl⟩
      have hmax : IntKind.i64.max = 9223372036854775807 := rfl
      have hno : ¬ (((a.size + b.size : Nat) : Int) > IntKind.i64.max) := by rw [hmax]; omega
      simp only [binOp, Op.stringOp, if_neg hno, Sem.run_pure]
    · cases hb
  · obtain rfl := string_inv hx
    obtain rfl := string_inv hy
    cases hb
    refine ⟨eqGuard_flat (fun h => by cases h) (fun c h => by cases h) w, ?_, rfl⟩
    simp only [binOp, Op.stringOp, Sem.run_pure, bytesEq_toList]
  · obtain rfl := string_inv hx
    obtain rfl := string_inv hy
    cases hb
    refine ⟨eqGuard_flat (fun h => by cases h) (fun c h => by cases h) w, ?_, rfl⟩
    simp only [binOp, Op.stringOp, Sem.run_pure, bytesEq_toList]
  · cases hb
  · rename_i hi hs
    split at hb
    · rename_i b he
      cases hb
      refine ⟨eqGuard_run O hx hy hg he w, ?_, rfl⟩
      have := eqA_run O S 60 t x y b he x' y' hx hy Op.maxDepth (by unfold Op.maxDepth; omega)
      rw [run_binOp_eql hx hy t (fun k a k' b h1 h2 => by subst h1; subst h2; exact hi _ _ _ _ rfl rfl) (fun a b h1 h2 => by subst h1; subst h2; exact hs _ _ rfl rfl) w]
      unfold Op.equal
      rw [this]
      rfl
    · cases hb
  · rename_i hi hs
    split at hb
    · rename_i b he
      cases hb
      refine ⟨eqGuard_run O hx hy hg he w, ?_, rfl⟩
      have := eqA_run O S 60 t x y b he x' y' hx hy Op.maxDepth (by unfold Op.maxDepth; omega)
      rw [run_binOp_neq hx hy t (fun k a k' b h1 h2 => by subst h1; subst h2; exact hi _ _ _ _ rfl rfl) (fun a b h1 h2 => by subst h1; subst h2; exact hs _ _ rfl rfl) w]
      unfold Op.equal
      rw [this]
      rfl
    · cases hb
  · cases hb

end
end Go.Em
