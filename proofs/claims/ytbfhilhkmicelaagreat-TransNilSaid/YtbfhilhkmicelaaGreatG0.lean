/-
  Quick forms of the evaluator's small steps: ways in trees, whole numbers, parts of values.
-/
import Derived.Test.YtbfhilhkmicelaaGreatEm28
namespace Go.Em

/-- A way in a tree. -/
inductive Pth where
  | o
  | l (p : Pth)
  | r (p : Pth)

noncomputable def pathF (f : Nat) : Nat → Pth :=
  Nat.rec (motive := fun _ => Nat → Pth) (fun _ => .o)
    (fun _ ih n => Bool.rec (motive := fun _ => Pth) (Bool.rec (motive := fun _ => Pth) (.r (ih (Nat.div (Nat.sub n 1) 2))) (.l (ih (Nat.div (Nat.sub n 1) 2))) (Nat.beq (Nat.mod (Nat.sub n 1) 2) 0)) .o (Nat.beq n 0)) f
noncomputable def pathOf (n : Nat) : Pth := pathF (Nat.succ n) n

theorem pathF_zero (f : Nat) : pathF (f + 1) 0 = .o := rfl
theorem pathF_succ (f n : Nat) : pathF (f + 1) (n + 1) = if n % 2 = 0 then .l (pathF f (n / 2)) else .r (pathF f (n / 2)) := by
  show Bool.rec (motive := fun _ => Pth) (.r (pathF f (n / 2))) (.l (pathF f (n / 2))) (Nat.beq (n % 2) 0) = _
  rcases Nat.mod_two_eq_zero_or_one n with e | e <;> rw [e] <;> rfl

noncomputable def getP {α : Type} : Pth → Tr α → Option α :=
  @Pth.rec (fun _ => Tr α → Option α)
    (fun t => @Tr.rec α (fun _ => Option α) none (fun v _ _ _ _ => v) t)
    (fun _ ih t => @Tr.rec α (fun _ => Option α) none (fun _ l _ _ _ => ih l) t)
    (fun _ ih t => @Tr.rec α (fun _ => Option α) none (fun _ _ r _ _ => ih r) t)

theorem getP_nil {α : Type} (p : Pth) : getP p (.nil : Tr α) = none := by cases p <;> rfl

theorem getP_path {α : Type} : ∀ (f n : Nat) (t : Tr α), n < f → getP (pathF f n) t = t.get n
  | 0, n, t, h => by omega
  | f + 1, 0, t, _ => by cases t <;> rfl
  | f + 1, n + 1, t, h => by
    have hd : n / 2 < f := by omega
    rw [pathF_succ]
    cases t with
    | nil => rw [getP_nil]; rfl
    | node v l r =>
      rw [Tr.get_succ]
      split
      · exact getP_path f (n / 2) l hd
      · exact getP_path f (n / 2) r hd

noncomputable def setP {α : Type} : Pth → Option α → Tr α → Tr α :=
  @Pth.rec (fun _ => Option α → Tr α → Tr α)
    (fun o t => @Tr.rec α (fun _ => Tr α) (.node o .nil .nil) (fun _ l r _ _ => .node o l r) t)
    (fun _ ih o t => @Tr.rec α (fun _ => Tr α) (.node none (ih o .nil) .nil) (fun v l r _ _ => .node v (ih o l) r) t)
    (fun _ ih o t => @Tr.rec α (fun _ => Tr α) (.node none .nil (ih o .nil)) (fun v l r _ _ => .node v l (ih o r)) t)

theorem setP_path {α : Type} : ∀ (f n : Nat) (o : Option α) (t : Tr α), n < f → setP (pathF f n) o t = Tr.setF f t n o
  | 0, n, o, t, h => by omega
  | f + 1, 0, o, t, _ => by cases t <;> rfl
  | f + 1, n + 1, o, t, h => by
    have hd : n / 2 < f := by omega
    rw [pathF_succ]
    cases t with
    | nil =>
      rw [Tr.setF_nil_succ]
      split
      · rw [← setP_path f (n / 2) o .nil hd]; rfl
      · rw [← setP_path f (n / 2) o .nil hd]; rfl
    | node v l r =>
      rw [Tr.setF_node_succ]
      split
      · rw [← setP_path f (n / 2) o l hd]; rfl
      · rw [← setP_path f (n / 2) o r hd]; rfl

/-! The same for values and for blocks. -/
noncomputable def gV : Pth → Tr Value → Option Value :=
  @Pth.rec (fun _ => Tr Value → Option Value)
    (fun t => @Tr.rec Value (fun _ => Option Value) none (fun v _ _ _ _ => v) t)
    (fun _ ih t => @Tr.rec Value (fun _ => Option Value) none (fun _ l _ _ _ => ih l) t)
    (fun _ ih t => @Tr.rec Value (fun _ => Option Value) none (fun _ _ r _ _ => ih r) t)
noncomputable def sV : Pth → Option Value → Tr Value → Tr Value :=
  @Pth.rec (fun _ => Option Value → Tr Value → Tr Value)
    (fun o t => @Tr.rec Value (fun _ => Tr Value) (.node o .nil .nil) (fun _ l r _ _ => .node o l r) t)
    (fun _ ih o t => @Tr.rec Value (fun _ => Tr Value) (.node none (ih o .nil) .nil) (fun v l r _ _ => .node v (ih o l) r) t)
    (fun _ ih o t => @Tr.rec Value (fun _ => Tr Value) (.node none .nil (ih o .nil)) (fun v l r _ _ => .node v l (ih o r)) t)
noncomputable def gO : Pth → Tr Obj → Option Obj :=
  @Pth.rec (fun _ => Tr Obj → Option Obj)
    (fun t => @Tr.rec Obj (fun _ => Option Obj) none (fun v _ _ _ _ => v) t)
    (fun _ ih t => @Tr.rec Obj (fun _ => Option Obj) none (fun _ l _ _ _ => ih l) t)
    (fun _ ih t => @Tr.rec Obj (fun _ => Option Obj) none (fun _ _ r _ _ => ih r) t)
noncomputable def sO : Pth → Option Obj → Tr Obj → Tr Obj :=
  @Pth.rec (fun _ => Option Obj → Tr Obj → Tr Obj)
    (fun o t => @Tr.rec Obj (fun _ => Tr Obj) (.node o .nil .nil) (fun _ l r _ _ => .node o l r) t)
    (fun _ ih o t => @Tr.rec Obj (fun _ => Tr Obj) (.node none (ih o .nil) .nil) (fun v l r _ _ => .node v (ih o l) r) t)
    (fun _ ih o t => @Tr.rec Obj (fun _ => Tr Obj) (.node none .nil (ih o .nil)) (fun v l r _ _ => .node v l (ih o r)) t)

theorem gV_eq (n : Nat) (t : Tr Value) : gV (pathOf n) t = t.get n := getP_path (n + 1) n t (Nat.lt_succ_self n)
theorem gO_eq (n : Nat) (t : Tr Obj) : gO (pathOf n) t = t.get n := getP_path (n + 1) n t (Nat.lt_succ_self n)
theorem sV_eq (n : Nat) (o : Option Value) (t : Tr Value) : sV (pathOf n) o t = t.set n o := setP_path (n + 1) n o t (Nat.lt_succ_self n)
theorem sO_eq (n : Nat) (o : Option Obj) (t : Tr Obj) : sO (pathOf n) o t = t.set n o := setP_path (n + 1) n o t (Nat.lt_succ_self n)

/-- Goes on with a number that is made plain first. -/
noncomputable def natK {R : Type} (k : Nat → R) : Nat → R := @Nat.rec (fun _ => R) (k 0) (fun n _ => k (Nat.succ n))
theorem natK_eq {R : Type} (k : Nat → R) (n : Nat) : natK k n = k n := by cases n <;> rfl

/-! Whole numbers. -/
noncomputable def wrapN : IntKind → Nat → Int := @IntKind.rec (fun _ => Nat → Int)
  (fun s => @Bool.rec (fun _ => Int) (IntKind.wrap .i8 (Int.ofNat s)) (Int.ofNat s) (Nat.ble s 127))
  (fun s => @Bool.rec (fun _ => Int) (IntKind.wrap .i16 (Int.ofNat s)) (Int.ofNat s) (Nat.ble s 32767))
  (fun s => @Bool.rec (fun _ => Int) (IntKind.wrap .i32 (Int.ofNat s)) (Int.ofNat s) (Nat.ble s 2147483647))
  (fun s => @Bool.rec (fun _ => Int) (IntKind.wrap .i64 (Int.ofNat s)) (Int.ofNat s) (Nat.ble s 9223372036854775807))
  (fun s => Int.ofNat (Nat.mod s 256))
  (fun s => Int.ofNat (Nat.mod s 65536))
  (fun s => Int.ofNat (Nat.mod s 4294967296))
  (fun s => Int.ofNat (Nat.mod s 18446744073709551616))

theorem wrapS_eq (k : IntKind) (s l : Nat) (h : Nat.ble s l = true → k.wrap (Int.ofNat s) = Int.ofNat s) :
    @Bool.rec (fun _ => Int) (k.wrap (Int.ofNat s)) (Int.ofNat s) (Nat.ble s l) = k.wrap (Int.ofNat s) := by
  cases e : Nat.ble s l with
  | false => rfl
  | true => exact (h e).symm

theorem wrapN_eq (k : IntKind) (s : Nat) : wrapN k s = k.wrap (Int.ofNat s) := by
  have u : ∀ (x : Nat), Int.ofNat x = (x : Int) := fun _ => rfl
  cases k
  · refine wrapS_eq .i8 s 127 fun h => ?_
    have h := Nat.le_of_ble_eq_true h
    rw [u]
    simp [IntKind.wrap, IntKind.bits, IntKind.signed]; omega
  · refine wrapS_eq .i16 s 32767 fun h => ?_
    have h := Nat.le_of_ble_eq_true h
    rw [u]
    simp [IntKind.wrap, IntKind.bits, IntKind.signed]; omega
  · refine wrapS_eq .i32 s 2147483647 fun h => ?_
    have h := Nat.le_of_ble_eq_true h
    rw [u]
    simp [IntKind.wrap, IntKind.bits, IntKind.signed]; omega
  · refine wrapS_eq .i64 s 9223372036854775807 fun h => ?_
    have h := Nat.le_of_ble_eq_true h
    rw [u]
    simp [IntKind.wrap, IntKind.bits, IntKind.signed]; omega
  · show Int.ofNat (s % 256) = _
    rw [u, u]
    simp [IntKind.wrap, IntKind.bits, IntKind.signed]
  · show Int.ofNat (s % 65536) = _
    rw [u, u]
    simp [IntKind.wrap, IntKind.bits, IntKind.signed]
  · show Int.ofNat (s % 4294967296) = _
    rw [u, u]
    simp [IntKind.wrap, IntKind.bits, IntKind.signed]
  · show Int.ofNat (s % 18446744073709551616) = _
    rw [u, u]
    simp [IntKind.wrap, IntKind.bits, IntKind.signed]

noncomputable def pwN : IntKind → Nat := @IntKind.rec (fun _ => Nat) 256 65536 4294967296 18446744073709551616 256 65536 4294967296 18446744073709551616
noncomputable def bitsN : IntKind → Nat := @IntKind.rec (fun _ => Nat) 8 16 32 64 8 16 32 64
theorem pwN_eq (k : IntKind) : pwN k = 2 ^ k.bits := by cases k <;> rfl
theorem bitsN_eq (k : IntKind) : bitsN k = k.bits := by cases k <;> rfl

noncomputable def minN (a b : Nat) : Nat := @Bool.rec (fun _ => Nat) b a (Nat.ble a b)
theorem minN_eq (a b : Nat) : minN a b = min a b := by
  unfold minN
  cases h : Nat.ble a b with
  | true => exact (Nat.min_eq_left (Nat.le_of_ble_eq_true h)).symm
  | false =>
    have hn : ¬ a ≤ b := fun hle => by rw [Nat.ble_eq_true_of_le hle] at h; exact Bool.noConfusion h
    have hb : b ≤ a := by omega
    exact (Nat.min_eq_right hb).symm

/-- Integers' operators, of two that are not below zero. -/
noncomputable def natBin : BinOp → IntKind → Nat → Nat → Option Value := @BinOp.rec (fun _ => IntKind → Nat → Nat → Option Value)
  (fun k a b => some (.int k (wrapN k (Nat.add a b))))
  (fun k a b => @Bool.rec (fun _ => Option Value) (intOp .sub k (Int.ofNat a) (Int.ofNat b)) (some (.int k (wrapN k (Nat.sub a b)))) (Nat.ble b a))
  (fun k a b => some (.int k (wrapN k (Nat.mul a b))))
  (fun k a b => @Bool.rec (fun _ => Option Value) (some (.int k (wrapN k (Nat.div a b)))) none (Nat.beq b 0))
  (fun k a b => @Bool.rec (fun _ => Option Value) (some (.int k (Int.ofNat (Nat.mod a b)))) none (Nat.beq b 0))
  (fun k a b => some (.int k (wrapN k (Nat.land (Nat.mod a (pwN k)) (Nat.mod b (pwN k))))))
  (fun k a b => some (.int k (wrapN k (Nat.lor (Nat.mod a (pwN k)) (Nat.mod b (pwN k))))))
  (fun k a b => some (.int k (wrapN k (Nat.xor (Nat.mod a (pwN k)) (Nat.mod b (pwN k))))))
  (fun k a b => intOp .shl k (Int.ofNat a) (Int.ofNat b))
  (fun k a b => intOp .shr k (Int.ofNat a) (Int.ofNat b))
  (fun k a b => intOp .andNot k (Int.ofNat a) (Int.ofNat b))
  (fun _ a b => some (.bool (Nat.beq a b)))
  (fun _ a b => some (.bool (not (Nat.beq a b))))
  (fun _ a b => some (.bool (Nat.ble (Nat.succ a) b)))
  (fun _ a b => some (.bool (Nat.ble a b)))
  (fun _ a b => some (.bool (Nat.ble (Nat.succ b) a)))
  (fun _ a b => some (.bool (Nat.ble b a)))

theorem bool_ext {a b : Bool} (h : a = true ↔ b = true) : a = b := by cases a <;> cases b <;> simp_all

theorem beq_nat (a b : Nat) : Nat.beq a b = (Int.ofNat a == Int.ofNat b) := by
  apply bool_ext
  rw [Nat.beq_eq, beq_iff_eq]
  exact ⟨fun h => by rw [h], fun h => by injection h⟩

theorem ble_nat (a b : Nat) (p : Prop) [Decidable p] (h : a ≤ b ↔ p) : Nat.ble a b = decide p := by
  apply bool_ext
  rw [Nat.ble_eq, decide_eq_true_iff]
  exact h

theorem ofInt_nat (k : IntKind) (a : Nat) : (BitVec.ofInt k.bits (Int.ofNat a)).toNat = a % pwN k := by
  rw [pwN_eq]
  show (BitVec.ofInt k.bits ((a : Nat) : Int)).toNat = _
  rw [BitVec.ofInt_natCast, BitVec.toNat_ofNat]

theorem natBin_eq (op : BinOp) (k : IntKind) (a b : Nat) : natBin op k a b = intOp op k (Int.ofNat a) (Int.ofNat b) := by
  cases op
  case add => show some (Value.int k (wrapN k (a + b))) = _; rw [wrapN_eq]; rfl
  case sub =>
    show @Bool.rec (fun _ => Option Value) (intOp .sub k (Int.ofNat a) (Int.ofNat b)) (some (.int k (wrapN k (a - b)))) (Nat.ble b a) = _
    cases h : Nat.ble b a with
    | false => rfl
    | true =>
      have h := Nat.le_of_ble_eq_true h
      show some (Value.int k (wrapN k (a - b))) = some (Value.int k (k.wrap (Int.ofNat a - Int.ofNat b)))
      rw [wrapN_eq]
      have : Int.ofNat (a - b) = Int.ofNat a - Int.ofNat b := by show ((a - b : Nat) : Int) = (a : Int) - (b : Int); omega
      rw [this]
  case mul => show some (Value.int k (wrapN k (a * b))) = _; rw [wrapN_eq]; rfl
  case quo =>
    show @Bool.rec (fun _ => Option Value) (some (.int k (wrapN k (a / b)))) none (Nat.beq b 0) = _
    cases b with
    | zero => rfl
    | succ b => show some (Value.int k (wrapN k (a / (b + 1)))) = _; rw [wrapN_eq]; rfl
  case rem =>
    show @Bool.rec (fun _ => Option Value) (some (.int k (Int.ofNat (a % b)))) none (Nat.beq b 0) = _
    cases b with
    | zero => rfl
    | succ b => rfl
  case and =>
    show some (Value.int k (wrapN k ((a % pwN k) &&& (b % pwN k)))) = some (Value.int k (k.wrap (BitVec.ofInt k.bits (Int.ofNat a) &&& BitVec.ofInt k.bits (Int.ofNat b)).toNat))
    rw [wrapN_eq, BitVec.toNat_and, ofInt_nat, ofInt_nat]; rfl
  case or =>
    show some (Value.int k (wrapN k ((a % pwN k) ||| (b % pwN k)))) = some (Value.int k (k.wrap (BitVec.ofInt k.bits (Int.ofNat a) ||| BitVec.ofInt k.bits (Int.ofNat b)).toNat))
    rw [wrapN_eq, BitVec.toNat_or, ofInt_nat, ofInt_nat]; rfl
  case xor =>
    show some (Value.int k (wrapN k ((a % pwN k) ^^^ (b % pwN k)))) = some (Value.int k (k.wrap (BitVec.ofInt k.bits (Int.ofNat a) ^^^ BitVec.ofInt k.bits (Int.ofNat b)).toNat))
    rw [wrapN_eq, BitVec.toNat_xor, ofInt_nat, ofInt_nat]; rfl
  case eql => show some (Value.bool (Nat.beq a b)) = _; rw [beq_nat]; rfl
  case neq => show some (Value.bool (!(Nat.beq a b))) = _; rw [beq_nat]; rfl
  case lss => show some (Value.bool (Nat.ble (a + 1) b)) = some (Value.bool (decide (Int.ofNat a < Int.ofNat b))); rw [ble_nat (a + 1) b (Int.ofNat a < Int.ofNat b) (by show _ ↔ (a : Int) < (b : Int); omega)]
  case leq => show some (Value.bool (Nat.ble a b)) = some (Value.bool (decide (Int.ofNat a ≤ Int.ofNat b))); rw [ble_nat a b (Int.ofNat a ≤ Int.ofNat b) (by show _ ↔ (a : Int) ≤ (b : Int); omega)]
  case gtr => show some (Value.bool (Nat.ble (b + 1) a)) = some (Value.bool (decide (Int.ofNat a > Int.ofNat b))); rw [ble_nat (b + 1) a (Int.ofNat a > Int.ofNat b) (by show _ ↔ (a : Int) > (b : Int); omega)]
  case geq => show some (Value.bool (Nat.ble b a)) = some (Value.bool (decide (Int.ofNat a ≥ Int.ofNat b))); rw [ble_nat b a (Int.ofNat a ≥ Int.ofNat b) (by show _ ↔ (a : Int) ≥ (b : Int); omega)]
  all_goals rfl

noncomputable def natShl (k : IntKind) (a b : Nat) : Option Value := some (.int k (wrapN k (Nat.mul a (Nat.pow 2 (minN b (bitsN k))))))
noncomputable def natShr (k : IntKind) (a b : Nat) : Option Value := some (.int k (Int.ofNat (Nat.div a (Nat.pow 2 (minN b (bitsN k))))))

theorem natShl_eq (k : IntKind) (a b : Nat) : natShl k a b = shiftOp .shl k (Int.ofNat a) (Int.ofNat b) := by
  unfold natShl
  rw [minN_eq, bitsN_eq, wrapN_eq]
  show some (Value.int k (k.wrap (Int.ofNat (a * 2 ^ min b k.bits)))) = _
  have e : Int.ofNat (a * 2 ^ min b k.bits) = Int.ofNat a * 2 ^ min b k.bits := by
    show ((a * 2 ^ min b k.bits : Nat) : Int) = (a : Int) * 2 ^ min b k.bits
    push_cast; rfl
  rw [e]; rfl
theorem natShr_eq (k : IntKind) (a b : Nat) : natShr k a b = shiftOp .shr k (Int.ofNat a) (Int.ofNat b) := by
  unfold natShr
  rw [minN_eq, bitsN_eq]
  show some (Value.int k (Int.ofNat (a / 2 ^ min b k.bits))) = some (Value.int k (Int.fdiv (Int.ofNat a) (2 ^ min b k.bits)))
  have e : ((2 : Int) ^ min b k.bits) = Int.ofNat (2 ^ min b k.bits) := by
    show (2 : Int) ^ min b k.bits = ((2 ^ min b k.bits : Nat) : Int)
    push_cast; rfl
  rw [e]
  have e2 : ∀ m n : Nat, Int.fdiv (Int.ofNat m) (Int.ofNat n) = Int.ofNat (m / n) := by
    intro m n
    cases m with
    | zero => simp [Int.fdiv]
    | succ m => rfl
  rw [e2]

noncomputable def intBin (op : BinOp) (k : IntKind) (a b : Int) : Option Value :=
  @Int.rec (fun _ => Option Value) (fun m => @Int.rec (fun _ => Option Value) (natBin op k m) (fun _ => intOp op k a b) b) (fun _ => intOp op k a b) a
theorem intBin_eq (op : BinOp) (k : IntKind) (a b : Int) : intBin op k a b = intOp op k a b := by
  cases a with
  | negSucc a => rfl
  | ofNat a => cases b with
    | negSucc b => rfl
    | ofNat b => exact natBin_eq op k a b

noncomputable def intShl (k : IntKind) (a b : Int) : Option Value :=
  @Int.rec (fun _ => Option Value) (fun m => @Int.rec (fun _ => Option Value) (natShl k m) (fun _ => shiftOp .shl k a b) b) (fun _ => shiftOp .shl k a b) a
theorem intShl_eq (k : IntKind) (a b : Int) : intShl k a b = shiftOp .shl k a b := by
  cases a with
  | negSucc a => rfl
  | ofNat a => cases b with
    | negSucc b => rfl
    | ofNat b => exact natShl_eq k a b
noncomputable def intShr (k : IntKind) (a b : Int) : Option Value :=
  @Int.rec (fun _ => Option Value) (fun m => @Int.rec (fun _ => Option Value) (natShr k m) (fun _ => shiftOp .shr k a b) b) (fun _ => shiftOp .shr k a b) a
theorem intShr_eq (k : IntKind) (a b : Int) : intShr k a b = shiftOp .shr k a b := by
  cases a with
  | negSucc a => rfl
  | ofNat a => cases b with
    | negSucc b => rfl
    | ofNat b => exact natShr_eq k a b

/-- An operator of two integers' kinds. -/
noncomputable def sameK (op : BinOp) (k k' : IntKind) (a b : Int) : Option Value := @Decidable.rec (k = k') (fun _ => Option Value) (fun _ => none) (fun _ => intBin op k a b) (decEq k k')

noncomputable def intAll : BinOp → IntKind → IntKind → Int → Int → Option Value := @BinOp.rec (fun _ => IntKind → IntKind → Int → Int → Option Value)
  (sameK .add) (sameK .sub) (sameK .mul) (sameK .quo) (sameK .rem) (sameK .and) (sameK .or) (sameK .xor) (fun k _ a b => intShl k a b) (fun k _ a b => intShr k a b) (sameK .andNot)
  (sameK .eql) (sameK .neq) (sameK .lss) (sameK .leq) (sameK .gtr) (sameK .geq)

theorem intAll_eq (cx : Cx) (h : Heap) (op : BinOp) (t : Nat) (k k' : IntKind) (a b : Int) : intAll op k k' a b = binE cx h op t (.int k a) (.int k' b) := by
  cases op
  case shl => exact intShl_eq k a b
  case shr => exact intShr_eq k a b
  all_goals
    show @Decidable.rec (k = k') (fun _ => Option Value) (fun _ => none) (fun _ => intBin _ k a b) (decEq k k') = _
    simp only [intBin_eq]
    unfold binE
    dsimp only
    cases decEq k k' <;> rfl

/-! Parts of values. -/
abbrev IntF := IntKind → Int → Option Value
noncomputable def intC : Value → IntF → Option Value → Option Value := @Value.rec (fun _ => IntF → Option Value → Option Value) (fun _ => Unit) (fun _ => Unit)
  (fun _ _ d => d) (fun k n f _ => f k n) (fun _ _ _ d => d) (fun _ _ _ _ d => d) (fun _ _ d => d) (fun _ _ d => d) (fun _ _ _ _ d => d) (fun _ _ d => d) (fun _ _ d => d)
  (fun _ _ _ _ _ _ d => d) (fun _ d => d) (fun _ _ _ _ d => d) (fun _ d => d) (fun _ _ _ d => d) (fun _ _ _ d => d) (fun _ _ => ()) () (fun _ _ _ _ => ())
noncomputable def ptrV : Value → Option Addr := @Value.rec (fun _ => Option Addr) (fun _ => Unit) (fun _ => Unit)
  (fun _ => none) (fun _ _ => none) (fun _ _ => none) (fun _ _ _ => none) (fun _ => none) (fun a => a) (fun _ _ _ => none) (fun _ => none) (fun _ => none)
  (fun _ _ _ _ _ => none) none (fun _ _ _ => none) none (fun _ _ => none) (fun _ _ => none) (fun _ _ => ()) () (fun _ _ _ _ => ())
noncomputable def isCellG : Value → Bool := @Value.rec (fun _ => Bool) (fun _ => Unit) (fun _ => Unit)
  (fun _ => true) (fun _ _ => true) (fun _ _ => true) (fun _ _ _ => true) (fun _ => true) (fun _ => true) (fun _ _ _ => true) (fun _ => true) (fun _ => true)
  (fun _ _ _ _ _ => true) true (fun _ _ _ => true) true (fun _ _ => false) (fun _ _ => false) (fun _ _ => ()) () (fun _ _ _ _ => ())
/-- 1: true, 0: false, 2: no truth value. -/
noncomputable def boolV : Value → Option Bool := @Value.rec (fun _ => Option Bool) (fun _ => Unit) (fun _ => Unit)
  (fun b => some b) (fun _ _ => none) (fun _ _ => none) (fun _ _ _ => none) (fun _ => none) (fun _ => none) (fun _ _ _ => none) (fun _ => none) (fun _ => none)
  (fun _ _ _ _ _ => none) none (fun _ _ _ => none) none (fun _ _ => none) (fun _ _ => none) (fun _ _ => ()) () (fun _ _ _ _ => ())
abbrev SlF := Option Addr → Nat → Nat → Option Value
noncomputable def sliceC : Value → SlF → Option Value → Option Value := @Value.rec (fun _ => SlF → Option Value → Option Value) (fun _ => Unit) (fun _ => Unit)
  (fun _ _ d => d) (fun _ _ _ d => d) (fun _ _ _ d => d) (fun _ _ _ _ d => d) (fun _ _ d => d) (fun _ _ d => d) (fun a n c f _ => f a n c) (fun _ _ d => d) (fun _ _ d => d)
  (fun _ _ _ _ _ _ d => d) (fun _ d => d) (fun _ _ _ _ d => d) (fun _ d => d) (fun _ _ _ d => d) (fun _ _ _ d => d) (fun _ _ => ()) () (fun _ _ _ _ => ())

theorem ptrV_eq {v : Value} {a : Addr} (h : ptrV v = some a) : v = .pointer (some a) := by
  cases v
  case pointer b =>
    have e : b = some a := h
    rw [e]
  all_goals exact absurd (show (none : Option Addr) = some a from h) (by simp)

end Go.Em
