/-
  Quick forms of the evaluator's small steps: ways in trees, whole numbers, parts of values.
-/
import Derived.Test.YtpomandkgdmadaaGreatEmC
namespace Go.Em

/-- A way in a tree. -/
inductive Pth where
  | o
  | l (p : Pth)
  | r (p : Pth)

noncomputable def pathF (f : Nat) : Nat → Pth :=
  Nat.rec (motive := fun _ => Nat → Pth) (fun _ => .o)
    (fun _ ih n => Bool.rec (motive := fun _ => Pth) (Bool.rec (motive := fun _ => Pth) (.r (ih (Nat.div (Nat.sub n 1) 2))) (.l (ih (Nat.div (Nat.sub n 1) 2))) (Nat.beq (Nat.mod (Nat.sub n 1) 2) 0)) .o (Nat.beq n 0)) f
noncomputable def pathOf (n : Nat) : Pth := pathF (Nat.succ n) n

theorem pathF_zero (f : Nat) : pathF (f + 1) 0 = .o := rfl
theorem pathF_succ (f n : Nat) : pathF (f + 1) (n + 1) = if n % 2 = 0 then .l (pathF f (n / 2)) else .r (pathF f (n / 2)) := by
  show Bool.rec (motive := fun _ => Pth) (.r (pathF f (n / 2))) (.l (pathF f (n / 2))) (Nat.beq (n % 2) 0) = _
  rcases Nat.mod_two_eq_zero_or_one n with e | e <;> rw [e] <;> rfl

noncomputable def getP {α : Type} : Pth → Tr α → Option α :=
  @Pth.rec (fun _ => Tr α → Option α)
    (fun t => @Tr.rec α (fun _ => Option α) none (fun v _ _ _ _ => v) t)
    (fun _ ih t => @Tr.rec α (fun _ => Option α) none (fun _ l _ _ _ => ih l) t)
    (fun _ ih t => @Tr.rec α (fun _ => Option α) none (fun _ _ r _ _ => ih r) t)

theorem getP_nil {α : Type} (p : Pth) : getP p (.nil : Tr α) = none := by cases p <;> rfl

theorem getP_path {α : Type} : ∀ (f n : Nat) (t : Tr α), n < f → getP (pathF f n) t = t.get n
  | 0, n, t, h => by omega
  | f + 1, 0, t, _ => by cases t <;> rfl
  | f + 1, n + 1, t, h => by
    have hd : n / 2 < f := by omega
    rw [pathF_succ]
    cases t with
    | nil => rw [getP_nil]; rfl
    | node v l r =>
      rw [Tr.get_succ]
      split
      · exact getP_path f (n / 2) l hd
      · exact getP_path f (n / 2) r hd

noncomputable def setP {α : Type} : Pth → Option α → Tr α → Tr α :=
  @Pth.rec (fun _ => Option α → Tr α → Tr α)
    (fun o t => @Tr.rec α (fun _ => Tr α) (.node o .nil .nil) (fun _ l r _ _ => .node o l r) t)
    (fun _ ih o t => @Tr.rec α (fun _ => Tr α) (.node none (ih o .nil) .nil) (fun v l r _ _ => .node v (ih o l) r) t)
    (fun _ ih o t => @Tr.rec α (fun _ => Tr α) (.node none .nil (ih o .nil)) (fun v l r _ _ => .node v l (ih o r)) t)

theorem setP_path {α : Type} : ∀ (f n : Nat) (o : Option α) (t : Tr α), n < f → setP (pathF f n) o t = Tr.setF f t n o
  | 0, n, o, t, h => by omega
  | f + 1, 0, o, t, _ => by cases t <;> rfl
  | f + 1, n + 1, o, t, h => by
    have hd : n / 2 < f := by omega
    rw [pathF_succ]
    cases t with
    | nil =>
      rw [Tr.setF_nil_succ]
      split
      · rw [← setP_path f (n / 2) o .nil hd]; rfl
      · rw [← setP_path f (n / 2) o .nil hd]; rfl
    | node v l r =>
      rw [Tr.setF_node_succ]
      split
      · rw [← setP_path f (n / 2) o l hd]; rfl
      · rw [← setP_path f (n / 2) o r hd]; rfl

/-! The same for values and for blocks. -/
noncomputable def gV : Pth → Tr Value → Option Value :=
  @Pth.rec (fun _ => Tr Value → Option Value)
    (fun t => @Tr.rec Value (fun _ => Option Value) none (fun v _ _ _ _ => v) t)
    (fun _ ih t => @Tr.rec Value (fun _ => Option Value) none (fun _ l _ _ _ => ih l) t)
    (fun _ ih t => @Tr.rec Value (fun _ => Option Value) none (fun _ _ r _ _ => ih r) t)
noncomputable def sV : Pth → Option Value → Tr Value → Tr Value :=
  @Pth.rec (fun _ => Option Value → Tr Value → Tr Value)
    (fun o t => @Tr.rec Value (fun _ => Tr Value) (.node o .nil .nil) (fun _ l r _ _ => .node o l r) t)
    (fun _ ih o t => @Tr.rec Value (fun _ => Tr Value) (.node none (ih o .nil) .nil) (fun v l r _ _ => .node v (ih o l) r) t)
    (fun _ ih o t => @Tr.rec Value (fun _ => Tr Value) (.node none .nil (ih o .nil)) (fun v l r _ _ => .node v l (ih o r)) t)
noncomputable def gO : Pth → Tr Obj → Option Obj :=
  @Pth.rec (fun _ => Tr Obj → Option Obj)
    (fun t => @Tr.rec Obj (fun _ => Option Obj) none (fun v _ _ _ _ => v) t)
    (fun _ ih t => @Tr.rec Obj (fun _ => Option Obj) none (fun _ l _ _ _ => ih l) t)
    (fun _ ih t => @Tr.rec Obj (fun _ => Option Obj) none (fun _ _ r _ _ => ih r) t)
noncomputable def sO : Pth → Option Obj → Tr Obj → Tr Obj :=
  @Pth.rec (fun _ => Option Obj → Tr Obj → Tr Obj)
    (fun o t => @Tr.rec Obj (fun _ => Tr Obj) (.node o .nil .nil) (fun _ l r _ _ => .node o l r) t)
    (fun _ ih o t => @Tr.rec Obj (fun _ => Tr Obj) (.node none (ih o .nil) .nil) (fun v l r _ _ => .node v (ih o l) r) t)
    (fun _ ih o t => @Tr.rec Obj (fun _ => Tr Obj) (.node none .nil (ih o .nil)) (fun v l r _ _ => .node v l (ih o r)) t)

theorem gV_eq (n : Nat) (t : Tr Value) : gV (pathOf n) t = t.get n := getP_path (n + 1) n t (Nat.lt_succ_self n)
theorem gO_eq (n : Nat) (t : Tr Obj) : gO (pathOf n) t = t.get n := getP_path (n + 1) n t (Nat.lt_succ_self n)
theorem sV_eq (n : Nat) (o : Option Value) (t : Tr Value) : sV (pathOf n) o t = t.set n o := setP_path (n + 1) n o t (Nat.lt_succ_self n)
theorem sO_eq (n : Nat) (o : Option Obj) (t : Tr Obj) : sO (pathOf n) o t = t.set n o := setP_path (n + 1) n o t (Nat.lt_succ_self n)

/-- Goes on with a number that is made plain first. -/
noncomputable def natK {R : Type} (k : Nat → R) : Nat → R := @Nat.rec (fun _ => R) (k 0) (fun n _ => k (Nat.succ n))
theorem natK_eq {R : Type} (k : Nat → R) (n : Nat) : natK k n = k n := by cases n <;> rfl

/-! Whole numbers. -/
noncomputable def wrapN : IntKind → Nat → Int := @IntKind.rec (fun _ => Nat → Int)
  (fun s => @Bool.rec (fun _ => Int) (IntKind.wrap .i8 (Int.ofNat s)) (Int.ofNat s) (Nat.ble s 127))
  (fun s => @Bool.rec (fun _ => Int) (IntKind.wrap .i16 (Int.ofNat s)) (Int.ofNat s) (Nat.ble s 32767))
  (fun s => @Bool.rec (fun _ => Int) (IntKind.wrap .i32 (Int.ofNat s)) (Int.ofNat s) (Nat.ble s 2147483647))
  (fun s => @Bool.rec (fun _ => Int) (IntKind.wrap .i64 (Int.ofNat s)) (Int.ofNat s) (Nat.ble s 9223372036854775807))
  (fun s => Int.ofNat (Nat.mod s 256))
  (fun s => Int.ofNat (Nat.mod s 65536))
  (fun s => Int.ofNat (Nat.mod s 4294967296))
  (fun s => Int.ofNat (Nat.mod s 18446744073709551616))

theorem wrapS_eq (k : IntKind) (s l : Nat) (h : Nat.ble s l = true → k.wrap (Int.ofNat s) = Int.ofNat s) :
    @Bool.rec (fun _ => Int) (k.wrap (Int.ofNat s)) (Int.ofNat s) (Nat.ble s l) = k.wrap (Int.ofNat s) := by
  cases e : Nat.ble s l with
  | false => rfl
  | true => exact (h e).symm

theorem wrapN_eq (k : IntKind) (s : Nat) : wrapN k s = k.wrap (Int.ofNat s) := by
  have u : ∀ (x : Nat), Int.ofNat x = (x : Int) := fun _ => rfl
  cases k
  · refine wrapS_eq .i8 s 127 fun h => ?_
    have h := Nat.le_of_ble_eq_true h
    rw [u]
    simp [IntKind.wrap, IntKind.bits, IntKind.signed]; omega
  · refine wrapS_eq .i16 s 32767 fun h => ?_
    have h := Nat.le_of_ble_eq_true h
    rw [u]
    simp [IntKind.wrap, IntKind.bits, IntKind.signed]; omega
  · refine wrapS_eq .i32 s 2147483647 fun h => ?_
    have h := Nat.le_of_ble_eq_true h
    rw [u]
    simp [IntKind.wrap, IntKind.bits, IntKind.signed]; omega
  · refine wrapS_eq .i64 s 9223372036854775807 fun h => ?_
    have h := Nat.le_of_ble_eq_true h
    rw [u]
    simp [IntKind.wrap, IntKind.bits, IntKind.signed]; omega
  · show Int.ofNat (s % 256) = _
    rw [u, u]
    simp [IntKind.wrap, IntKind.bits, IntKind.signed]
  · show Int.ofNat (s % 65536) = _
    rw [u, u]
    simp [IntKind.wrap, IntKind.bits, IntKind.signed]
  · show Int.ofNat (s % 4294967296) = _
    rw [u, u]
    simp [IntKind.wrap, IntKind.bits, IntKind.signed]
  · show Int.ofNat (s % 18446744073709551616) = _
    rw [u, u]
    simp [IntKind.wrap, IntKind.bits, IntKind.signed]

noncomputable def pwN : IntKind → Nat := @IntKind.rec (fun _ => Nat) 256 65536 4294967296 18446744073709551616 256 65536 4294967296 18446744073709551616
noncomputable def bitsN : IntKind → Nat := @IntKind.rec (fun _ => Nat) 8 16 32 64 8 16 32 64
theorem pwN_eq (k : IntKind) : pwN k = 2 ^ k.bits := by cases k <;> rfl
theorem bitsN_eq (k : IntKind) : bitsN k = k.bits := by cases k <;> rfl

noncomputable def minN (a b : Nat) : Nat := @Bool.rec (fun _ => Nat) b a (Nat.ble a b)
theorem minN_eq (a b : Nat) : minN a b = min a b := by
  unfold minN
  cases h : Nat.ble a b with
  | true => exact (Nat.min_eq_left (Nat.le_of_ble_eq_true h)).symm
  | false =>
    have hn : ¬ a ≤ b := fun hle => by rw [Nat.ble_eq_true_of_le hle] at h; exact Bool.noConfusion h
    have hb : b ≤ a := by omega
    exact (Nat.min_eq_right hb).symm

/-- Integers' operators, of two that are not below zero. -/
noncomputable def natBin : BinOp → IntKind → Nat → Nat → Option Value := @BinOp.rec (fun _ => IntKind → Nat → Nat → Option Value)
  (fun k a b => some (.int k (wrapN k (Nat.add a b))))
  (fun k a b => @Bool.rec (fun _ => Option Value) (intOp .sub k (Int.ofNat a) (Int.ofNat b)) (some (.int k (wrapN k (Nat.sub a b)))) (Nat.ble b a))
  (fun k a b => some (.int k (wrapN k (Nat.mul a b))))
  (fun k a b => @Bool.rec (fun _ => Option Value) (some (.int k (wrapN k (Nat.div a b)))) none (Nat.beq b 0))
  (fun k a b => @Bool.rec (fun _ => Option Value) (some (.int k (Int.ofNat (Nat.mod a b)))) none (Nat.beq b 0))
  (fun k a b => some (.int k (wrapN k (Nat.land (Nat.mod a (pwN k)) (Nat.mod b (pwN k))))))
  (fun k a b => some (.int k (wrapN k (Nat.lor (Nat.mod a (pwN k)) (Nat.mod b (pwN k))))))
  (fun k a b => some (.int k (wrapN k (Nat.xor (Nat.mod a (pwN k)) (Nat.mod b (pwN k))))))
  (fun k a b => intOp .shl k (Int.ofNat a) (Int.ofNat b))
  (fun k a b => intOp .shr k (Int.ofNat a) (Int.ofNat b))
  (fun k a b => intOp .andNot k (Int.ofNat a) (Int.ofNat b))
  (fun _ a b => some (.bool (Nat.beq a b)))
  (fun _ a b => some (.bool (not (Nat.beq a b))))
  (fun _ a b => some (.bool (Nat.ble (Nat.succ a) b)))
  (fun _ a b => some (.bool (Nat.ble a b)))
  (fun _ a b => some (.bool (Nat.ble (Nat.succ b) a)))
  (fun _ a b => some (.bool (Nat.ble b a)))

theorem bool_ext {a b : Bool} (h : a = true ↔ b = true) : a = b := by cases a <;> cases b <;> simp_all

theorem beq_nat (a b : Nat) : Nat.beq a b = (Int.ofNat a == Int.ofNat b) := by
  apply bool_ext
  rw [Nat.beq_eq, beq_iff_eq]
  exact ⟨fun h => by rw [h], fun h => by injection h⟩

theorem ble_nat (a b : Nat) (p : Prop) [Decidable p] (h : a ≤ b ↔ p) : Nat.ble a b = decide p := by
  apply bool_ext
  rw [Nat.ble_eq, decide_eq_true_iff]
  exact h

theorem ofInt_nat (k : IntKind) (a : Nat) : (BitVec.ofInt k.bits (Int.ofNat a)).toNat = a % pwN k := by
  rw [pwN_eq]
  show (BitVec.ofInt k.bits ((a : Nat) : Int)).toNat = _
  rw [BitVec.ofInt_natCast, BitVec.toNat_ofNat]

theorem natBin_eq (op : BinOp) (k : IntKind) (a b : Nat) : natBin op k a b = intOp op k (Int.ofNat a) (Int.ofNat b) := by
  cases op
  case add => show some (Value.int k (wrapN k (a + b))) = _; rw [wrapN_eq]; rfl
  case sub =>
    show @Bool.rec (fun _ => Option Value) (intOp .sub k (Int.ofNat a) (Int.ofNat b)) (some (.int k (wrapN k (a - b)))) (Nat.ble b a) = _
    cases h : Nat.ble b a with
    | false => rfl
    | true =>
      have h := Nat.le_of_ble_eq_true h
      show some (Value.int k (wrapN k (a - b))) = some (Value.int k (k.wrap (Int.ofNat a - Int.ofNat b)))
      rw [wrapN_eq]
      have : Int.ofNat (a - b) = Int.ofNat a - Int.ofNat b := by show ((a - b : Nat) : Int) = (a : Int) - (b : Int); omega
      rw [this]
  case mul => show some (Value.int k (wrapN k (a * b))) = _; rw [wrapN_eq]; rfl
  case quo =>
    show @Bool.rec (fun _ => Option Value) (some (.int k (wrapN k (a / b)))) none (Nat.beq b 0) = _
    cases b with
    | zero => rfl
    | succ b => show some (Value.int k (wrapN k (a / (b + 1)))) = _; rw [wrapN_eq]; rfl
  case rem =>
    show @Bool.rec (fun _ => Option Value) (some (.int k (Int.ofNat (a % b)))) none (Nat.beq b 0) = _
    cases b with
    | zero => rfl
    | succ b => rfl
  case and =>
    show some (Value.int k (wrapN k ((a % pwN k) &&& (b % pwN k)))) = some (Value.int k (k.wrap (BitVec.ofInt k.bits (Int.ofNat a) &&& BitVec.ofInt k.bits (Int.ofNat b)).toNat))
    rw [wrapN_eq, BitVec.toNat_and, ofInt_nat, ofInt_nat]; rfl
  case or =>
    show some (Value.int k (wrapN k ((a % pwN k) ||| (b % pwN k)))) = some (Value.int k (k.wrap (BitVec.ofInt k.bits (Int.ofNat a) ||| BitVec.ofInt k.bits (Int.ofNat b)).toNat))
    rw [wrapN_eq, BitVec.toNat_or, ofInt_nat, ofInt_nat]; rfl
  case xor =>
    show some (Value.int k (wrapN k ((a % pwN k) ^^^ (b % pwN k)))) = some (Value.int k (k.wrap (BitVec.ofInt k.bits (Int.ofNat a) ^^^ BitVec.ofInt k.bits (Int.ofNat b)).toNat))
    rw [wrapN_eq, BitVec.toNat_xor, ofInt_nat, ofInt_nat]; rfl
  case eql => show some (Value.bool (Nat.beq a b)) = _; rw [beq_nat]; rfl
  case neq => show some (Value.bool (!(Nat.beq a b))) = _; rw [beq_nat]; rfl
  case lss => show some (Value.bool (Nat.ble (a + 1) b)) = some (Value.bool (decide (Int.ofNat a < Int.ofNat b))); rw [ble_nat (a + 1) b (Int.ofNat a < Int.ofNat b) (by show _ ↔ (a : Int) < (b : Int); omega)]
  case leq => show some (Value.bool (Nat.ble a b)) = some (Value.bool (decide (Int.ofNat a ≤ Int.ofNat b))); rw [ble_nat a b (Int.ofNat a ≤ Int.ofNat b) (by show _ ↔ (a : Int) ≤ (b : Int); omega)]
  case gtr => show some (Value.bool (Nat.ble (b + 1) a)) = some (Value.bool (decide (Int.ofNat a > Int.ofNat b))); rw [ble_nat (b + 1) a (Int.ofNat a > Int.ofNat b) (by show _ ↔ (a : Int) > (b : Int); omega)]
  case geq => show some (Value.bool (Nat.ble b a)) = some (Value.bool (decide (Int.ofNat a ≥ Int.ofNat b))); rw [ble_nat b a (Int.ofNat a ≥ Int.ofNat b) (by show _ ↔ (a : Int) ≥ (b : Int); omega)]
  all_goals rfl

noncomputable def natShl (k : IntKind) (a b : Nat) : Option Value := some (.int k (wrapN k (Nat.mul a (Nat.pow 2 (minN b (bitsN k))))))
noncomputable def natShr (k : IntKind) (a b : Nat) : Option Value := some (.int k (Int.ofNat (Nat.div a (Nat.pow 2 (minN b (bitsN k))))))

theorem natShl_eq (k : IntKind) (a b : Nat) : natShl k a b = shiftOp .shl k (Int.ofNat a) (Int.ofNat b) := by
  unfold natShl
  rw [minN_eq, bitsN_eq, wrapN_eq]
  show some (Value.int k (k.wrap (Int.ofNat (a * 2 ^ min b k.bits)))) = _
  have e : Int.ofNat (a * 2 ^ min b k.bits) = Int.ofNat a * 2 ^ min b k.bits := by
    show ((a * 2 ^ min b k.bits : Nat) : Int) = (a : Int) * 2 ^ min b k.bits
    push_cast; rfl
  rw [e]; rfl
theorem natShr_eq (k : IntKind) (a b : Nat) : natShr k a b = shiftOp .shr k (Int.ofNat a) (Int.ofNat b) := by
  unfold natShr
  rw [minN_eq, bitsN_eq]
  show some (Value.int k (Int.ofNat (a / 2 ^ min b k.bits))) = some (Value.int k (Int.fdiv (Int.ofNat a) (2 ^ min b k.bits)))
  have e : ((2 : Int) ^ min b k.bits) = Int.ofNat (2 ^ min b k.bits) := by
    show (2 : Int) ^ min b k.bits = ((2 ^ min b k.bits : Nat) : Int)
    push_cast; rfl
  rw [e]
  have e2 : ∀ m n : Nat, Int.fdiv (Int.ofNat m) (Int.ofNat n) = Int.ofNat (m / n) := by
    intro m n
    cases m with
    | zero => simp [Int.fdiv]
    | succ m => rfl
  rw [e2]

noncomputable def intBin (op : BinOp) (k : IntKind) (a b : Int) : Option Value :=
  @Int.rec (fun _ => Option Value) (fun m => @Int.rec (fun _ => Option Value) (natBin op k m) (fun _ => intOp op k a b) b) (fun _ => intOp op k a b) a
theorem intBin_eq (op : BinOp) (k : IntKind) (a b : Int) : intBin op k a b = intOp op k a b := by
  cases a with
  | negSucc a => rfl
  | ofNat a => cases b with
    | negSucc b => rfl
    | ofNat b => exact natBin_eq op k a b

noncomputable def intShl (k : IntKind) (a b : Int) : Option Value :=
  @Int.rec (fun _ => Option Value) (fun m => @Int.rec (fun _ => Option Value) (natShl k m) (fun _ => shiftOp .shl k a b) b) (fun _ => shiftOp .shl k a b) a
theorem intShl_eq (k : IntKind) (a b : Int) : intShl k a b = shiftOp .shl k a b := by
  cases a with
  | negSucc a => rfl
  | ofNat a => cases b with
    | negSucc b => rfl
    | ofNat b => exact natShl_eq k a b
noncomputable def intShr (k : IntKind) (a b : Int) : Option Value :=
  @Int.rec (fun _ => Option Value) (fun m => @Int.rec (fun _ => Option Value) (natShr k m) (fun _ => shiftOp .shr k a b) b) (fun _ => shiftOp .shr k a b) a
theorem intShr_eq (k : IntKind) (a b : Int) : intShr k a b = shiftOp .shr k a b := by
  cases a with
  | negSucc a => rfl
  | ofNat a => cases b with
    | negSucc b => rfl
    | ofNat b => exact natShr_eq k a b

/-- An operator of two integers' kinds. -/
noncomputable def sameK (op : BinOp) (k k' : IntKind) (a b : Int) : Option Value := @Decidable.rec (k = k') (fun _ => Option Value) (fun _ => none) (fun _ => intBin op k a b) (decEq k k')

noncomputable def intAll : BinOp → IntKind → IntKind → Int → Int → Option Value := @BinOp.rec (fun _ => IntKind → IntKind → Int → Int → Option Value)
  (sameK .add) (sameK .sub) (sameK .mul) (sameK .quo) (sameK .rem) (sameK .and) (sameK .or) (sameK .xor) (fun k _ a b => intShl k a b) (fun k _ a b => intShr k a b) (sameK .andNot)
  (sameK .eql) (sameK .neq) (sameK .lss) (sameK .leq) (sameK .gtr) (sameK .geq)

theorem intAll_eq (cx : Cx) (h : Heap) (op : BinOp) (t : Nat) (k k' : IntKind) (a b : Int) : intAll op k k' a b = binE cx h op t (.int k a) (.int k' b) := by
  cases op
  case shl => exact intShl_eq k a b
  case shr => exact intShr_eq k a b
  all_goals
    show @Decidable.rec (k = k') (fun _ => Option Value) (fun _ => none) (fun _ => intBin _ k a b) (decEq k k') = _
    simp only [intBin_eq]
    unfold binE
    dsimp only
    cases decEq k k' <;> rfl

/-! Parts of values. -/
abbrev IntF := IntKind → Int → Option Value
noncomputable def intC : Value → IntF → Option Value → Option Value := @Value.rec (fun _ => IntF → Option Value → Option Value) (fun _ => Unit) (fun _ => Unit)
  (fun _ _ d => d) (fun k n f _ => f k n) (fun _ _ _ d => d) (fun _ _ _ _ d => d) (fun _ _ d => d) (fun _ _ d => d) (fun _ _ _ _ d => d) (fun _ _ d => d) (fun _ _ d => d)
  (fun _ _ _ _ _ _ d => d) (fun _ d => d) (fun _ _ _ _ d => d) (fun _ d => d) (fun _ _ _ d => d) (fun _ _ _ d => d) (fun _ _ => ()) () (fun _ _ _ _ => ())
noncomputable def ptrV : Value → Option Addr := @Value.rec (fun _ => Option Addr) (fun _ => Unit) (fun _ => Unit)
  (fun _ => none) (fun _ _ => none) (fun _ _ => none) (fun _ _ _ => none) (fun _ => none) (fun a => a) (fun _ _ _ => none) (fun _ => none) (fun _ => none)
  (fun _ _ _ _ _ => none) none (fun _ _ _ => none) none (fun _ _ => none) (fun _ _ => none) (fun _ _ => ()) () (fun _ _ _ _ => ())
noncomputable def isCellG : Value → Bool := @Value.rec (fun _ => Bool) (fun _ => Unit) (fun _ => Unit)
  (fun _ => true) (fun _ _ => true) (fun _ _ => true) (fun _ _ _ => true) (fun _ => true) (fun _ => true) (fun _ _ _ => true) (fun _ => true) (fun _ => true)
  (fun _ _ _ _ _ => true) true (fun _ _ _ => true) true (fun _ _ => false) (fun _ _ => false) (fun _ _ => ()) () (fun _ _ _ _ => ())
/-- 1: true, 0: false, 2: no truth value. -/
noncomputable def boolV : Value → Option Bool := @Value.rec (fun _ => Option Bool) (fun _ => Unit) (fun _ => Unit)
  (fun b => some b) (fun _ _ => none) (fun _ _ => none) (fun _ _ _ => none) (fun _ => none) (fun _ => none) (fun _ _ _ => none) (fun _ => none) (fun _ => none)
  (fun _ _ _ _ _ => none) none (fun _ _ _ => none) none (fun _ _ => none) (fun _ _ => none) (fun _ _ => ()) () (fun _ _ _ _ => ())
abbrev SlF := Option Addr → Nat → Nat → Option Value
noncomputable def sliceC : Value → SlF → Option Value → Option Value := @Value.rec (fun _ => SlF → Option Value → Option Value) (fun _ => Unit) (fun _ => Unit)
  (fun _ _ d => d) (fun _ _ _ d => d) (fun _ _ _ d => d) (fun _ _ _ _ d => d) (fun _ _ d => d) (fun _ _ d => d) (fun a n c f _ => f a n c) (fun _ _ d => d) (fun _ _ d => d)
  (fun _ _ _ _ _ _ d => d) (fun _ d => d) (fun _ _ _ _ d => d) (fun _ d => d) (fun _ _ _ d => d) (fun _ _ _ d => d) (fun _ _ => ()) () (fun _ _ _ _ => ())

theorem ptrV_eq {v : Value} {a : Addr} (h : ptrV v = some a) : v = .pointer (some a) := by
  cases v
  case pointer b =>
    have e : b = some a := h
    rw [e]
  all_goals exact absurd (show (none : Option Addr) = some a from h) (by simp)

end Go.Em

/-
  Structs and arrays of integers and truth values: how they are compared.
-/
namespace Go.Em

/-- A list, n times. -/
noncomputable def repK (ks : List (Option IntKind)) : Nat → List (Option IntKind)
  | 0 => []
  | n + 1 => ks ++ repK ks n

noncomputable def flatF (cx : Cx) (F : Nat → Option (List (Option IntKind))) : List Field → Nat → Option (List (Option IntKind))
  | [], _ => some []
  | f :: fs, o => match cx.ty f.type, F f.type with
    | some j, some ks => match Nat.beq f.offset o, Nat.beq j.size ks.length with
      | true, true => match flatF cx F fs (o + ks.length) with
        | some r => some (ks ++ r)
        | none => none
      | _, _ => none
    | _, _ => none

/-- The kinds of a plain type's cells; none: a truth value. -/
noncomputable def flatT (cx : Cx) : Nat → Nat → Option (List (Option IntKind))
  | 0, _ => none
  | d + 1, t => match cx.ty t with
    | none => none
    | some i => match i.d with
      | .bool => some [none]
      | .int k => some [some k]
      | .struct fs => flatF cx (flatT cx d) fs.toList 0
      | .array n e => match cx.ty e, flatT cx d e with
        | some j, some ks => match Nat.beq j.size ks.length with
          | true => some (repK ks n)
          | false => none
        | _, _ => none
      | _ => none

/-- Two rows of cells of these kinds. -/
inductive Mt : List (Option IntKind) → List Value → List Value → Prop
  | nil : Mt [] [] []
  | int {k : IntKind} {a b : Int} {ks : List (Option IntKind)} {xs ys : List Value} : Mt ks xs ys → Mt (some k :: ks) (.int k a :: xs) (.int k b :: ys)
  | bool {a b : Bool} {ks : List (Option IntKind)} {xs ys : List Value} : Mt ks xs ys → Mt (none :: ks) (.bool a :: xs) (.bool b :: ys)

noncomputable def cellQ (x y : Value) : Bool := match x, y with
  | .int _ a, .int _ b => a == b
  | .bool a, .bool b => a == b
  | _, _ => false
noncomputable def eqL : List Value → List Value → Bool := @List.rec Value (fun _ => List Value → Bool) (fun _ => true) (fun x _ ih l => @List.rec Value (fun _ => Bool) false (fun y ys _ => and (cellQ x y) (ih ys)) l)
theorem eqL_nil : eqL [] [] = true := rfl
theorem eqL_cons (x y : Value) (xs ys : List Value) : eqL (x :: xs) (y :: ys) = (cellQ x y && eqL xs ys) := rfl

theorem Mt.length {ks : List (Option IntKind)} {xs ys : List Value} (h : Mt ks xs ys) : xs.length = ks.length ∧ ys.length = ks.length := by
  induction h with
  | nil => exact ⟨rfl, rfl⟩
  | int _ ih => simp [ih.1, ih.2]
  | bool _ ih => simp [ih.1, ih.2]

theorem Mt.split : ∀ {k1 k2 : List (Option IntKind)} {xs ys : List Value}, Mt (k1 ++ k2) xs ys → ∃ x1 x2 y1 y2, xs = x1 ++ x2 ∧ ys = y1 ++ y2 ∧ Mt k1 x1 y1 ∧ Mt k2 x2 y2
  | [], k2, xs, ys, h => ⟨[], xs, [], ys, rfl, rfl, .nil, h⟩
  | some k :: k1, k2, _, _, .int (a := a) (b := b) h => by
    obtain ⟨x1, x2, y1, y2, e1, e2, h1, h2⟩ := Mt.split h
    exact ⟨.int k a :: x1, x2, .int k b :: y1, y2, by rw [e1]; rfl, by rw [e2]; rfl, .int h1, h2⟩
  | none :: k1, k2, _, _, .bool (a := a) (b := b) h => by
    obtain ⟨x1, x2, y1, y2, e1, e2, h1, h2⟩ := Mt.split h
    exact ⟨.bool a :: x1, x2, .bool b :: y1, y2, by rw [e1]; rfl, by rw [e2]; rfl, .bool h1, h2⟩

theorem eqL_append {k1 : List (Option IntKind)} {x1 y1 : List Value} (h : Mt k1 x1 y1) (x2 y2 : List Value) : eqL (x1 ++ x2) (y1 ++ y2) = (eqL x1 y1 && eqL x2 y2) := by
  induction h with
  | nil => simp [eqL_nil]
  | int _ ih => simp only [List.cons_append, eqL_cons, ih, Bool.and_assoc]
  | bool _ ih => simp only [List.cons_append, eqL_cons, ih, Bool.and_assoc]

/-- What a part of these cells is, as a value. -/
def PartV (i : Ty) (xs : List Value) (x : Value) : Prop := match aggD i.d with
  | true => x = .agg xs.toArray
  | false => xs = [x]

theorem partA_mid {i : Ty} {pre xs post : List Value} {x : Value} (hp : PartV i xs x) (hs : i.size = xs.length) : partA i (pre ++ (xs ++ post)) pre.length = some x := by
  unfold PartV at hp
  unfold partA
  cases ha : aggD i.d with
  | true =>
    rw [ha] at hp
    dsimp only at hp ⊢
    have e : Nat.ble (pre.length + i.size) (pre ++ (xs ++ post)).length = true := by
      rw [Nat.ble_eq]; simp [hs]
    rw [e]
    simp [hs, hp]
  | false =>
    rw [ha] at hp
    dsimp only at hp ⊢
    rw [hp]; simp

section
variable {cx : Cx} {h : Heap}

/-- What is said of a type. -/
def EqS (cx : Cx) (h : Heap) (d t : Nat) : Prop := ∀ ks, flatT cx d t = some ks → ∀ xs ys, Mt ks xs ys → ∃ i, cx.ty t = some i ∧ (i.size = ks.length → ∃ x y, PartV i xs x ∧ PartV i ys y ∧ eqA cx h d t x y = some (eqL xs ys))

theorem eqFs_flat {d : Nat} (ih : ∀ t, EqS cx h d t) : ∀ (fs : List Field) (o : Nat) (ks : List (Option IntKind)), flatF cx (flatT cx d) fs o = some ks → ∀ (px py xs ys : List Value), px.length = o → py.length = o → Mt ks xs ys →
    eqFs cx (eqA cx h d) (px ++ xs) (py ++ ys) fs = some (eqL xs ys)
  | [], o, ks, hf, px, py, xs, ys, _, _, hm => by
    simp only [flatF] at hf
    cases hf
    cases hm
    simp [eqFs, eqL_nil]
  | f :: fs, o, ks, hf, px, py, xs, ys, hx, hy, hm => by
    simp only [flatF] at hf
    cases hj : cx.ty f.type with
    | none => rw [hj] at hf; cases hf
    | some j =>
      cases hk : flatT cx d f.type with
      | none => rw [hj, hk] at hf; cases hf
      | some k1 =>
        rw [hj, hk] at hf
        dsimp only at hf
        cases h1 : Nat.beq f.offset o with
        | false => rw [h1] at hf; cases hf
        | true =>
          cases h2 : Nat.beq j.size k1.length with
          | false => rw [h1, h2] at hf; cases hf
          | true =>
            rw [h1, h2] at hf
            dsimp only at hf
            cases hr : flatF cx (flatT cx d) fs (o + k1.length) with
            | none => rw [hr] at hf; cases hf
            | some r =>
              rw [hr] at hf
              cases hf
              have e1 := Nat.eq_of_beq_eq_true h1
              have e2 := Nat.eq_of_beq_eq_true h2
              obtain ⟨x1, x2, y1, y2, rfl, rfl, m1, m2⟩ := Mt.split hm
              have hl := m1.length
              obtain ⟨i, hi, hq⟩ := ih f.type k1 hk x1 y1 m1
              rw [hj] at hi
              cases hi
              obtain ⟨x, y, vx, vy, heq⟩ := hq e2
              simp only [eqFs, hj]
              have p1 : partA j (px ++ (x1 ++ x2)) f.offset = some x := by
                rw [e1, ← hx]; exact partA_mid vx (e2.trans hl.1.symm)
              have p2 : partA j (py ++ (y1 ++ y2)) f.offset = some y := by
                rw [e1, ← hy]; exact partA_mid vy (e2.trans hl.2.symm)
              rw [p1, p2]
              dsimp only
              rw [heq, eqL_append m1]
              cases eqL x1 y1 with
              | false => rfl
              | true =>
                dsimp only
                have := eqFs_flat ih fs (o + k1.length) r hr (px ++ x1) (py ++ y1) x2 y2 (by simp [hx, hl.1]) (by simp [hy, hl.2]) m2
                rw [List.append_assoc, List.append_assoc] at this
                rw [this]; simp

theorem eqNs_flat {d e : Nat} {j : Ty} {k1 : List (Option IntKind)} (hj : cx.ty e = some j) (hk : flatT cx d e = some k1) (e2 : j.size = k1.length) (ih : EqS cx h d e) :
    ∀ (n k : Nat) (px py xs ys : List Value), px.length = k * j.size → py.length = k * j.size → Mt (repK k1 n) xs ys →
    eqNs (eqA cx h d e) j (px ++ xs) (py ++ ys) k n = some (eqL xs ys)
  | 0, k, px, py, xs, ys, _, _, hm => by
    cases hm
    simp [eqNs, eqL_nil]
  | n + 1, k, px, py, xs, ys, hx, hy, hm => by
    obtain ⟨x1, x2, y1, y2, rfl, rfl, m1, m2⟩ := Mt.split (k1 := k1) (k2 := repK k1 n) hm
    have hl := m1.length
    obtain ⟨i, hi, hq⟩ := ih k1 hk x1 y1 m1
    rw [hj] at hi
    cases hi
    obtain ⟨x, y, vx, vy, heq⟩ := hq e2
    simp only [eqNs]
    have p1 : partA j (px ++ (x1 ++ x2)) (k * j.size) = some x := by
      rw [← hx]; exact partA_mid vx (e2.trans hl.1.symm)
    have p2 : partA j (py ++ (y1 ++ y2)) (k * j.size) = some y := by
      rw [← hy]; exact partA_mid vy (e2.trans hl.2.symm)
    rw [p1, p2]
    dsimp only
    rw [heq, eqL_append m1]
    cases eqL x1 y1 with
    | false => rfl
    | true =>
      dsimp only
      have := eqNs_flat hj hk e2 ih n (k + 1) (px ++ x1) (py ++ y1) x2 y2 (by simp [hx, hl.1, e2, Nat.add_mul]) (by simp [hy, hl.2, e2, Nat.add_mul]) m2
      rw [List.append_assoc, List.append_assoc] at this
      rw [this]; simp

theorem eqA_flat : ∀ (d t : Nat), EqS cx h d t
  | 0, t => fun ks hk => by simp [flatT] at hk
  | d + 1, t => fun ks hk xs ys hm => by
    have ih := eqA_flat d
    simp only [flatT] at hk
    cases hi : cx.ty t with
    | none => rw [hi] at hk; cases hk
    | some i =>
      refine ⟨i, rfl, fun hsz => ?_⟩
      rw [hi] at hk
      dsimp only at hk
      cases hd : i.d <;> simp only [hd] at hk <;> first | (cases hk; done) | skip
      case bool =>
        cases hk
        cases hm with
        | bool hm =>
          rename_i a b _ _
          cases hm
          refine ⟨.bool a, .bool b, by simp [PartV, aggD, hd], by simp [PartV, aggD, hd], ?_⟩
          simp only [eqA, hi, hd, eqL_cons, eqL_nil, cellQ, Bool.and_true]
      case int k =>
        cases hk
        cases hm with
        | int hm =>
          rename_i a b _ _
          cases hm
          refine ⟨.int k a, .int k b, by simp [PartV, aggD, hd], by simp [PartV, aggD, hd], ?_⟩
          simp only [eqA, hi, hd, eqL_cons, eqL_nil, cellQ, Bool.and_true]
          cases hdec : decEq k k with
          | isTrue _ => rfl
          | isFalse hn => exact absurd rfl hn
      case struct fs =>
        refine ⟨.agg xs.toArray, .agg ys.toArray, by simp [PartV, aggD, hd], by simp [PartV, aggD, hd], ?_⟩
        simp only [eqA, hi, hd]
        have := eqFs_flat ih fs.toList 0 ks hk [] [] xs ys rfl rfl hm
        simpa using this
      case array n e =>
        refine ⟨.agg xs.toArray, .agg ys.toArray, by simp [PartV, aggD, hd], by simp [PartV, aggD, hd], ?_⟩
        simp only [eqA, hi, hd]
        cases hj : cx.ty e with
        | none => rw [hj] at hk; cases hk
        | some j =>
          cases hke : flatT cx d e with
          | none => rw [hj, hke] at hk; cases hk
          | some k1 =>
            rw [hj, hke] at hk
            dsimp only at hk ⊢
            cases h2 : Nat.beq j.size k1.length with
            | false => rw [h2] at hk; cases hk
            | true =>
              rw [h2] at hk
              cases hk
              have := eqNs_flat hj hke (Nat.eq_of_beq_eq_true h2) (ih e) n 0 [] [] xs ys (by simp) (by simp) hm
              simpa using this
end

/-- Are two rows of these kinds? -/
noncomputable def cellK (k : Option IntKind) (x y : Value) : Bool := match k, x, y with
  | some k, .int k1 _, .int k2 _ => match decEq k k1, decEq k k2 with
    | isTrue _, isTrue _ => true
    | _, _ => false
  | none, .bool _, .bool _ => true
  | _, _, _ => false
noncomputable def mtB : List (Option IntKind) → List Value → List Value → Bool := @List.rec (Option IntKind) (fun _ => List Value → List Value → Bool)
  (fun xs ys => @List.rec Value (fun _ => Bool) (@List.rec Value (fun _ => Bool) true (fun _ _ _ => false) ys) (fun _ _ _ => false) xs)
  (fun k _ ih xs ys => @List.rec Value (fun _ => Bool) false (fun x xs _ => @List.rec Value (fun _ => Bool) false (fun y ys _ => @Bool.rec (fun _ => Bool) false (ih xs ys) (cellK k x y)) ys) xs)
theorem mtB_ok : ∀ (ks : List (Option IntKind)) (xs ys : List Value), mtB ks xs ys = true → Mt ks xs ys
  | [], [], [], _ => .nil
  | [], [], _ :: _, h => Bool.noConfusion h
  | [], _ :: _, _, h => Bool.noConfusion h
  | _ :: _, [], _, h => Bool.noConfusion h
  | _ :: _, _ :: _, [], h => Bool.noConfusion h
  | k :: ks, x :: xs, y :: ys, h => by
    change @Bool.rec (fun _ => Bool) false (mtB ks xs ys) (cellK k x y) = true at h
    cases hc : cellK k x y with
    | false => rw [hc] at h; cases h
    | true =>
      rw [hc] at h
      have ih := mtB_ok ks xs ys h
      unfold cellK at hc
      split at hc
      · split at hc
        · rename_i e1 e2 _ _
          subst e1
          subst e2
          exact .int ih
        · cases hc
      · exact .bool ih
      · cases hc

/-- The kinds of the cells that are compared. -/
noncomputable def eqS (cx : Cx) (op : BinOp) (t : Nat) : Option (List (Option IntKind)) := match op with
  | .eql => match cx.ty t with
    | some i => match aggD i.d, flatT cx 60 t with
      | true, some ks => match Nat.beq i.size ks.length with
        | true => some ks
        | false => none
      | _, _ => none
    | none => none
  | _ => none
theorem eqS_ok {cx : Cx} {op : BinOp} {t : Nat} {ks : List (Option IntKind)} (hs : eqS cx op t = some ks) (h : Heap) {xs ys : Array Value} (hm : mtB ks xs.toList ys.toList = true) :
    binE cx h op t (.agg xs) (.agg ys) = some (.bool (eqL xs.toList ys.toList)) := by
  unfold eqS at hs
  cases op <;> simp only at hs <;> try cases hs
  cases hi : cx.ty t with
  | none => rw [hi] at hs; cases hs
  | some i =>
    rw [hi] at hs
    dsimp only at hs
    cases ha : aggD i.d with
    | false => rw [ha] at hs; cases hs
    | true =>
      cases hk : flatT cx 60 t with
      | none => rw [ha, hk] at hs; cases hs
      | some k1 =>
        rw [ha, hk] at hs
        dsimp only at hs
        cases hz : Nat.beq i.size k1.length with
        | false => rw [hz] at hs; cases hs
        | true =>
          rw [hz] at hs
          cases hs
          obtain ⟨i', hi', hq⟩ := eqA_flat (cx := cx) (h := h) 60 t ks hk _ _ (mtB_ok _ _ _ hm)
          rw [hi] at hi'
          cases hi'
          obtain ⟨x, y, vx, vy, heq⟩ := hq (Nat.eq_of_beq_eq_true hz)
          unfold PartV at vx vy
          rw [ha] at vx vy
          dsimp only at vx vy
          subst vx
          subst vy
          have heq : eqA cx h 60 t (.agg xs) (.agg ys) = some (eqL xs.toList ys.toList) := by simpa using heq
          simp only [binE, heq]

/-! Rows of cells that are not known but for their kinds -/
noncomputable def mkC (f : Nat → Int) (g : Nat → Bool) : List (Option IntKind) → Nat → List Value := @List.rec (Option IntKind) (fun _ => Nat → List Value) (fun _ => [])
  (fun k _ ih i => @Option.rec IntKind (fun _ => Value) (.bool (g i)) (fun k => .int k (f i)) k :: ih (Nat.succ i))
theorem eqL_mkC (f : Nat → Int) (g : Nat → Bool) : ∀ (ks : List (Option IntKind)) (i : Nat), eqL (mkC f g ks i) (mkC f g ks i) = true
  | [], _ => rfl
  | k :: ks, i => by
    show eqL (_ :: mkC f g ks (i + 1)) (_ :: mkC f g ks (i + 1)) = true
    rw [eqL_cons, eqL_mkC f g ks (i + 1)]
    cases k <;> simp [cellQ]

/-- A cell is of a kind. -/
def OfK (k : Option IntKind) (v : Value) : Prop := match k with
  | some k => ∃ n, v = .int k n
  | none => ∃ b, v = .bool b
def getN (v : Option Value) : Int := match v with
  | some (.int _ n) => n
  | _ => 0
def getT (v : Option Value) : Bool := match v with
  | some (.bool b) => b
  | _ => false
theorem mkC_of (l : List Value) : ∀ (ks : List (Option IntKind)) (i : Nat), l.length = i + ks.length → (∀ j k v, ks[j]? = some k → l[i + j]? = some v → OfK k v) →
    l.drop i = mkC (fun j => getN l[j]?) (fun j => getT l[j]?) ks i
  | [], i, hl, _ => by
    show _ = []
    apply List.drop_eq_nil_of_le
    simp at hl; omega
  | k :: ks, i, hl, hk => by
    simp only [List.length_cons] at hl
    have hi : i < l.length := by omega
    have ih := mkC_of l ks (i + 1) (by omega) (fun j k v hj hv => hk (j + 1) k v (by simpa using hj) (by rw [← hv]; congr 1; omega))
    rw [List.drop_eq_getElem_cons hi, ih]
    have h0 := hk 0 k l[i] rfl (by simp [hi])
    show _ = @Option.rec IntKind (fun _ => Value) (.bool (getT l[i]?)) (fun k => .int k (getN l[i]?)) k :: mkC _ _ ks (i + 1)
    congr 1
    have hg : l[i]? = some l[i] := by simp [hi]
    cases k with
    | none =>
      obtain ⟨b, hb⟩ := h0
      show _ = Value.bool (getT l[i]?)
      rw [hg, hb]; rfl
    | some k =>
      obtain ⟨n, hn⟩ := h0
      show _ = Value.int k (getN l[i]?)
      rw [hg, hn]; rfl

end Go.Em

/-
  Quick forms of the evaluator's operations.
-/
namespace Go.Em

abbrev R1 := Option (Out × Heap)
abbrev K := Cx → CallFn → Tr Value → Heap → R1

noncomputable def cstG (v : Value) : Option Value := match flat v with
    | true => some v
    | false => none

noncomputable def evG : Operand → Tr Value → Option Value := @Operand.rec (fun _ => Tr Value → Option Value)
  (fun t tm => gV (pathOf t) tm) (fun v _ => cstG v) (fun _ _ => none) (fun f _ => some (.func (.func f) #[] #[]))
theorem evG_eq (x : Operand) (tm : Tr Value) : evG x tm = ev tm x := by
  cases x
  case tmp t => exact gV_eq t tm
  all_goals rfl

noncomputable def evsG (tm : Tr Value) : List Operand → Option (List Value) := @List.rec Operand (fun _ => Option (List Value)) (some [])
  (fun x _ ih => @Option.rec Value (fun _ => Option (List Value)) none (fun v => @Option.rec (List Value) (fun _ => Option (List Value)) none (fun vs => some (v :: vs)) ih) (evG x tm))
theorem evsG_eq (tm : Tr Value) : ∀ (l : List Operand), evsG tm l = evs tm l
  | [] => rfl
  | x :: l => by
    show @Option.rec Value (fun _ => Option (List Value)) none (fun v => @Option.rec (List Value) (fun _ => Option (List Value)) none (fun vs => some (v :: vs)) (evsG tm l)) (evG x tm) = _
    rw [evG_eq, evsG_eq tm l]
    simp only [evs]
    cases ev tm x with
    | none => rfl
    | some v => cases evs tm l <;> rfl

noncomputable def valG (o : Option Value) (h : Heap) : R1 := @Option.rec Value (fun _ => R1) none (fun v => some (.val v, h)) o
theorem valG_eq (o : Option Value) (h : Heap) : valG o h = val o h := by cases o <;> rfl
noncomputable def skpG (o : Option Heap) : R1 := @Option.rec Heap (fun _ => R1) none (fun h => some (.val undef, h)) o
theorem skpG_eq (o : Option Heap) : skpG o = skp o := by cases o <;> rfl

noncomputable def bndV (o : Option Value) (f : Value → R1) : R1 := @Option.rec Value (fun _ => R1) none f o
noncomputable def bndP (o : Option Addr) (f : Addr → R1) : R1 := @Option.rec Addr (fun _ => R1) none f o

/-! ### Loads -/
noncomputable def rowG (base : Nat → Value) (tr : Tr Value) (i : Nat) : Value := @Option.rec Value (fun _ => Value) (base i) (fun v => v) (gV (pathOf i) tr)
theorem rowG_eq (base : Nat → Value) (tr : Tr Value) (i : Nat) : rowG base tr i = rowAt base tr i := by
  unfold rowG rowAt
  rw [gV_eq]
  cases tr.get i <;> rfl

noncomputable def ldO (off : Nat) : Option Obj → Option Value := @Option.rec Obj (fun _ => Option Value) none
  (fun o => @Obj.rec (fun _ => Option Value) (fun size base tr _ _ _ => @Bool.rec (fun _ => Option Value) none (some (rowG base tr off)) (Nat.ble (Nat.add off 1) size)) (fun _ _ => none) (fun _ _ => none) o)
noncomputable def load1 (h : Heap) : Addr → Option Value :=
  @Addr.rec (fun _ => Option Value) (fun b off spot => @Option.rec Nat (fun _ => Option Value) (ldO off (gO (pathOf b) (Heap.tr h))) (fun _ => none) spot)

theorem load1_eq (h : Heap) (a : Addr) : load1 h a = match loadN h a 1 with
      | some [v] => some v
      | _ => none := by
  obtain ⟨b, off, spot⟩ := a
  cases spot with
  | some s => rfl
  | none =>
    show ldO off (gO (pathOf b) h.tr) = _
    rw [gO_eq]
    simp only [loadN, Heap.get]
    cases h.tr.get b with
    | none => rfl
    | some o =>
      cases o with
      | row size base tr elem esz ro =>
        show @Bool.rec (fun _ => Option Value) none (some (rowG base tr off)) (Nat.ble (off + 1) size) = _
        simp only [rowG_eq]
        cases Nat.ble (off + 1) size <;> rfl
      | map es c => rfl
      | chan c b => rfl

noncomputable def scalS (cx : Cx) (t : Nat) : Bool := match cx.ty t with
  | some i => !(aggD i.d)
  | none => false

noncomputable def cellsG (base : Nat → Value) (tr : Tr Value) : Nat → Nat → List Value :=
  @Nat.rec (fun _ => Nat → List Value) (fun _ => []) (fun _ ih i => rowG base tr i :: ih (Nat.succ i))
theorem cellsG_eq (base : Nat → Value) (tr : Tr Value) : ∀ (n i : Nat), cellsG base tr n i = cellsFrom base tr i n
  | 0, _ => by simp [cellsFrom]; rfl
  | n + 1, i => by
    show rowG base tr i :: cellsG base tr n (i + 1) = _
    rw [rowG_eq, cellsG_eq base tr n (i + 1)]
    simp [cellsFrom]

noncomputable def ldA (n off : Nat) : Option Obj → Option Value := @Option.rec Obj (fun _ => Option Value) none
  (fun o => @Obj.rec (fun _ => Option Value) (fun size base tr _ _ _ => @Bool.rec (fun _ => Option Value) none (some (.agg (cellsG base tr n off).toArray)) (Nat.ble (Nat.add off n) size)) (fun _ _ => none) (fun _ _ => none) o)
noncomputable def loadA (h : Heap) (n : Nat) : Addr → Option Value :=
  @Addr.rec (fun _ => Option Value) (fun b off spot => @Option.rec Nat (fun _ => Option Value) (ldA n off (gO (pathOf b) (Heap.tr h))) (fun _ => none) spot)

theorem loadA_eq (h : Heap) (n : Nat) (a : Addr) : loadA h n a = match loadN h a n with
      | some l => some (.agg l.toArray)
      | _ => none := by
  obtain ⟨b, off, spot⟩ := a
  cases spot with
  | some s => rfl
  | none =>
    show ldA n off (gO (pathOf b) h.tr) = _
    rw [gO_eq]
    simp only [loadN, Heap.get]
    cases h.tr.get b with
    | none => rfl
    | some o =>
      cases o with
      | row size base tr elem esz ro =>
        show @Bool.rec (fun _ => Option Value) none (some (.agg (cellsG base tr n off).toArray)) (Nat.ble (off + n) size) = _
        simp only [cellsG_eq]
        cases Nat.ble (off + n) size <;> rfl
      | map es c => rfl
      | chan c b => rfl

/-- The size of a struct or an array. -/
noncomputable def aggS (cx : Cx) (t : Nat) : Option Nat := match cx.ty t with
  | some i => match aggD i.d with
    | true => some i.size
    | false => none
  | none => none

noncomputable def loadG (cx : Cx) (t : Nat) (h : Heap) (a : Addr) : Option Value :=
  @Bool.rec (fun _ => Option Value) (@Option.rec Nat (fun _ => Option Value) none (fun n => loadA h n a) (aggS cx t)) (load1 h a) (scalS cx t)
theorem loadG_eq (cx : Cx) (t : Nat) (h : Heap) (a : Addr) : loadG cx t h a = loadT cx h t a := by
  unfold loadG scalS loadT aggS
  cases cx.ty t with
  | none => rfl
  | some i =>
    dsimp only
    cases aggD i.d with
    | false => exact load1_eq h a
    | true =>
      show loadA h i.size a = _
      rw [loadA_eq]
      cases loadN h a i.size <;> rfl

noncomputable def kLoad (t : Nat) (a : Operand) (cx : Cx) (_ : CallFn) (tm : Tr Value) (h : Heap) : R1 :=
  bndV (evG a tm) (fun v => bndP (ptrV v) (fun ad => valG (loadG cx t h ad) h))

theorem ptr_case {R : Type} (v : Value) (f : Addr → R) (d : R) : (match some v with
    | some (.pointer (some a)) => f a
    | _ => d) = @Option.rec Addr (fun _ => R) d f (ptrV v) := by
  cases v <;> first | rfl | (rename_i a; cases a <;> rfl)

theorem kLoad_eq (t : Nat) (a : Operand) (cx : Cx) (cf : CallFn) (tm : Tr Value) (h : Heap) : kLoad t a cx cf tm h = opE cx cf tm h (.load t a) := by
  simp only [kLoad, opE, evG_eq, loadG_eq, valG_eq]
  cases ev tm a with
  | none => rfl
  | some v => exact (ptr_case v (fun ad => val (loadT cx h t ad) h) none).symm

/-! ### Stores -/
noncomputable def oneS (cx : Cx) (t : Nat) : Bool := match cx.ty t with
  | some i => Nat.beq i.size 1
  | none => false

noncomputable def stO (b off : Nat) (v : Value) (h : Heap) : Option Obj → Option Heap := @Option.rec Obj (fun _ => Option Heap) none
  (fun o => @Obj.rec (fun _ => Option Heap) (fun size base tr elem esz ro => @Bool.rec (fun _ => Option Heap)
      (@Bool.rec (fun _ => Option Heap) none (some ⟨sO (pathOf b) (some (.row size base (sV (pathOf off) (some v) tr) elem esz false)) (Heap.tr h), Heap.nx h, ⟨b, off, 1⟩ :: Heap.dt h⟩) (Nat.ble (Nat.add off 1) size)) none ro)
    (fun _ _ => none) (fun _ _ => none) o)
noncomputable def store1 (v : Value) (h : Heap) : Addr → Option Heap :=
  @Addr.rec (fun _ => Option Heap) (fun b off spot => @Option.rec Nat (fun _ => Option Heap) (stO b off v h (gO (pathOf b) (Heap.tr h))) (fun _ => none) spot)
noncomputable def storeG (cx : Cx) (t : Nat) (h : Heap) (a : Addr) (v : Value) : Option Heap :=
  @Bool.rec (fun _ => Option Heap) (storeT cx h t a v) (@Bool.rec (fun _ => Option Heap) (storeT cx h t a v) (store1 v h a) (isCellG v)) (oneS cx t)

theorem isCellG_eq (v : Value) : isCellG v = isCell v := by cases v <;> rfl

theorem cell_cells {v : Value} (h : isCell v = true) : v.cells = #[v] := by
  cases v <;> first | rfl | exact Bool.noConfusion h

theorem store1_eq (h : Heap) (a : Addr) (v : Value) (hc : isCell v = true) : store1 v h a = storeN h a [v] := by
  obtain ⟨b, off, spot⟩ := a
  cases spot with
  | some s => rfl
  | none =>
    show stO b off v h (gO (pathOf b) h.tr) = _
    rw [gO_eq]
    simp only [storeN, Heap.get]
    cases h.tr.get b with
    | none => rfl
    | some o =>
      cases o with
      | row size base tr elem esz ro =>
        cases ro with
        | true => rfl
        | false =>
          have ha : allCells [v] = true := by simp [allCells, hc]
          rw [ha]
          show @Bool.rec (fun _ => Option Heap) none (some ⟨sO (pathOf b) (some (.row size base (sV (pathOf off) (some v) tr) elem esz false)) (Heap.tr h), Heap.nx h, ⟨b, off, 1⟩ :: Heap.dt h⟩) (Nat.ble (off + 1) size) = _
          rw [sO_eq, sV_eq]
          show _ = match Nat.ble (off + 1) size, true with
            | true, true => _
            | _, _ => _
          cases Nat.ble (off + 1) size <;> rfl
      | map es c => rfl
      | chan c b => rfl

theorem storeG_eq (cx : Cx) (t : Nat) (h : Heap) (a : Addr) (v : Value) : storeG cx t h a v = storeT cx h t a v := by
  unfold storeG oneS
  cases ht : cx.ty t with
  | none => rfl
  | some i =>
    dsimp only
    cases h1 : Nat.beq i.size 1 with
    | false => rfl
    | true =>
      rw [isCellG_eq]
      cases hc : isCell v with
      | false => rfl
      | true =>
        show store1 v h a = _
        rw [store1_eq h a v hc]
        unfold storeT
        rw [ht, cell_cells hc]
        have e : i.size = 1 := Nat.eq_of_beq_eq_true h1
        simp [e]

noncomputable def kStore (t : Nat) (a x : Operand) (cx : Cx) (_ : CallFn) (tm : Tr Value) (h : Heap) : R1 :=
  bndV (evG a tm) (fun v => bndP (ptrV v) (fun ad => bndV (evG x tm) (fun xv => skpG (storeG cx t h ad xv))))
theorem kStore_eq (t : Nat) (a x : Operand) (cx : Cx) (cf : CallFn) (tm : Tr Value) (h : Heap) : kStore t a x cx cf tm h = opE cx cf tm h (.store t a x) := by
  simp only [kStore, opE, evG_eq, storeG_eq, skpG_eq]
  cases ev tm a with
  | none => rfl
  | some v =>
    cases ev tm x with
    | none =>
      show @Option.rec Addr (fun _ => R1) none (fun _ => none) (ptrV v) = _
      cases v <;> first | rfl | (rename_i a; cases a <;> rfl)
    | some xv =>
      show @Option.rec Addr (fun _ => R1) none (fun ad => skp (storeT cx h t ad xv)) (ptrV v) = _
      cases v <;> first | rfl | (rename_i a; cases a <;> rfl)

/-! ### Moves, choices, tests -/
noncomputable def kMove (x : Operand) (_ : Cx) (_ : CallFn) (tm : Tr Value) (h : Heap) : R1 := valG (evG x tm) h
theorem kMove_eq (x : Operand) (cx : Cx) (cf : CallFn) (tm : Tr Value) (h : Heap) : kMove x cx cf tm h = opE cx cf tm h (.move x) := by
  simp only [kMove, opE, evG_eq, valG_eq]

noncomputable def bndB (o : Option Bool) (t f : R1) : R1 := @Option.rec Bool (fun _ => R1) none (fun b => @Bool.rec (fun _ => R1) f t b) o
noncomputable def kPick (c a b : Operand) (_ : Cx) (_ : CallFn) (tm : Tr Value) (h : Heap) : R1 :=
  bndV (evG c tm) (fun v => bndB (boolV v) (valG (evG a tm) h) (valG (evG b tm) h))
theorem kPick_eq (c a b : Operand) (cx : Cx) (cf : CallFn) (tm : Tr Value) (h : Heap) : kPick c a b cx cf tm h = opE cx cf tm h (.pick c a b) := by
  simp only [kPick, opE, evG_eq, valG_eq]
  cases ev tm c with
  | none => rfl
  | some v => cases v <;> first | rfl | (rename_i b; cases b <;> rfl)

noncomputable def nilS (v : Value) (h : Heap) : R1 := match some v with
    | some (.pointer (some a)) => some (.val (.pointer (some a)), h)
    | some (.func (.func f) a b) => some (.val (.func (.func f) a b), h)
    | _ => none
noncomputable def kNil (x : Operand) (_ : Cx) (_ : CallFn) (tm : Tr Value) (h : Heap) : R1 :=
  bndV (evG x tm) (fun v => @Option.rec Addr (fun _ => R1) (nilS v h) (fun a => some (.val (.pointer (some a)), h)) (ptrV v))
theorem kNil_eq (x : Operand) (cx : Cx) (cf : CallFn) (tm : Tr Value) (h : Heap) : kNil x cx cf tm h = opE cx cf tm h (.nilCheck x) := by
  simp only [kNil, opE, evG_eq]
  cases ev tm x with
  | none => rfl
  | some v => cases v <;> first | rfl | (rename_i a; cases a <;> rfl)

noncomputable def binS (op : BinOp) (t : Nat) (x y : Operand) (cx : Cx) (h : Heap) (a b : Value) : Option Value := match guardE x y a with
    | true => binE cx h op t a b
    | false => none
noncomputable def aggC : Value → (Array Value → Option Value) → Option Value → Option Value := @Value.rec (fun _ => (Array Value → Option Value) → Option Value → Option Value) (fun _ => Unit) (fun _ => Unit)
  (fun _ _ d => d) (fun _ _ _ d => d) (fun _ _ _ d => d) (fun _ _ _ _ d => d) (fun _ _ d => d) (fun _ _ d => d) (fun _ _ _ _ d => d) (fun _ _ d => d) (fun _ _ d => d)
  (fun _ _ _ _ _ _ d => d) (fun _ d => d) (fun _ _ _ _ d => d) (fun _ d => d) (fun a _ f _ => f a) (fun _ _ _ d => d) (fun _ _ => ()) () (fun _ _ _ _ => ())
theorem aggC_not {v : Value} (hv : ∀ a, v ≠ .agg a) (f : Array Value → Option Value) (d : Option Value) : aggC v f d = d := by
  cases v <;> first | rfl | exact absurd rfl (hv _)
/-- Structs and arrays of integers and truth values are compared cell by cell. -/
noncomputable def binT (op : BinOp) (t : Nat) (x y : Operand) (cx : Cx) (h : Heap) (a b : Value) : Option Value :=
  @Option.rec (List (Option IntKind)) (fun _ => Option Value) (binS op t x y cx h a b) (fun ks => aggC a (fun xs => aggC b (fun ys =>
    @Bool.rec (fun _ => Option Value) (binS op t x y cx h a b) (some (.bool (eqL xs.toList ys.toList))) (mtB ks xs.toList ys.toList)) (binS op t x y cx h a b)) (binS op t x y cx h a b)) (eqS cx op t)
theorem binT_eq (op : BinOp) (t : Nat) (x y : Operand) (cx : Cx) (h : Heap) (a b : Value) : binT op t x y cx h a b = binS op t x y cx h a b := by
  unfold binT
  cases hs : eqS cx op t with
  | none => rfl
  | some ks =>
    dsimp only
    by_cases ha : ∃ xs, a = .agg xs
    · obtain ⟨xs, rfl⟩ := ha
      by_cases hb : ∃ ys, b = .agg ys
      · obtain ⟨ys, rfl⟩ := hb
        show @Bool.rec (fun _ => Option Value) (binS op t x y cx h (.agg xs) (.agg ys)) (some (.bool (eqL xs.toList ys.toList))) (mtB ks xs.toList ys.toList) = _
        cases hm : mtB ks xs.toList ys.toList with
        | false => rfl
        | true => exact (eqS_ok hs h hm).symm
      · exact aggC_not (fun ys e => hb ⟨ys, e⟩) _ _
    · exact aggC_not (fun xs e => ha ⟨xs, e⟩) _ _
noncomputable def kBin (op : BinOp) (t : Nat) (x y : Operand) (_ : Nat) (cx : Cx) (_ : CallFn) (tm : Tr Value) (h : Heap) : R1 :=
  bndV (evG x tm) (fun a => bndV (evG y tm) (fun b => valG (intC a (fun k m => intC b (fun k' n => intAll op k k' m n) (binS op t x y cx h a b)) (binT op t x y cx h a b)) h))
theorem intC_int (k : IntKind) (n : Int) (f : IntF) (d : Option Value) : intC (.int k n) f d = f k n := rfl
theorem intC_not {v : Value} (hv : ∀ k n, v ≠ .int k n) (f : IntF) (d : Option Value) : intC v f d = d := by
  cases v <;> first | rfl | exact absurd rfl (hv _ _)
theorem binG_eq (op : BinOp) (t : Nat) (x y : Operand) (cx : Cx) (h : Heap) (a b : Value) :
    intC a (fun k m => intC b (fun k' n => intAll op k k' m n) (binS op t x y cx h a b)) (binT op t x y cx h a b) = binS op t x y cx h a b := by
  rw [binT_eq]
  by_cases ha : ∃ k m, a = .int k m
  · obtain ⟨k, m, rfl⟩ := ha
    rw [intC_int]
    by_cases hb : ∃ k m, b = .int k m
    · obtain ⟨k', n, rfl⟩ := hb
      rw [intC_int, intAll_eq cx h op t k k' m n]
      rfl
    · exact intC_not (fun k n e => hb ⟨k, n, e⟩) _ _
  · exact intC_not (fun k n e => ha ⟨k, n, e⟩) _ _
theorem kBin_eq (op : BinOp) (t : Nat) (x y : Operand) (u : Nat) (cx : Cx) (cf : CallFn) (tm : Tr Value) (h : Heap) : kBin op t x y u cx cf tm h = opE cx cf tm h (.binOp op t x y u) := by
  simp only [kBin, opE, evG_eq, binG_eq, valG_eq]
  cases ev tm x with
  | none => rfl
  | some a => cases ev tm y with
    | none => rfl
    | some b =>
      show val (binS op t x y cx h a b) h = _
      unfold binS
      cases hg : guardE x y a <;> simp only [hg] <;> rfl

noncomputable def convS (cx : Cx) (s d : Nat) : Option IntKind := match cx.ty s, cx.ty d with
  | some si, some di => match si.d, di.d with
    | .int _, .int k => some k
    | _, _ => none
  | _, _ => none
noncomputable def convI (k : IntKind) (n : Int) : Option Value := @Int.rec (fun _ => Option Value) (fun m => some (.int k (wrapN k m))) (fun _ => some (.int k (k.wrap n))) n
noncomputable def convG (s d : Nat) (cx : Cx) (h : Heap) (a : Value) : Option Value :=
  @Option.rec IntKind (fun _ => Option Value) (convertE cx h s d a) (fun k => intC a (fun _ n => convI k n) (convertE cx h s d a)) (convS cx s d)
theorem convG_eq (s d : Nat) (cx : Cx) (h : Heap) (a : Value) : convG s d cx h a = convertE cx h s d a := by
  unfold convG convS
  cases hs : cx.ty s with
  | none => rfl
  | some si => cases hd : cx.ty d with
    | none => rfl
    | some di =>
      by_cases ha : ∃ k m, a = .int k m
      · obtain ⟨k', m, rfl⟩ := ha
        unfold convertE
        rw [hs, hd]
        cases e1 : si.d <;> cases e2 : di.d <;> simp only [e1, e2] <;> try rfl
        rename_i k0 k
        show convI k m = _
        cases m with
        | ofNat m => show some (Value.int k (wrapN k m)) = _; rw [wrapN_eq]
        | negSucc m => rfl
      · cases e1 : si.d <;> cases e2 : di.d <;> simp only [e1, e2] <;> first | rfl | exact intC_not (fun k n e => ha ⟨k, n, e⟩) _ _
noncomputable def kConv (s d : Nat) (x : Operand) (cx : Cx) (_ : CallFn) (tm : Tr Value) (h : Heap) : R1 := bndV (evG x tm) (fun a => valG (convG s d cx h a) h)
theorem kConv_eq (s d : Nat) (x : Operand) (cx : Cx) (cf : CallFn) (tm : Tr Value) (h : Heap) : kConv s d x cx cf tm h = opE cx cf tm h (.convert s d x) := by
  simp only [kConv, opE, evG_eq, convG_eq, valG_eq]
  cases ev tm x <;> rfl

/-! ### Addresses of parts -/
noncomputable def addV (a : Addr) (o : Nat) : Option Value :=
  @Bool.rec (fun _ => Option Value) (@Addr.rec (fun _ => Option Value) (fun b off _ => natK (fun o' => some (.pointer (some ⟨b, o', none⟩))) (Nat.add off o)) a) (some (.pointer (some a))) (Nat.beq o 0)
theorem addV_eq (a : Addr) (o : Nat) : addV a o = match Nat.beq o 0 with
          | true => some (.pointer (some a))
          | false => some (.pointer (some ⟨a.block, a.off + o, none⟩)) := by
  unfold addV
  cases Nat.beq o 0 with
  | true => rfl
  | false =>
    show natK (fun o' => some (Value.pointer (some ⟨a.block, o', none⟩))) (a.off + o) = _
    rw [natK_eq]

noncomputable def offS (cx : Cx) (t f : Nat) : Option Nat := match cx.ty t with
  | some i => match i.d with
    | .struct fs => match fieldAt fs.toList f with
      | some f => match cx.ty f.type with
        | some j => match Nat.beq j.size 0 with
          | true => none
          | false => some f.offset
        | none => none
      | none => none
    | _ => none
  | none => none
noncomputable def faG (t f : Nat) (cx : Cx) (v : Value) : Option Value :=
  @Option.rec Addr (fun _ => Option Value) none (fun a => @Option.rec Nat (fun _ => Option Value) none (addV a) (offS cx t f)) (ptrV v)
theorem faG_eq (t f : Nat) (cx : Cx) (v : Value) : faG t f cx v = fieldAddrE cx t v f := by
  by_cases hv : ∃ a, v = .pointer (some a)
  · obtain ⟨a, rfl⟩ := hv
    show @Option.rec Nat (fun _ => Option Value) none (addV a) (offS cx t f) = _
    unfold offS fieldAddrE
    cases cx.ty t with
    | none => rfl
    | some i =>
      dsimp only
      cases i.d <;> try rfl
      rename_i fs
      dsimp only
      cases fieldAt fs.toList f with
      | none => rfl
      | some f =>
        dsimp only
        cases cx.ty f.type with
        | none => rfl
        | some j =>
          dsimp only
          cases Nat.beq j.size 0 with
          | true => rfl
          | false => exact addV_eq a f.offset
  · have e : ptrV v = none := by
      cases h : ptrV v with
      | none => rfl
      | some a => exact absurd ⟨a, ptrV_eq h⟩ hv
    unfold faG
    rw [e]
    unfold fieldAddrE
    cases cx.ty t with
    | none => rfl
    | some i => cases v <;> first | rfl | (rename_i a; cases a <;> first | rfl | exact absurd ⟨_, rfl⟩ hv)
noncomputable def kFA (t : Nat) (x : Operand) (f : Nat) (cx : Cx) (_ : CallFn) (tm : Tr Value) (h : Heap) : R1 := bndV (evG x tm) (fun v => valG (faG t f cx v) h)
theorem kFA_eq (t : Nat) (x : Operand) (f : Nat) (cx : Cx) (cf : CallFn) (tm : Tr Value) (h : Heap) : kFA t x f cx cf tm h = opE cx cf tm h (.fieldAddr t x f) := by
  simp only [kFA, opE, evG_eq, faG_eq, valG_eq]
  cases ev tm x <;> rfl

inductive Ia where
  | no
  | arr (n size : Nat)
  | sl (size : Nat)
noncomputable def iaS (cx : Cx) (t : Nat) : Ia := match cx.ty t with
  | some i => match i.d with
    | .array n e => match cx.ty e with
      | some j => .arr n j.size
      | none => .no
    | .slice e => match cx.ty e with
      | some j => .sl j.size
      | none => .no
    | _ => .no
  | none => .no
noncomputable def iaI (a : Addr) (n size : Nat) : Int → Option Value := @Int.rec (fun _ => Option Value)
  (fun m => @Bool.rec (fun _ => Option Value) none (addV a (Nat.mul m size)) (Nat.ble (Nat.succ m) n)) (fun _ => none)
noncomputable def iaG : Ia → Value → Int → Option Value := @Ia.rec (fun _ => Value → Int → Option Value) (fun _ _ => none)
  (fun n size v i => @Option.rec Addr (fun _ => Option Value) none (fun a => iaI a n size i) (ptrV v))
  (fun size v i => sliceC v (fun a n _ => @Option.rec Addr (fun _ => Option Value) none (fun a => iaI a n size i) a) none)
theorem iaI_eq (a : Addr) (n size : Nat) (i : Int) : iaI a n size i = match decide (0 ≤ i), Nat.blt i.toNat n with
      | true, true => match Nat.beq (i.toNat * size) 0 with
        | true => some (.pointer (some a))
        | false => some (.pointer (some ⟨a.block, a.off + i.toNat * size, none⟩))
      | _, _ => none := by
  cases i with
  | negSucc m => rfl
  | ofNat m =>
    have e : decide (0 ≤ Int.ofNat m) = true := decide_eq_true (Int.natCast_nonneg m)
    rw [e]
    show @Bool.rec (fun _ => Option Value) none (addV a (m * size)) (Nat.ble (m + 1) n) = match true, Nat.ble (m + 1) n with
      | true, true => _
      | _, _ => _
    cases Nat.ble (m + 1) n with
    | false => rfl
    | true => exact addV_eq a (m * size)
theorem iaG_eq (t : Nat) (cx : Cx) (v : Value) (k : IntKind) (i : Int) : iaG (iaS cx t) v i = indexAddrE cx t v (.int k i) := by
  unfold iaS indexAddrE
  cases cx.ty t with
  | none => rfl
  | some ti =>
    dsimp only
    cases ti.d <;> try rfl
    · rename_i e
      dsimp only
      cases v <;> first | (cases cx.ty e <;> rfl) | skip
      rename_i a n c
      cases a with
      | none => cases cx.ty e <;> rfl
      | some a =>
        dsimp only
        cases hj : cx.ty e with
        | none => cases decide (0 ≤ i) <;> cases Nat.blt i.toNat n <;> rfl
        | some j =>
          show iaI a n j.size i = _
          rw [iaI_eq]
          cases decide (0 ≤ i) <;> cases Nat.blt i.toNat n <;> rfl
    · rename_i n e
      dsimp only
      cases v <;> first | (cases cx.ty e <;> rfl) | skip
      rename_i a
      cases a with
      | none => cases cx.ty e <;> rfl
      | some a =>
        dsimp only
        cases hj : cx.ty e with
        | none => cases decide (0 ≤ i) <;> cases Nat.blt i.toNat n <;> rfl
        | some j =>
          show iaI a n j.size i = _
          rw [iaI_eq]
          cases decide (0 ≤ i) <;> cases Nat.blt i.toNat n <;> rfl
noncomputable def kIA (t : Nat) (x i : Operand) (cx : Cx) (_ : CallFn) (tm : Tr Value) (h : Heap) : R1 :=
  bndV (evG x tm) (fun v => bndV (evG i tm) (fun iv => valG (intC iv (fun _ n => iaG (iaS cx t) v n) none) h))
theorem kIA_eq (t : Nat) (x i : Operand) (cx : Cx) (cf : CallFn) (tm : Tr Value) (h : Heap) : kIA t x i cx cf tm h = opE cx cf tm h (.indexAddr t x i) := by
  simp only [kIA, opE, evG_eq, valG_eq]
  cases ev tm x with
  | none => rfl
  | some v => cases ev tm i with
    | none => rfl
    | some iv =>
      show val (intC iv (fun _ n => iaG (iaS cx t) v n) none) h = val (indexAddrE cx t v iv) h
      by_cases hv : ∃ k m, iv = .int k m
      · obtain ⟨k, m, rfl⟩ := hv
        rw [intC_int, iaG_eq t cx v k m]
      · rw [intC_not (fun k n e => hv ⟨k, n, e⟩)]
        unfold indexAddrE
        cases cx.ty t with
        | none => rfl
        | some ti => cases iv <;> first | rfl | exact absurd ⟨_, _, rfl⟩ hv

/-! ### What makes blocks -/
noncomputable def addG (v : Nat → Value) (o : Obj) (h : Heap) : R1 :=
  natK (fun n => some (.val (v n), ⟨sO (pathOf n) (some o) (Heap.tr h), Nat.succ n, ⟨n, 0, unk⟩ :: Heap.dt h⟩)) (Heap.nx h)
theorem addG_eq (v : Nat → Value) (o : Obj) (h : Heap) : addG v o h = some (.val (v h.nx), h.add o) := by
  unfold addG
  rw [natK_eq, sO_eq]
  rfl

noncomputable def lgetG : List Value → Nat → Value := @List.rec Value (fun _ => Nat → Value) (fun _ => undef) (fun v _ ih => @Nat.rec (fun _ => Value) v (fun m _ => ih m))
theorem lgetG_eq : ∀ (l : List Value) (n : Nat), lgetG l n = lget l n
  | [], n => by simp [lget]; rfl
  | v :: l, 0 => by simp [lget]; rfl
  | v :: l, n + 1 => by
    show lgetG l n = _
    rw [lgetG_eq l n]; simp [lget]

noncomputable def argsG : List Value → Nat → Tr Value → Tr Value := @List.rec Value (fun _ => Nat → Tr Value → Tr Value) (fun _ t => t) (fun v _ ih i t => ih (Nat.succ i) (sV (pathOf i) (some v) t))
theorem argsG_eq : ∀ (l : List Value) (i : Nat) (t : Tr Value), argsG l i t = argsT i l t
  | [], i, t => by simp [argsT]; rfl
  | v :: l, i, t => by
    show argsG l (i + 1) (sV (pathOf i) (some v) t) = _
    rw [argsG_eq l, sV_eq]; simp [argsT]
theorem argsT_at : ∀ (l : List Value) (i : Nat) (t : Tr Value) (k : Nat), (argsT i l t).get k = if i ≤ k then (match l[k - i]? with
    | some v => some v
    | none => t.get k) else t.get k
  | [], i, t, k => by simp [argsT]
  | v :: l, i, t, k => by
    simp only [argsT]
    rw [argsT_at l (i + 1), Tr.get_set]
    by_cases h1 : i + 1 ≤ k
    · have e : k - i = (k - (i + 1)) + 1 := by omega
      have h2 : k ≠ i := by omega
      have h3 : i ≤ k := by omega
      simp [h1, h2, h3, e]
    · by_cases h2 : k = i
      · subst h2; simp [h1]
      · have h3 : ¬ i ≤ k := by omega
        simp [h1, h2, h3]
theorem lget_getD : ∀ (l : List Value) (i : Nat), lget l i = match l[i]? with
    | some v => v
    | none => undef
  | [], i => by simp [lget]
  | v :: l, 0 => by simp [lget]
  | v :: l, i + 1 => by
    have := lget_getD l i
    simp only [lget]
    rw [this]; simp

/-- What the cells of a list are, by a tree. -/
noncomputable def treeB (cs : List Value) (i : Nat) : Value := rowG (fun _ => undef) (argsG cs 0 .nil) i
theorem treeB_eq (cs : List Value) (i : Nat) : treeB cs i = lget cs i := by
  unfold treeB
  rw [rowG_eq, argsG_eq]
  unfold rowAt
  rw [argsT_at, lget_getD]
  simp only [Nat.zero_le, if_true, Nat.sub_zero]
  cases cs[i]? <;> rfl

noncomputable def sameQ (cs : List Value) (n : Nat) : Bool := match Nat.ble n 256 with
  | true => false
  | false => match cs with
    | [] => false
    | v :: _ => allSame v cs
theorem mkRow_lget {cs : List Value} {n elem esz : Nat} (h : sameQ cs n = false) : mkRow cs n elem esz = .row n (lget cs) .nil elem esz false := by
  unfold sameQ at h
  unfold mkRow
  cases hn : Nat.ble n 256 with
  | true => rfl
  | false =>
    rw [hn] at h
    cases cs with
    | nil => rfl
    | cons v l =>
      dsimp only at h ⊢
      rw [h]
noncomputable def mkRowG (cs : List Value) (n elem esz : Nat) : Obj := match sameQ cs n with
  | true => mkRow cs n elem esz
  | false => .row n (lgetG cs) .nil elem esz false
noncomputable def mkRowT (cs : List Value) (n elem esz : Nat) : Obj := match sameQ cs n with
  | true => mkRow cs n elem esz
  | false => .row n (treeB cs) .nil elem esz false
theorem mkRowG_eq (cs : List Value) (n elem esz : Nat) : mkRowG cs n elem esz = mkRow cs n elem esz := by
  unfold mkRowG
  cases h : sameQ cs n with
  | true => rfl
  | false => rw [mkRow_lget h, show lgetG cs = lget cs from funext (lgetG_eq cs)]
theorem mkRowT_eq (cs : List Value) (n elem esz : Nat) : mkRowT cs n elem esz = mkRow cs n elem esz := by
  unfold mkRowT
  cases h : sameQ cs n with
  | true => rfl
  | false => rw [mkRow_lget h, show treeB cs = lget cs from funext (treeB_eq cs)]

noncomputable def rowS (cx : Cx) (t : Nat) : Option Obj := match cx.ty t with
    | some i => some (mkRowT i.zero.cells.toList i.zero.cells.size t 0)
    | none => none
noncomputable def kAlloc (t : Nat) (cx : Cx) (_ : CallFn) (_ : Tr Value) (h : Heap) : R1 :=
  @Option.rec Obj (fun _ => R1) none (fun o => addG (fun n => .pointer (some ⟨n, 0, none⟩)) o h) (rowS cx t)
theorem kAlloc_eq (t : Nat) (cx : Cx) (cf : CallFn) (tm : Tr Value) (h : Heap) : kAlloc t cx cf tm h = opE cx cf tm h (.alloc t) := by
  simp only [kAlloc, opE, makeE, rowS, mkRowT_eq, addG_eq]
  cases cx.ty t <;> rfl

noncomputable def kBox (t : Nat) (x : Operand) (_ : Cx) (_ : CallFn) (tm : Tr Value) (h : Heap) : R1 :=
  bndV (evG x tm) (fun v => addG (fun n => .pointer (some ⟨n, 0, none⟩)) (mkRowG v.cells.toList v.cells.size t 0) h)
theorem kBox_eq (t : Nat) (x : Operand) (cx : Cx) (cf : CallFn) (tm : Tr Value) (h : Heap) : kBox t x cx cf tm h = opE cx cf tm h (.box t x) := by
  simp only [kBox, opE, makeE, evG_eq, mkRowG_eq, addG_eq]
  cases ev tm x <;> rfl

noncomputable def kMake (o : Op) (cx : Cx) (_ : CallFn) (tm : Tr Value) (h : Heap) : R1 := match makeE cx tm h o with
    | some (v, b) => some (.val v, h.add b)
    | none => none

/-! ### Calls -/
noncomputable def finC : Option (Fin × Heap) → R1 := @Option.rec (Fin × Heap) (fun _ => R1) none
  (fun p => @Prod.rec Fin Heap (fun _ => R1) (fun r h => @Fin.rec (fun _ => R1) (fun v => some (.val v, h)) (fun c => some (.pan c, h)) r) p)
noncomputable def kVal (cf : CallFn) (h : Heap) (f : Value) (args : List Value) : R1 := match target f args with
        | some (g, args) => match cf g args h with
          | some (.ret v, h') => some (.val v, h')
          | some (.pan chain, h') => some (.pan chain, h')
          | none => none
        | none => none
noncomputable def calS (f : Operand) (l : List Operand) (cf : CallFn) (tm : Tr Value) (h : Heap) : R1 := match ev tm f, evs tm l with
      | some f, some args => kVal cf h f args
      | _, _ => none
noncomputable def calG (l : List Operand) (f : Operand) (cf : CallFn) (tm : Tr Value) (h : Heap) : R1 :=
  @Operand.rec (fun _ => R1) (fun t => calS (.tmp t) l cf tm h) (fun v => calS (.const v) l cf tm h) (fun g => calS (.global g) l cf tm h)
    (fun g => @Option.rec (List Value) (fun _ => R1) none (fun args => finC (cf g args h)) (evsG tm l)) f
theorem finC_eq (r : Option (Fin × Heap)) : finC r = match r with
          | some (.ret v, h') => some (.val v, h')
          | some (.pan chain, h') => some (.pan chain, h')
          | none => none := by
  cases r with
  | none => rfl
  | some p => obtain ⟨r, h⟩ := p; cases r <;> rfl
theorem calG_eq (f : Operand) (l : List Operand) (cf : CallFn) (tm : Tr Value) (h : Heap) : calG l f cf tm h = calS f l cf tm h := by
  cases f
  case func g =>
    show @Option.rec (List Value) (fun _ => R1) none (fun args => finC (cf g args h)) (evsG tm l) = _
    simp only [evsG_eq, calS, ev, kVal, target]
    cases evs tm l with
    | none => rfl
    | some args =>
      simp only [finC_eq]
      have e : (#[] : Array Value).toList ++ args ++ (#[] : Array Value).toList = args := by simp
      rw [e]
  all_goals rfl

noncomputable def isSlS (cx : Cx) (t : Nat) : Bool := match cx.ty t with
  | some i => match i.d with
    | .slice _ => true
    | _ => false
  | none => false
/-- The operand of a slice's len. -/
noncomputable def lenS (cx : Cx) (b : Builtin) (l : List Operand) (ts : List Nat) : Option Operand := match b, l, ts with
  | .len, [x], [t] => match isSlS cx t with
    | true => some x
    | false => none
  | _, _, _ => none
noncomputable def buiS (cx : Cx) (h : Heap) (b : Builtin) (l : List Operand) (ts : List Nat) (tm : Tr Value) : R1 := match evs tm l with
      | some args => builtinE cx h b ts args
      | none => none
noncomputable def buiG (cx : Cx) (h : Heap) (b : Builtin) (l : List Operand) (ts : List Nat) (tm : Tr Value) : R1 :=
  @Option.rec Operand (fun _ => R1) (buiS cx h b l ts tm) (fun x => @Option.rec Value (fun _ => R1) none
    (fun v => @Option.rec Value (fun _ => R1) (buiS cx h b l ts tm) (fun r => some (.val r, h)) (sliceC v (fun _ n _ => some (.int .i64 (Int.ofNat n))) none)) (evG x tm)) (lenS cx b l ts)
theorem buiG_eq (cx : Cx) (h : Heap) (b : Builtin) (l : List Operand) (ts : List Nat) (tm : Tr Value) : buiG cx h b l ts tm = buiS cx h b l ts tm := by
  unfold buiG
  cases hs : lenS cx b l ts with
  | none => rfl
  | some x =>
    have hb : b = .len ∧ l = [x] ∧ ∃ t, ts = [t] ∧ isSlS cx t = true := by
      unfold lenS at hs
      split at hs
      · rename_i x' t
        cases ht : isSlS cx t with
        | false => rw [ht] at hs; cases hs
        | true => rw [ht] at hs; cases hs; exact ⟨rfl, rfl, t, rfl, ht⟩
      · cases hs
    obtain ⟨rfl, rfl, t, rfl, ht⟩ := hb
    show @Option.rec Value (fun _ => R1) none _ (evG x tm) = _
    rw [evG_eq]
    cases hv : ev tm x with
    | none => simp [buiS, evs, hv]
    | some v =>
      cases v <;> try rfl
      rename_i a n c
      show some (Out.val (.int .i64 (Int.ofNat n)), h) = _
      simp only [buiS, evs, hv, builtinE, lenOp]
      unfold isSlS at ht
      cases hi : cx.ty t with
      | none => rw [hi] at ht; cases ht
      | some i =>
        rw [hi] at ht
        cases hd : i.d <;> simp only [hd] at ht ⊢ <;> first | rfl | cases ht

noncomputable def kCall (c : Call) (cx : Cx) (cf : CallFn) (tm : Tr Value) (h : Heap) : R1 :=
  @Callee.rec (fun _ => R1) (fun f => calG c.args.toList f cf tm h) (fun _ _ => none) (fun b => buiG cx h b c.args.toList c.argTypes.toList tm) c.callee
theorem kCall_eq (c : Call) (cx : Cx) (cf : CallFn) (tm : Tr Value) (h : Heap) : kCall c cx cf tm h = opE cx cf tm h (.call c) := by
  obtain ⟨ce, args, ts⟩ := c
  cases ce with
  | value f => show calG args.toList f cf tm h = _; rw [calG_eq]; rfl
  | invoke a b => rfl
  | builtin b => show buiG cx h b args.toList ts.toList tm = _; rw [buiG_eq]; rfl

/-! ### The others -/
noncomputable def kBuild (t : Nat) (ps : Array (Nat × Operand)) (cx : Cx) (_ : CallFn) (tm : Tr Value) (h : Heap) : R1 := match evParts tm ps.toList with
    | some l => val (buildE cx t l) h
    | none => none
noncomputable def kUn (op : UnOp) (_ : Nat) (x : Operand) (_ : Cx) (_ : CallFn) (tm : Tr Value) (h : Heap) : R1 := match ev tm x with
    | some a => val (unE op a) h
    | none => none
noncomputable def kMkI (t : Nat) (x : Operand) (cx : Cx) (_ : CallFn) (tm : Tr Value) (h : Heap) : R1 := match cx.ty t, ev tm x with
    | some i, some v => match i.d with
      | .interface _ => none
      | _ => some (.val (.iface t v), h)
    | _, _ => none
noncomputable def kMkF (fn : Fn) (a b : Array Operand) (_ : Cx) (_ : CallFn) (tm : Tr Value) (h : Heap) : R1 := match evs tm a.toList, evs tm b.toList with
    | some a, some b => some (.val (.func fn a.toArray b.toArray), h)
    | _, _ => none
noncomputable def kUpd (t : Nat) (m k v : Operand) (cx : Cx) (_ : CallFn) (tm : Tr Value) (h : Heap) : R1 := match ev tm m, ev tm k, ev tm v with
    | some m, some k, some v => skp (updateE cx h t m k v)
    | _, _, _ => none
noncomputable def kSlice (t : Nat) (x : Operand) (lo hi mx : Option Operand) (cx : Cx) (_ : CallFn) (tm : Tr Value) (h : Heap) : R1 := match ev tm x, evO tm lo, evO tm hi, evO tm mx with
    | some x, some lo, some hi, some mx => val (sliceE cx h t x lo hi mx) h
    | _, _, _, _ => none
noncomputable def kField (t : Nat) (x : Operand) (f : Nat) (cx : Cx) (_ : CallFn) (tm : Tr Value) (h : Heap) : R1 := match ev tm x with
    | some x => val (fieldE cx t x f) h
    | none => none
noncomputable def kIndex (t : Nat) (x i : Operand) (cx : Cx) (_ : CallFn) (tm : Tr Value) (h : Heap) : R1 := match ev tm x, ev tm i with
    | some x, some i => val (indexE cx t x i) h
    | _, _ => none
noncomputable def kLookup (t : Nat) (x i : Operand) (ok : Bool) (cx : Cx) (_ : CallFn) (tm : Tr Value) (h : Heap) : R1 := match ev tm x, ev tm i with
    | some x, some i => val (lookupE cx h t x i ok) h
    | _, _ => none
noncomputable def kTA (x : Operand) (_ : Nat) (want : Nat) (ok : Bool) (cx : Cx) (_ : CallFn) (tm : Tr Value) (h : Heap) : R1 := match ev tm x with
    | some x => val (assertE cx x want ok) h
    | none => none
noncomputable def tupV : Value → Option (List Value) := @Value.rec (fun _ => Option (List Value)) (fun _ => Unit) (fun _ => Unit)
  (fun _ => none) (fun _ _ => none) (fun _ _ => none) (fun _ _ _ => none) (fun _ => none) (fun _ => none) (fun _ _ _ => none) (fun _ => none) (fun _ => none)
  (fun _ _ _ _ _ => none) none (fun _ _ _ => none) none (fun _ _ => none) (fun a _ => some a.toList) (fun _ _ => ()) () (fun _ _ _ _ => ())
noncomputable def tupG : Nat → List Value → Option Value := @Nat.rec (fun _ => List Value → Option Value) (@List.rec Value (fun _ => Option Value) none (fun v _ _ => some v)) (fun _ ih => @List.rec Value (fun _ => Option Value) none (fun _ l _ => ih l))
theorem tupG_eq : ∀ (n : Nat) (l : List Value), tupG n l = tupAt l n
  | 0, [] => by simp [tupAt]; rfl
  | 0, v :: l => by simp [tupAt]; rfl
  | n + 1, [] => by simp [tupAt]; rfl
  | n + 1, v :: l => by
    show tupG n l = _
    rw [tupG_eq n l]; simp [tupAt]
noncomputable def kExt (t : Operand) (i : Nat) (_ : Cx) (_ : CallFn) (tm : Tr Value) (h : Heap) : R1 :=
  bndV (evG t tm) (fun v => @Option.rec (List Value) (fun _ => R1) none (fun l => valG (tupG i l) h) (tupV v))
theorem kExt_eq (t : Operand) (i : Nat) (cx : Cx) (cf : CallFn) (tm : Tr Value) (h : Heap) : kExt t i cx cf tm h = opE cx cf tm h (.extract t i) := by
  simp only [kExt, opE, evG_eq, tupG_eq, valG_eq]
  cases ev tm t with
  | none => rfl
  | some v => cases v <;> rfl
noncomputable def kOth (o : Op) (cx : Cx) (cf : CallFn) (tm : Tr Value) (h : Heap) : R1 := opE cx cf tm h o

noncomputable def disp : Op → K := @Op.rec (fun _ => K)
  kMove kMove kPick kAlloc kBox kBuild (fun a b c => kMake (.buildSlice a b c)) kUpd
  kLoad kStore (fun a => kOth (.ready a)) (fun a => kOth (.waits a)) kNil kBin kUn kConv (fun a b => kOth (.sliceToArrayPointer a b)) kMkI kMkF
  (fun a b => kMake (.makeMap a b)) (fun a b => kMake (.makeChan a b)) (fun a b c => kMake (.makeSlice a b c)) kSlice kFA kField kIA kIndex kLookup
  kUpd (fun a b c => kOth (.mapEntry a b c)) (fun a b c d => kOth (.entryStore a b c d)) (fun a b => kOth (.range a b)) (fun a b => kOth (.next a b)) (fun a => kOth (.entry a)) kTA
  kExt kCall (fun a => kOth (.go a)) (fun a => kOth (.defer a)) (fun a => kOth (.panic a)) (fun a b => kOth (.send a b)) (fun a b c => kOth (.recv a b c)) (fun a b => kOth (.select a b))

theorem disp_eq (o : Op) (cx : Cx) (cf : CallFn) (tm : Tr Value) (h : Heap) : disp o cx cf tm h = opE cx cf tm h o := by
  cases o
  case move x => exact kMove_eq x cx cf tm h
  case assign x => exact kMove_eq x cx cf tm h
  case pick c a b => exact kPick_eq c a b cx cf tm h
  case alloc t => exact kAlloc_eq t cx cf tm h
  case box t x => exact kBox_eq t x cx cf tm h
  case load t a => exact kLoad_eq t a cx cf tm h
  case store t a x => exact kStore_eq t a x cx cf tm h
  case nilCheck x => exact kNil_eq x cx cf tm h
  case binOp op t x y u => exact kBin_eq op t x y u cx cf tm h
  case convert s d x => exact kConv_eq s d x cx cf tm h
  case fieldAddr t x f => exact kFA_eq t x f cx cf tm h
  case indexAddr t x i => exact kIA_eq t x i cx cf tm h
  case extract t i => exact kExt_eq t i cx cf tm h
  case call c => exact kCall_eq c cx cf tm h
  all_goals rfl

end Go.Em

/-
  Quick forms of the evaluator's statements, in the text's order and open ones.
-/
namespace Go.Em

/-! ### Is an operation wanted? -/
noncomputable def guS (ops : List Oper) (j : Nat) : Option Nat := match operAt ops j with
  | some g => g.dst
  | none => none
noncomputable def eqB (b want : Bool) : Bool := @Bool.rec (fun _ => Bool) (@Bool.rec (fun _ => Bool) true false want) want b
noncomputable def tupS (v : Value) : Option Bool := match v with
  | .tuple _ => some false
  | _ => none
noncomputable def wantF (ops : List Oper) (tm : Tr Value) (j : Nat) (want : Bool) : Option Bool :=
  @Option.rec Nat (fun _ => Option Bool) none (fun d => @Option.rec Value (fun _ => Option Bool) none (fun v => @Option.rec Bool (fun _ => Option Bool) (tupS v) (fun b => some (eqB b want)) (boolV v)) (gV (pathOf d) tm)) (guS ops j)
noncomputable def wantG (o : Oper) (ops : List Oper) (tm : Tr Value) : Option Bool :=
  @Option.rec (Nat × Bool) (fun _ => Option Bool) (some true) (fun p => wantF ops tm p.1 p.2) o.guard
theorem eqB_eq (b want : Bool) : eqB b want = (b == want) := by cases b <;> cases want <;> rfl
theorem wantG_eq (o : Oper) (ops : List Oper) (tm : Tr Value) : wantG o ops tm = wantE ops tm o := by
  unfold wantG wantE
  cases o.guard with
  | none => rfl
  | some p =>
    obtain ⟨j, want⟩ := p
    show wantF ops tm j want = _
    unfold wantF guS
    simp only [gV_eq, eqB_eq]
    cases operAt ops j with
    | none => rfl
    | some g =>
      dsimp only
      cases g.dst with
      | none => rfl
      | some d =>
        dsimp only
        cases tm.get d with
        | none => rfl
        | some v => cases v <;> rfl

noncomputable def putG (tm : Tr Value) (dst : Option Nat) (v : Value) : Tr Value := @Option.rec Nat (fun _ => Tr Value) tm (fun d => sV (pathOf d) (some v) tm) dst
theorem putG_eq (tm : Tr Value) (dst : Option Nat) (v : Value) : putG tm dst v = putT tm dst v := by
  cases dst with
  | none => rfl
  | some d => exact sV_eq d (some v) tm

/-! ### What can be told of an open statement ahead -/
noncomputable def masksS : List Oper → Nat → Tr Nat → Option (List Nat)
  | [], _, _ => some []
  | o :: l, i, ms => match maskE ms i o.after.toList with
    | none => none
    | some m => match masksS l (i + 1) (ms.set i (some m)) with
      | none => none
      | some r => some (m :: r)

/-- It looks at no memory. -/
noncomputable def pureO : Op → Bool
  | .load _ _ => false
  | .lookup _ _ _ _ => false
  | .slice _ _ _ _ _ => false
  | .convert _ _ _ => false
  | .call _ => false
  | _ => true

noncomputable def kindS (a b : Op) : Bool := match isEff a, isEff b with
  | true, true => false
  | true, false => isMake b || pureO b
  | false, true => isMake a || pureO a
  | false, false => true

noncomputable def pairS (all : List Oper) (i : Nat) (x y : Oper) (my : Nat) : Bool := match Nat.testBit my i with
  | true => match x.dst, y.dst with
    | some a, some b => !Nat.beq a b
    | _, _ => true
  | false => (match x.dst with
      | some d => !memN d (reads all y) && (match y.dst with
        | some e => !Nat.beq d e
        | none => true)
      | none => true) &&
    (match y.dst with
      | some d => !memN d (reads all x)
      | none => true) && kindS x.op y.op

noncomputable def pairsS (all : List Oper) (y : Oper × Nat) : Nat → List (Oper × Nat) → Bool
  | _, [] => true
  | 0, _ :: _ => false
  | i + 1, x :: l => match pairS all i x.1 y.1 y.2 with
    | true => pairsS all y i l
    | false => false

noncomputable def traceS (all : List Oper) : Nat → List (Oper × Nat) → Bool
  | _, [] => true
  | 0, _ :: _ => false
  | i + 1, y :: l => match pairsS all y i l with
    | true => traceS all i l
    | false => false

/-- What an operation came to is of its kind. -/
def GoodK (o : Op) : Kd → Prop
  | .eff .. => isEff o = true
  | .pan .. => False
  | .lod .. => isEff o = false ∧ isMake o = false ∧ pureO o = false
  | _ => True

theorem pairS_ok {all : List Oper} {i : Nat} {x y : Sn} (h : pairS all i x.o y.o y.mask = true) (hx : GoodK x.o.op x.kd) (hy : GoodK y.o.op y.kd) : pairOk all i x y = true := by
  unfold pairS at h
  unfold pairOk
  cases ht : Nat.testBit y.mask i with
  | true => rw [ht] at h; exact h
  | false =>
    rw [ht] at h
    simp only [Bool.and_eq_true] at h ⊢
    refine ⟨h.1, ?_⟩
    have hk := h.2
    unfold kindS at hk
    cases ex : x.kd <;> cases ey : y.kd <;> simp only [ex, ey, GoodK] at hx hy ⊢ <;> first | rfl | exact hx.elim | exact hy.elim | skip
    · simp [hx.1, hx.2.1, hx.2.2, hy] at hk
    · simp [hy.1, hy.2.1, hy.2.2, hx] at hk
    · simp [hx, hy] at hk

theorem pairsS_ok {all : List Oper} {y : Sn} (hy : GoodK y.o.op y.kd) : ∀ (n : Nat) (l : List Sn), (∀ s ∈ l, GoodK s.o.op s.kd) →
    pairsS all (y.o, y.mask) n (l.map fun s => (s.o, s.mask)) = true → pairsOk all y n l = true
  | _, [], _, _ => by simp [pairsOk]
  | 0, _ :: _, _, h => by simp [pairsS] at h
  | n + 1, x :: l, hl, h => by
    simp only [List.map_cons, pairsS] at h
    simp only [pairsOk]
    cases hp : pairS all n x.o y.o y.mask with
    | false => rw [hp] at h; exact Bool.noConfusion h
    | true =>
      rw [hp] at h
      rw [pairS_ok hp (hl x (by simp)) hy]
      exact pairsS_ok hy n l (fun s hs => hl s (by simp [hs])) h

theorem traceS_ok {all : List Oper} : ∀ (n : Nat) (l : List Sn), (∀ s ∈ l, GoodK s.o.op s.kd) → traceS all n (l.map fun s => (s.o, s.mask)) = true → traceOk all n l = true
  | _, [], _, _ => by simp [traceOk]
  | 0, _ :: _, _, h => by simp [traceS] at h
  | n + 1, y :: l, hl, h => by
    simp only [List.map_cons, traceS] at h
    simp only [traceOk]
    cases hp : pairsS all (y.o, y.mask) n (l.map fun s => (s.o, s.mask)) with
    | false => rw [hp] at h; exact Bool.noConfusion h
    | true =>
      rw [hp] at h
      rw [pairsS_ok (hl y (by simp)) n l (fun s hs => hl s (by simp [hs])) hp]
      exact traceS_ok n l (fun s hs => hl s (by simp [hs])) h

noncomputable def noOdd : List Oper → Bool
  | [] => true
  | o :: l => match isOdd o.op with
    | true => false
    | false => noOdd l

inductive Cl where
  | mak
  | eff
  | oth
noncomputable def clO (o : Op) : Cl := match isMake o, isEff o with
  | true, _ => .mak
  | false, true => .eff
  | false, false => .oth

noncomputable def statS (ops : List Oper) : Option (List Nat) := match masksS ops 0 .nil with
  | none => none
  | some ms => match noOdd ops, traceS ops ops.length (ops.zip ms).reverse with
    | true, true => some ms
    | _, _ => none

/-! ### Open statements -/
abbrev Mks := List (Nat × Nat × Obj)
abbrev R3 := Option (Tr Value × Heap × Mks)

noncomputable def relG (mask : Nat) (h : Heap) : Mks → Heap := @List.rec (Nat × Nat × Obj) (fun _ => Heap) h
  (fun p _ ih => @Bool.rec (fun _ => Heap) ih (Heap.put ih p.2.1 (some p.2.2)) (Nat.testBit mask p.1))
noncomputable def unmG (mask : Nat) : Mks → Mks := @List.rec (Nat × Nat × Obj) (fun _ => Mks) []
  (fun p _ ih => @Bool.rec (fun _ => Mks) (p :: ih) ih (Nat.testBit mask p.1))
noncomputable def gvG (h : Heap) : Mks → Heap := @List.rec (Nat × Nat × Obj) (fun _ => Heap) h (fun p _ ih => ⟨sO (pathOf p.2.1) (some p.2.2) (Heap.tr ih), Heap.nx ih, ⟨p.2.1, 0, unk⟩ :: Heap.dt ih⟩)
theorem relG_eq (mask : Nat) (h : Heap) : ∀ l, relG mask h l = release mask l h
  | [] => by simp [release]; rfl
  | (i, n, o) :: l => by
    show @Bool.rec (fun _ => Heap) (relG mask h l) (Heap.put (relG mask h l) n (some o)) (Nat.testBit mask i) = _
    rw [relG_eq mask h l]
    simp only [release]
    cases Nat.testBit mask i <;> rfl
theorem unmG_eq (mask : Nat) : ∀ l, unmG mask l = unmade mask l
  | [] => by simp [unmade]; rfl
  | (i, n, o) :: l => by
    show @Bool.rec (fun _ => Mks) ((i, n, o) :: unmG mask l) (unmG mask l) (Nat.testBit mask i) = _
    rw [unmG_eq mask l]
    simp only [unmade]
    cases Nat.testBit mask i <;> rfl
theorem gvG_eq (h : Heap) : ∀ l, gvG h l = giveAll l h
  | [] => by simp [giveAll]; rfl
  | (i, n, o) :: l => by
    show (⟨sO (pathOf n) (some o) (Heap.tr (gvG h l)), Heap.nx (gvG h l), ⟨n, 0, unk⟩ :: Heap.dt (gvG h l)⟩ : Heap) = _
    rw [gvG_eq h l, sO_eq]
    simp only [giveAll]
    rfl

section
variable (cx : Cx)

/-- The last kind of kdE. -/
noncomputable def lodE (o : Op) (tm : Tr Value) (h : Heap) : Option Kd := match opE cx noCall tm (bare big) o with
        | some (.val v, _) => some (.pur v)
        | some _ => none
        | none => match targetE cx tm o with
          | none => none
          | some t => match h.get t.n with
            | none => none
            | some b => match opE cx noCall tm (only big t.n b) o with
              | some (.val v, _) => some (.lod t v)
              | _ => none

noncomputable def othS (o : Op) (tm : Tr Value) (h : Heap) : Option Value := match lodE cx o tm h with
  | some (.pur v) => some v
  | some (.lod _ v) => some v
  | _ => none
noncomputable def othP (o : Op) (tm : Tr Value) (h : Heap) : Option Value :=
  @Option.rec (Out × Heap) (fun _ => Option Value) (othS cx o tm h) (fun p => @Out.rec (fun _ => Option Value) (fun v => some v) (fun _ => none) (fun _ => none) none p.1) (disp o cx noCall tm (bare big))
noncomputable def othL (t : Nat) (a : Operand) (tm : Tr Value) (h : Heap) : Option Value :=
  @Option.rec Value (fun _ => Option Value) none (fun v => @Option.rec Addr (fun _ => Option Value) none (fun ad => loadG cx t h ad) (ptrV v)) (evG a tm)
noncomputable def loadO : Op → Option (Nat × Operand)
  | .load t a => some (t, a)
  | _ => none
noncomputable def othG (o : Op) (tm : Tr Value) (h : Heap) : Option Value :=
  @Option.rec (Nat × Operand) (fun _ => Option Value) (othP cx o tm h) (fun p => othL cx p.1 p.2 tm h) (loadO o)

theorem target_pure {tm : Tr Value} {o : Op} {t : Part} (h : targetE cx tm o = some t) : pureO o = false := by
  cases o <;> first | rfl | (simp [targetE] at h)

theorem loadN_only {h : Heap} {a : Addr} {n nx : Nat} {b : Obj} (hb : h.get a.block = some b) : loadN (only nx a.block b) a n = loadN h a n := by
  unfold loadN
  have e : (only nx a.block b).get a.block = some b := by
    show (Tr.nil.set a.block (some b)).get a.block = some b
    rw [Tr.get_set]; simp
  rw [e, hb]

theorem othG_spec {o : Op} {tm : Tr Value} {h : Heap} {v : Value} (hg : othG cx o tm h = some v) :
    ∃ kd, lodE cx o tm h = some kd ∧ (kd = .pur v ∨ ∃ t, kd = .lod t v ∧ pureO o = false) := by
  have gen : othP cx o tm h = some v → ∃ kd, lodE cx o tm h = some kd ∧ (kd = .pur v ∨ ∃ t, kd = .lod t v ∧ pureO o = false) := by
    intro hg
    unfold othP at hg
    rw [disp_eq] at hg
    cases hd : opE cx noCall tm (bare big) o with
    | some p =>
      obtain ⟨out, h1⟩ := p
      rw [hd] at hg
      cases out with
      | val v' => cases hg; exact ⟨.pur v, by unfold lodE; rw [hd], .inl rfl⟩
      | pan c => cases hg
      | dfr d => cases hg
      | rcv => cases hg
    | none =>
      rw [hd] at hg
      change othS cx o tm h = some v at hg
      unfold othS at hg
      cases hl : lodE cx o tm h with
      | none => rw [hl] at hg; cases hg
      | some kd =>
        rw [hl] at hg
        cases kd with
        | pur v' => cases hg; exact ⟨_, rfl, .inl rfl⟩
        | lod t v' =>
          cases hg
          refine ⟨_, rfl, .inr ⟨t, rfl, ?_⟩⟩
          unfold lodE at hl
          rw [hd] at hl
          cases ht : targetE cx tm o with
          | none => simp [ht] at hl
          | some t' => exact target_pure cx ht
        | _ => cases hg
  unfold othG at hg
  cases hl : loadO o with
  | none => rw [hl] at hg; exact gen hg
  | some p =>
    obtain ⟨t, a⟩ := p
    have ho : o = .load t a := by
      cases o <;> first | (cases hl; rfl) | cases hl
    subst ho
    change othL cx t a tm h = some v at hg
    unfold othL at hg
    simp only [evG_eq, loadG_eq] at hg
    cases hv : ev tm a with
    | none => rw [hv] at hg; cases hg
    | some pv =>
      rw [hv] at hg
      change @Option.rec Addr (fun _ => Option Value) none (fun ad => loadT cx h t ad) (ptrV pv) = some v at hg
      cases hp : ptrV pv with
      | none => rw [hp] at hg; cases hg
      | some ad =>
        rw [hp] at hg
        change loadT cx h t ad = some v at hg
        have he := ptrV_eq hp
        subst he
        cases ht : cx.ty t with
        | none => simp [loadT, ht] at hg
        | some i =>
          have hb : ∃ b, h.get ad.block = some b := by
            cases hb : h.get ad.block with
            | some b => exact ⟨b, rfl⟩
            | none =>
              exfalso
              have hn : ∀ n, loadN h ad n = none := by
                intro n
                unfold loadN
                rw [hb]
                cases ad.spot <;> rfl
              unfold loadT at hg
              rw [ht] at hg
              simp only [hn] at hg
              cases hq : aggD i.d <;> simp [hq] at hg
          obtain ⟨b, hb⟩ := hb
          have h1 : opE cx noCall tm (bare big) (.load t a) = none := by
            have hn : ∀ n, loadN (bare big) ad n = none := by
              intro n
              unfold loadN
              have : (bare big).get ad.block = none := rfl
              rw [this]
              cases ad.spot <;> rfl
            simp only [opE, hv, loadT, ht, hn]
            cases aggD i.d <;> rfl
          have h2 : opE cx noCall tm (only big ad.block b) (.load t a) = some (.val v, only big ad.block b) := by
            have : loadT cx (only big ad.block b) t ad = loadT cx h t ad := by
              unfold loadT
              simp only [loadN_only hb]
            simp only [opE, hv, this, hg, val]
          refine ⟨.lod ⟨ad.block, ad.off, match aggD i.d with
              | true => i.size
              | false => 1⟩ v, ?_, .inr ⟨_, rfl, rfl⟩⟩
          unfold lodE
          rw [h1]
          have h3 : targetE cx tm (.load t a) = some ⟨ad.block, ad.off, match aggD i.d with
              | true => i.size
              | false => 1⟩ := by simp only [targetE, ht, hv]; rfl
          rw [h3]
          dsimp only
          rw [hb]
          dsimp only
          rw [h2]

variable (cf : CallFn) (base : Nat) (all : List Oper)

abbrev Kt := Tr Value → Heap → Mks → R3

noncomputable def effK (dst : Option Nat) (mask : Nat) (k : Kt) (tm : Tr Value) (h : Heap) (mks : Mks) (r : R1) : R3 :=
  @Option.rec (Out × Heap) (fun _ => R3) none (fun p => @Out.rec (fun _ => R3) (fun v => k (putG tm dst v) ⟨Heap.tr p.2, Heap.nx p.2, Heap.dt p.2 ++ Heap.dt h⟩ (unmG mask mks)) (fun _ => none) (fun _ => none) none p.1) r
noncomputable def makK (i : Nat) (o : Oper) (k : Kt) (tm : Tr Value) (h : Heap) (mks : Mks) (n : Nat) : R3 :=
  @Option.rec (Value × Obj) (fun _ => R3) none (fun p => k (putG tm o.dst p.1) h ((i, n, p.2) :: mks)) (makeE cx tm ⟨.nil, n, []⟩ o.op)
noncomputable def othK (dst : Option Nat) (k : Kt) (tm : Tr Value) (h : Heap) (mks : Mks) (r : Option Value) : R3 :=
  @Option.rec Value (fun _ => R3) none (fun v => k (putG tm dst v) h mks) r
noncomputable def runK (i : Nat) (o : Oper) (mask : Nat) (k : Kt) (tm : Tr Value) (h : Heap) (mks : Mks) : R3 :=
  @Cl.rec (fun _ => R3) (natK (makK cx i o k tm h mks) (Nat.add base i)) (effK o.dst mask k tm h mks (disp o.op cx cf tm (relG mask ⟨Heap.tr h, Heap.nx h, []⟩ mks))) (othK o.dst k tm h mks (othG cx o.op tm h)) (clO o.op)
noncomputable def stK (i : Nat) (o : Oper) (mask : Nat) (k : Kt) (tm : Tr Value) (h : Heap) (mks : Mks) : R3 :=
  @Option.rec Bool (fun _ => R3) none (fun b => @Bool.rec (fun _ => R3) (k (putG tm o.dst undef) h mks) (runK cx cf base i o mask k tm h mks) b) (wantG o all tm)

noncomputable def trG : List Oper → List Nat → Nat → Kt :=
  @List.rec Oper (fun _ => List Nat → Nat → Kt) (fun _ _ tm h mks => some (tm, h, mks))
    (fun o _ ih ms i tm h mks => @List.rec Nat (fun _ => R3) none (fun mask ms _ => stK cx cf base all i o mask (ih ms (Nat.succ i)) tm h mks) ms)

theorem trG_spec : ∀ (l : List Oper) (ms : List Nat) (i : Nat) (mt : Tr Nat) (tm : Tr Value) (h : Heap) (mks : Mks) (tm' : Tr Value) (h' : Heap) (mks' : Mks) (acc : List Sn),
    masksS l i mt = some ms → noOdd l = true → trG cx cf base all l ms i tm h mks = some (tm', h', mks') →
    ∃ tr, traceE cx cf base all l i mt none tm h mks acc = some (tr ++ acc, tm', h', mks') ∧ (tr.map fun s => (s.o, s.mask)) = (l.zip ms).reverse ∧ ∀ s ∈ tr, GoodK s.o.op s.kd
  | [], ms, i, mt, tm, h, mks, tm', h', mks', acc, hm, _, hr => by
    cases hr
    exact ⟨[], by simp [traceE], by simp, by simp⟩
  | o :: l, ms, i, mt, tm, h, mks, tm', h', mks', acc, hm, hod, hr => by
    simp only [masksS] at hm
    cases hk : maskE mt i o.after.toList with
    | none => rw [hk] at hm; cases hm
    | some mask =>
      rw [hk] at hm
      dsimp only at hm
      cases hrest : masksS l (i + 1) (mt.set i (some mask)) with
      | none => rw [hrest] at hm; cases hm
      | some ms1 =>
        rw [hrest] at hm
        cases hm
        have hod1 : isOdd o.op = false ∧ noOdd l = true := by
          simp only [noOdd] at hod
          cases h1 : isOdd o.op with
          | true => rw [h1] at hod; exact Bool.noConfusion hod
          | false => rw [h1] at hod; exact ⟨rfl, hod⟩
        change stK cx cf base all i o mask (trG cx cf base all l ms1 (i + 1)) tm h mks = some (tm', h', mks') at hr
        unfold stK at hr
        rw [wantG_eq] at hr
        have go : ∀ (kd : Kd) (tm1 : Tr Value) (h1 : Heap) (mks1 : Mks), kdE cx cf base i all o mask none tm h mks = some kd → GoodK o.op kd →
            trG cx cf base all l ms1 (i + 1) tm1 h1 mks1 = some (tm', h', mks') →
            (∀ acc, traceE cx cf base all (o :: l) i mt none tm h mks acc = traceE cx cf base all l (i + 1) (mt.set i (some mask)) none tm1 h1 mks1 (⟨o, tm, h, mask, kd⟩ :: acc)) →
            ∃ tr, traceE cx cf base all (o :: l) i mt none tm h mks acc = some (tr ++ acc, tm', h', mks') ∧ (tr.map fun s => (s.o, s.mask)) = ((o :: l).zip (mask :: ms1)).reverse ∧ ∀ s ∈ tr, GoodK s.o.op s.kd := by
          intro kd tm1 h1 mks1 hkd hgood hr1 heq
          obtain ⟨tr, e1, e2, e3⟩ := trG_spec l ms1 (i + 1) (mt.set i (some mask)) tm1 h1 mks1 tm' h' mks' (⟨o, tm, h, mask, kd⟩ :: acc) hrest hod1.2 hr1
          refine ⟨tr ++ [⟨o, tm, h, mask, kd⟩], ?_, ?_, ?_⟩
          · rw [heq, e1]; simp
          · simp [e2]
          · intro s hs
            simp only [List.mem_append, List.mem_singleton] at hs
            rcases hs with hs | rfl
            · exact e3 s hs
            · exact hgood
        cases hw : wantE all tm o with
        | none => rw [hw] at hr; cases hr
        | some b =>
          rw [hw] at hr
          cases b with
          | false =>
            change trG cx cf base all l ms1 (i + 1) (putG tm o.dst undef) h mks = some (tm', h', mks') at hr
            rw [putG_eq] at hr
            have hkd : kdE cx cf base i all o mask none tm h mks = some .no := by simp only [kdE, hw]
            exact go .no _ h mks hkd trivial hr (fun acc => by simp only [traceE, hk, hkd])
          | true =>
            change runK cx cf base i o mask (trG cx cf base all l ms1 (i + 1)) tm h mks = some (tm', h', mks') at hr
            unfold runK clO at hr
            cases h1 : isMake o.op with
            | true =>
              rw [h1] at hr
              change natK (makK cx i o (trG cx cf base all l ms1 (i + 1)) tm h mks) (base + i) = some (tm', h', mks') at hr
              rw [natK_eq] at hr
              unfold makK at hr
              cases hmk : makeE cx tm ⟨.nil, base + i, []⟩ o.op with
              | none => rw [hmk] at hr; cases hr
              | some p =>
                obtain ⟨v, b⟩ := p
                rw [hmk] at hr
                change trG cx cf base all l ms1 (i + 1) (putG tm o.dst v) h ((i, base + i, b) :: mks) = some (tm', h', mks') at hr
                rw [putG_eq] at hr
                have hkd : kdE cx cf base i all o mask none tm h mks = some (.mak (base + i) b v) := by simp only [kdE, hw, hod1.1, h1, hmk]
                exact go _ _ _ _ hkd trivial hr (fun acc => by simp only [traceE, hk, hkd])
            | false =>
              rw [h1] at hr
              cases h2 : isEff o.op with
              | true =>
                rw [h2] at hr
                change effK o.dst mask (trG cx cf base all l ms1 (i + 1)) tm h mks (disp o.op cx cf tm (relG mask ⟨h.tr, h.nx, []⟩ mks)) = some (tm', h', mks') at hr
                rw [disp_eq, relG_eq] at hr
                unfold effK at hr
                cases hop : opE cx cf tm (release mask mks ⟨h.tr, h.nx, []⟩) o.op with
                | none => rw [hop] at hr; cases hr
                | some p =>
                  obtain ⟨out, h3⟩ := p
                  rw [hop] at hr
                  cases out with
                  | val v =>
                    change trG cx cf base all l ms1 (i + 1) (putG tm o.dst v) ⟨h3.tr, h3.nx, h3.dt ++ h.dt⟩ (unmG mask mks) = some (tm', h', mks') at hr
                    rw [putG_eq, unmG_eq] at hr
                    have hkd : kdE cx cf base i all o mask none tm h mks = some (.eff h3.dt ⟨h3.tr, h3.nx, h3.dt ++ h.dt⟩ v) := by simp only [kdE, hw, hod1.1, h1, h2, hop]
                    exact go _ _ _ _ hkd h2 hr (fun acc => by simp only [traceE, hk, hkd])
                  | pan c => cases hr
                  | dfr d => cases hr
                  | rcv => cases hr
              | false =>
                rw [h2] at hr
                change othK o.dst (trG cx cf base all l ms1 (i + 1)) tm h mks (othG cx o.op tm h) = some (tm', h', mks') at hr
                unfold othK at hr
                cases hot : othG cx o.op tm h with
                | none => rw [hot] at hr; cases hr
                | some v =>
                  rw [hot] at hr
                  change trG cx cf base all l ms1 (i + 1) (putG tm o.dst v) h mks = some (tm', h', mks') at hr
                  rw [putG_eq] at hr
                  obtain ⟨kd, hl, hc⟩ := othG_spec cx hot
                  have hkd : kdE cx cf base i all o mask none tm h mks = some kd := by
                    simp only [kdE, hw, hod1.1, h1, h2]
                    exact hl
                  rcases hc with rfl | ⟨t, rfl, hp⟩
                  · exact go _ _ _ _ hkd trivial hr (fun acc => by simp only [traceE, hk, hkd])
                  · exact go _ _ _ _ hkd ⟨h2, h1, hp⟩ hr (fun acc => by simp only [traceE, hk, hkd])

theorem panOf_good : ∀ (l : List Sn), (∀ s ∈ l, GoodK s.o.op s.kd) → panOf l = none
  | [], _ => rfl
  | s :: l, h => by
    have hs := h s (by simp)
    simp only [panOf]
    cases hk : s.kd <;> simp only [hk, GoodK] at hs ⊢ <;> first | exact panOf_good l (fun s hs => h s (by simp [hs])) | exact hs.elim

end

noncomputable def drawK (cx : Cx) (cf : CallFn) (ops : List Oper) (st : St) (p : Tr Value × Heap × Mks) : Option (Ex × St) :=
  @Bool.rec (fun _ => Option (Ex × St)) (drawE cx cf ops st) (some (.normal, ⟨p.1, st.df, st.u, gvG p.2.1 p.2.2⟩)) (Nat.ble (Heap.nx p.2.1) big)
noncomputable def drawG (cx : Cx) (cf : CallFn) (ops : List Oper) (st : St) : Option (Ex × St) :=
  @Option.rec (List Nat) (fun _ => Option (Ex × St)) (drawE cx cf ops st)
    (fun ms => @Option.rec (Tr Value × Heap × Mks) (fun _ => Option (Ex × St)) (drawE cx cf ops st) (drawK cx cf ops st)
      (trG cx cf (Heap.nx (St.h st)) ops ops ms 0 (St.tm st) ⟨Heap.tr (St.h st), Nat.add (Heap.nx (St.h st)) (List.length ops), Heap.dt (St.h st)⟩ [])) (statS ops)

theorem drawG_eq (cx : Cx) (cf : CallFn) (ops : List Oper) (st : St) : drawG cx cf ops st = drawE cx cf ops st := by
  unfold drawG
  cases hs : statS ops with
  | none => rfl
  | some ms =>
    dsimp only
    cases ht : trG cx cf st.h.nx ops ops ms 0 st.tm ⟨st.h.tr, st.h.nx + ops.length, st.h.dt⟩ [] with
    | none => rfl
    | some p =>
      obtain ⟨tm, h, mks⟩ := p
      show @Bool.rec (fun _ => Option (Ex × St)) (drawE cx cf ops st) (some (.normal, ⟨tm, st.df, st.u, gvG h mks⟩)) (Nat.ble h.nx big) = _
      cases hb : Nat.ble h.nx big with
      | false => rfl
      | true =>
        unfold statS at hs
        cases hm : masksS ops 0 .nil with
        | none => rw [hm] at hs; cases hs
        | some ms' =>
          rw [hm] at hs
          dsimp only at hs
          cases ho : noOdd ops with
          | false => rw [ho] at hs; cases hs
          | true =>
            cases hq : traceS ops ops.length (ops.zip ms').reverse with
            | false => rw [ho, hq] at hs; cases hs
            | true =>
              rw [ho, hq] at hs
              cases hs
              obtain ⟨tr, e1, e2, e3⟩ := trG_spec cx cf st.h.nx ops ops ms 0 .nil st.tm ⟨st.h.tr, st.h.nx + ops.length, st.h.dt⟩ [] tm h mks [] hm ho ht
              have e4 : traceOk ops ops.length tr = true := traceS_ok ops.length tr e3 (by rw [e2]; exact hq)
              unfold drawE
              rw [e1]
              simp only [List.append_nil]
              rw [e4, hb]
              dsimp only
              rw [panOf_good tr e3, gvG_eq]

end Go.Em

/-
  Quick forms of the evaluator's code and calls.
-/
namespace Go.Em

abbrev Rq := Option (Ex × St)
abbrev Kq := Tr Value → List Deferred → FrameMode → Heap → Rq

noncomputable def rcvQ (dst : Option Nat) (k : Kq) (dk : Bool) (tm : Tr Value) (df : List Deferred) (u : FrameMode) (h : Heap) : Rq :=
  @Bool.rec (fun _ => Rq) none (k (putG tm dst (recE u).1) df (recE u).2 h) dk
noncomputable def aftQ (dst : Option Nat) (k : Kq) (dk : Bool) (tm : Tr Value) (df : List Deferred) (u : FrameMode) (h : Heap) (r : R1) : Rq :=
  @Option.rec (Out × Heap) (fun _ => Rq) none (fun p => @Prod.rec Out Heap (fun _ => Rq) (fun out h' => @Out.rec (fun _ => Rq) (fun v => k (putG tm dst v) df u h')
    (fun c => some (.pan c, ⟨tm, df, u, h'⟩)) (fun d => k (putG tm dst undef) (d :: df) u h) (rcvQ dst k dk tm df u h) out) p) r
noncomputable def runQ (cx : Cx) (cf : CallFn) (dk : Bool) (o : Oper) (k : Kq) (tm : Tr Value) (df : List Deferred) (u : FrameMode) (h : Heap) : Rq :=
  aftQ o.dst k dk tm df u h (disp o.op cx cf tm h)
noncomputable def stepQ (cx : Cx) (cf : CallFn) (dk : Bool) (all : List Oper) (o : Oper) (k : Kq) (tm : Tr Value) (df : List Deferred) (u : FrameMode) (h : Heap) : Rq :=
  @Option.rec (Nat × Bool) (fun _ => Rq) (runQ cx cf dk o k tm df u h)
    (fun p => @Option.rec Bool (fun _ => Rq) none (fun b => @Bool.rec (fun _ => Rq) (k (putG tm o.dst undef) df u h) (runQ cx cf dk o k tm df u h) b) (wantF all tm p.1 p.2)) o.guard
noncomputable def opsG (cx : Cx) (cf : CallFn) (dk : Bool) (all : List Oper) : List Oper → Kq :=
  @List.rec Oper (fun _ => Kq) (fun tm df u h => some (.normal, ⟨tm, df, u, h⟩)) (fun o _ ih => stepQ cx cf dk all o ih)

theorem runQ_eq (cx : Cx) (cf : CallFn) (dk : Bool) (all : List Oper) (o : Oper) (l : List Oper) (k : Kq) (hk : ∀ tm df u h, k tm df u h = opsE cx cf dk all l ⟨tm, df, u, h⟩)
    (tm : Tr Value) (df : List Deferred) (u : FrameMode) (h : Heap) (hw : wantE all tm o = some true) : runQ cx cf dk o k tm df u h = opsE cx cf dk all (o :: l) ⟨tm, df, u, h⟩ := by
  simp only [opsE, hw]
  unfold runQ aftQ
  rw [disp_eq]
  cases hr : opE cx cf tm h o.op with
  | none => rfl
  | some p =>
    obtain ⟨out, h'⟩ := p
    cases out with
    | val v =>
      show k (putG tm o.dst v) df u h' = _
      rw [hk, putG_eq]
    | pan c => rfl
    | dfr d =>
      show k (putG tm o.dst undef) (d :: df) u h = _
      rw [hk, putG_eq]
    | rcv =>
      show @Bool.rec (fun _ => Rq) none (k (putG tm o.dst (recE u).1) df (recE u).2 h) dk = _
      cases dk with
      | false => rfl
      | true =>
        show k (putG tm o.dst (recE u).1) df (recE u).2 h = _
        rw [hk, putG_eq]

theorem opsG_eq (cx : Cx) (cf : CallFn) (dk : Bool) (all : List Oper) : ∀ (l : List Oper) (tm : Tr Value) (df : List Deferred) (u : FrameMode) (h : Heap),
    opsG cx cf dk all l tm df u h = opsE cx cf dk all l ⟨tm, df, u, h⟩
  | [], tm, df, u, h => by simp [opsE]; rfl
  | o :: l, tm, df, u, h => by
    have ih := opsG_eq cx cf dk all l
    show stepQ cx cf dk all o (opsG cx cf dk all l) tm df u h = _
    have hw := wantG_eq o all tm
    unfold wantG at hw
    unfold stepQ
    cases hg : o.guard with
    | none =>
      rw [hg] at hw
      exact runQ_eq cx cf dk all o l _ ih tm df u h hw.symm
    | some p =>
      rw [hg] at hw
      change wantF all tm p.1 p.2 = _ at hw
      show @Option.rec Bool (fun _ => Rq) none (fun b => @Bool.rec (fun _ => Rq) (opsG cx cf dk all l (putG tm o.dst undef) df u h) (runQ cx cf dk o (opsG cx cf dk all l) tm df u h) b) (wantF all tm p.1 p.2) = _
      rw [hw]
      cases hb : wantE all tm o with
      | none => simp only [opsE, hb]
      | some b =>
        cases b with
        | false =>
          show opsG cx cf dk all l (putG tm o.dst undef) df u h = _
          rw [ih, putG_eq]
          simp only [opsE, hb]
        | true => exact runQ_eq cx cf dk all o l _ ih tm df u h hb

/-! ### Code -/
abbrev Rx := Code → Kq
abbrev Cc := Rx → Cx → CallFn → Bool → Kq

noncomputable def bndQ (o : Rq) (f : Ex → St → Rq) : Rq := @Option.rec (Ex × St) (fun _ => Rq) none (fun p => @Prod.rec Ex St (fun _ => Rq) f p) o
noncomputable def onQ (k : Kq) : St → Rq := @St.rec (fun _ => Rq) k
noncomputable def seqQ (k : Kq) (ex : Ex) (st : St) : Rq := @Ex.rec (fun _ => Rq) (onQ k st) (fun id => some (.exit id, st)) (some (.ret, st)) (fun c => some (.pan c, st)) ex
noncomputable def blkQ (id : Nat) (ex : Ex) (st : St) : Rq :=
  @Ex.rec (fun _ => Rq) (some (.normal, st)) (fun id' => @Bool.rec (fun _ => Rq) (some (.exit id', st)) (some (.normal, st)) (Nat.beq id' id)) (some (.ret, st)) (fun c => some (.pan c, st)) ex
noncomputable def cOk (e : Ex) (_ : Rx) (_ : Cx) (_ : CallFn) (_ : Bool) (tm : Tr Value) (df : List Deferred) (u : FrameMode) (h : Heap) : Rq := some (e, ⟨tm, df, u, h⟩)
noncomputable def cNo (_ : Rx) (_ : Cx) (_ : CallFn) (_ : Bool) (_ : Tr Value) (_ : List Deferred) (_ : FrameMode) (_ : Heap) : Rq := none
noncomputable def cReg (_ : Nat) (ops : Array Oper) (draw : Bool) (_ : Rx) (cx : Cx) (cf : CallFn) (dk : Bool) (tm : Tr Value) (df : List Deferred) (u : FrameMode) (h : Heap) : Rq :=
  @Bool.rec (fun _ => Rq) (opsG cx cf dk ops.toList ops.toList tm df u h) (drawG cx cf ops.toList ⟨tm, df, u, h⟩) draw
noncomputable def cSeq (a b : Code) (r : Rx) (_ : Cx) (_ : CallFn) (_ : Bool) (tm : Tr Value) (df : List Deferred) (u : FrameMode) (h : Heap) : Rq := bndQ (r a tm df u h) (seqQ (r b))
noncomputable def cCond (c : Operand) (a b : Code) (r : Rx) (_ : Cx) (_ : CallFn) (_ : Bool) (tm : Tr Value) (df : List Deferred) (u : FrameMode) (h : Heap) : Rq :=
  @Option.rec Value (fun _ => Rq) none (fun v => @Option.rec Bool (fun _ => Rq) none (fun bb => @Bool.rec (fun _ => Rq) (r b tm df u h) (r a tm df u h) bb) (boolV v)) (evG c tm)
noncomputable def cBlk (id : Nat) (a : Code) (r : Rx) (_ : Cx) (_ : CallFn) (_ : Bool) (tm : Tr Value) (df : List Deferred) (u : FrameMode) (h : Heap) : Rq := bndQ (r a tm df u h) (blkQ id)
noncomputable def cLoop (a : Code) (r : Rx) (_ : Cx) (_ : CallFn) (_ : Bool) (tm : Tr Value) (df : List Deferred) (u : FrameMode) (h : Heap) : Rq := bndQ (r a tm df u h) (seqQ (r (.loop a)))
noncomputable def cScope (a : Code) (r : Rx) (_ : Cx) (_ : CallFn) (_ : Bool) (tm : Tr Value) (df : List Deferred) (u : FrameMode) (h : Heap) : Rq := r a tm df u h

noncomputable def cdisp : Code → Cc := @Code.rec (fun _ => Cc) (cOk .normal) cReg (fun a b _ _ => cSeq a b) (fun c a b _ _ => cCond c a b) (fun id a _ => cBlk id a) (fun a _ => cLoop a)
  (fun _ _ _ _ _ _ => cNo) (fun id => cOk (.exit id)) (fun a _ => cScope a) (fun _ => cOk .normal) (fun _ => cNo) (cOk .ret) (fun _ => cNo)

noncomputable def execG (cx : Cx) (cf : CallFn) (dk : Bool) : Nat → Rx :=
  @Nat.rec (fun _ => Rx) (fun _ _ _ _ _ => none) (fun _ ih c => cdisp c ih cx cf dk)

theorem seqQ_eq (k : Kq) (f : St → Rq) (hk : ∀ tm df u h, k tm df u h = f ⟨tm, df, u, h⟩) (r : Rq) : bndQ r (seqQ k) = match r with
      | some (.normal, st) => f st
      | r => r := by
  cases r with
  | none => rfl
  | some p =>
    obtain ⟨ex, st⟩ := p
    cases ex with
    | normal => obtain ⟨tm, df, u, h⟩ := st; exact hk tm df u h
    | exit id => rfl
    | ret => rfl
    | pan c => rfl

theorem execG_eq (cx : Cx) (cf : CallFn) (dk : Bool) : ∀ (n : Nat) (c : Code) (tm : Tr Value) (df : List Deferred) (u : FrameMode) (h : Heap),
    execG cx cf dk n c tm df u h = exec cx cf dk n c ⟨tm, df, u, h⟩ := by
  intro n
  induction n with
  | zero => intro c tm df u h; rfl
  | succ n ih =>
    intro c tm df u h
    show cdisp c (execG cx cf dk n) cx cf dk tm df u h = _
    cases c with
    | region id ops draw =>
      cases draw
      · exact opsG_eq cx cf dk ops.toList ops.toList tm df u h
      · exact drawG_eq cx cf ops.toList ⟨tm, df, u, h⟩
    | seq a b =>
      show bndQ (execG cx cf dk n a tm df u h) (seqQ (execG cx cf dk n b)) = _
      rw [ih, seqQ_eq _ (exec cx cf dk n b) (ih b)]
      simp only [exec]
      cases exec cx cf dk n a ⟨tm, df, u, h⟩ with
      | none => rfl
      | some p => obtain ⟨e, s⟩ := p; cases e <;> rfl
    | cond c a b =>
      show cCond c a b (execG cx cf dk n) cx cf dk tm df u h = _
      unfold cCond
      simp only [exec, evG_eq, ih]
      cases ev tm c with
      | none => rfl
      | some v => cases v <;> first | rfl | (rename_i b; cases b <;> rfl)
    | block id a =>
      show bndQ (execG cx cf dk n a tm df u h) (blkQ id) = _
      rw [ih]
      simp only [exec]
      cases exec cx cf dk n a ⟨tm, df, u, h⟩ with
      | none => rfl
      | some p =>
        obtain ⟨e, s⟩ := p
        cases e with
        | exit id' =>
          show @Bool.rec (fun _ => Rq) (some (.exit id', s)) (some (.normal, s)) (Nat.beq id' id) = _
          dsimp only
          cases Nat.beq id' id <;> rfl
        | _ => rfl
    | loop a =>
      show bndQ (execG cx cf dk n a tm df u h) (seqQ (execG cx cf dk n (.loop a))) = _
      rw [ih, seqQ_eq _ (exec cx cf dk n (.loop a)) (ih (.loop a))]
      simp only [exec]
      cases exec cx cf dk n a ⟨tm, df, u, h⟩ with
      | none => rfl
      | some p => obtain ⟨e, s⟩ := p; cases e <;> rfl
    | scope a => exact ih a tm df u h
    | _ => rfl

/-! ### Calls -/
noncomputable def conO (v : Value) (o : Option (List Value)) : Option (List Value) := @Option.rec (List Value) (fun _ => Option (List Value)) none (fun vs => some (v :: vs)) o
noncomputable def resG (cx : Cx) (tm : Tr Value) (h : Heap) : List ResultVar → Option (List Value) := @List.rec ResultVar (fun _ => Option (List Value)) (some [])
  (fun r _ ih => @ResultVar.rec (fun _ => Option (List Value)) (fun t => @Option.rec Value (fun _ => Option (List Value)) none (fun v => conO v ih) (gV (pathOf t) tm))
    (fun a t => @Option.rec Value (fun _ => Option (List Value)) none (fun v => @Option.rec Addr (fun _ => Option (List Value)) none (fun ad => @Option.rec Value (fun _ => Option (List Value)) none (fun w => conO w ih) (loadG cx t h ad)) (ptrV v)) (gV (pathOf a) tm)) r)
theorem resG_eq (cx : Cx) (tm : Tr Value) (h : Heap) : ∀ (l : List ResultVar), resG cx tm h l = resE cx tm h l
  | [] => by simp [resE]; rfl
  | .tmp t :: l => by
    show @Option.rec Value (fun _ => Option (List Value)) none (fun v => conO v (resG cx tm h l)) (gV (pathOf t) tm) = _
    rw [gV_eq, resG_eq cx tm h l]
    simp only [resE]
    cases tm.get t with
    | none => rfl
    | some v => cases resE cx tm h l <;> rfl
  | .cell a t :: l => by
    show @Option.rec Value (fun _ => Option (List Value)) none (fun v => @Option.rec Addr (fun _ => Option (List Value)) none (fun ad => @Option.rec Value (fun _ => Option (List Value)) none (fun w => conO w (resG cx tm h l)) (loadG cx t h ad)) (ptrV v)) (gV (pathOf a) tm) = _
    simp only [gV_eq, resG_eq cx tm h l, loadG_eq]
    simp only [resE]
    cases tm.get a with
    | none => rfl
    | some v =>
      cases v <;> try rfl
      rename_i ad
      cases ad with
      | none => rfl
      | some ad =>
        dsimp only
        show @Option.rec Value (fun _ => Option (List Value)) none (fun w => conO w (resE cx tm h l)) (loadT cx h t ad) = _
        cases loadT cx h t ad with
        | none => rfl
        | some w => cases resE cx tm h l <;> rfl

noncomputable def oneG : List Value → Value := @List.rec Value (fun _ => Value) (.tuple #[]) (fun v l _ => @List.rec Value (fun _ => Value) v (fun w l _ => .tuple ⟨v :: w :: l⟩) l)
theorem oneG_eq : ∀ l, oneG l = one l
  | [] => rfl
  | [_] => rfl
  | _ :: _ :: _ => rfl

noncomputable def retQ (o : Option (List Value)) (h : Heap) : Option (Fin × Heap) := @Option.rec (List Value) (fun _ => Option (Fin × Heap)) none (fun vs => some (.ret (oneG vs), h)) o
noncomputable def leaveG (cx : Cx) (cf : CallFn) (n : Nat) (fn : Func) (tm : Tr Value) (h : Heap) : List Deferred → Option (Fin × Heap) :=
  @List.rec Deferred (fun _ => Option (Fin × Heap)) (retQ (resG cx tm h fn.results.toList) h) (fun d ds _ => leave cx (callD cx cf n) fn tm (d :: ds) .returning h)
theorem leaveG_eq (cx : Cx) (cf : CallFn) (n : Nat) (fn : Func) (tm : Tr Value) (h : Heap) (ds : List Deferred) :
    leaveG cx cf n fn tm h ds = leave cx (callD cx cf n) fn tm ds .returning h := by
  cases ds with
  | cons d ds => rfl
  | nil =>
    show retQ (resG cx tm h fn.results.toList) h = _
    rw [resG_eq]
    simp only [leave]
    cases resE cx tm h fn.results.toList with
    | none => rfl
    | some vs => show some (Fin.ret (oneG vs), h) = _; rw [oneG_eq]

noncomputable def finG (cx : Cx) (cf : CallFn) (n : Nat) (fn : Func) (ex : Ex) (st : St) : Option (Fin × Heap) :=
  @Ex.rec (fun _ => Option (Fin × Heap)) (leaveG cx cf n fn st.tm st.h st.df) (fun _ => none) (leaveG cx cf n fn st.tm st.h st.df)
    (fun chain => leave cx (callD cx cf n) fn st.tm st.df (.panicking chain) st.h) ex

noncomputable def callG2 (cx : Cx) (cf : CallFn) (n : Nat) (args : List Value) (h : Heap) (x : Func × Code) : Option (Fin × Heap) :=
  @Option.rec (Ex × St) (fun _ => Option (Fin × Heap)) none (fun p => @Prod.rec Ex St (fun _ => Option (Fin × Heap)) (finG cx cf n x.1) p) (execG cx cf false n x.2 (argsG args 0 .nil) [] .run h)

noncomputable def callG1 (cx : Cx) (cf : CallFn) (n f : Nat) (args : List Value) (h : Heap) : Option (Fin × Heap) :=
  @Option.rec _ (fun _ => Option (Fin × Heap)) (@Option.rec _ (fun _ => Option (Fin × Heap)) none (callG2 cx cf n args h) (cx.fn f)) (fun g => g args h) (cx.ext f)

noncomputable def callG (cx : Cx) : Nat → CallFn :=
  @Nat.rec (fun _ => CallFn) (fun _ _ _ => none) (fun n ih => callG1 cx ih n)

theorem callG_eq (cx : Cx) : ∀ (n f : Nat) (args : List Value) (h : Heap), callG cx n f args h = call cx n f args h := by
  intro n
  induction n with
  | zero => intro f args h; rfl
  | succ n ih =>
    intro f args h
    show callG1 cx (callG cx n) n f args h = _
    have ih' : callG cx n = call cx n := by funext f args h; exact ih f args h
    rw [ih']
    unfold callG1
    simp only [call]
    cases cx.ext f with
    | some g => rfl
    | none =>
      cases cx.fn f with
      | none => rfl
      | some x =>
        obtain ⟨fn, c⟩ := x
        show callG2 cx (call cx n) n args h (fn, c) = _
        unfold callG2
        simp only [execG_eq, argsG_eq]
        cases exec cx (call cx n) false n c ⟨argsT 0 args .nil, [], .run, h⟩ with
        | none => rfl
        | some p =>
          obtain ⟨e, s⟩ := p
          cases e with
          | normal => exact leaveG_eq cx (call cx n) n fn s.tm s.h s.df
          | ret => exact leaveG_eq cx (call cx n) n fn s.tm s.h s.df
          | _ => rfl

end Go.Em
