/-
  Quick forms of the evaluator's operations.
-/
import Derived.Test.YtbfhilhkmicelaaGreatGe
namespace Go.Em

abbrev R1 := Option (Out × Heap)
abbrev K := Cx → CallFn → Tr Value → Heap → R1

noncomputable def cstG (v : Value) : Option Value := match flat v with
    | true => some v
    | false => none

noncomputable def evG : Operand → Tr Value → Option Value := @Operand.rec (fun _ => Tr Value → Option Value)
  (fun t tm => gV (pathOf t) tm) (fun v _ => cstG v) (fun _ _ => none) (fun f _ => some (.func (.func f) #[] #[]))
theorem evG_eq (x : Operand) (tm : Tr Value) : evG x tm = ev tm x := by
  cases x
  case tmp t => exact gV_eq t tm
  all_goals rfl

noncomputable def evsG (tm : Tr Value) : List Operand → Option (List Value) := @List.rec Operand (fun _ => Option (List Value)) (some [])
  (fun x _ ih => @Option.rec Value (fun _ => Option (List Value)) none (fun v => @Option.rec (List Value) (fun _ => Option (List Value)) none (fun vs => some (v :: vs)) ih) (evG x tm))
theorem evsG_eq (tm : Tr Value) : ∀ (l : List Operand), evsG tm l = evs tm l
  | [] => rfl
  | x :: l => by
    show @Option.rec Value (fun _ => Option (List Value)) none (fun v => @Option.rec (List Value) (fun _ => Option (List Value)) none (fun vs => some (v :: vs)) (evsG tm l)) (evG x tm) = _
    rw [evG_eq, evsG_eq tm l]
    simp only [evs]
    cases ev tm x with
    | none => rfl
    | some v => cases evs tm l <;> rfl

noncomputable def valG (o : Option Value) (h : Heap) : R1 := @Option.rec Value (fun _ => R1) none (fun v => some (.val v, h)) o
theorem valG_eq (o : Option Value) (h : Heap) : valG o h = val o h := by cases o <;> rfl
noncomputable def skpG (o : Option Heap) : R1 := @Option.rec Heap (fun _ => R1) none (fun h => some (.val undef, h)) o
theorem skpG_eq (o : Option Heap) : skpG o = skp o := by cases o <;> rfl

noncomputable def bndV (o : Option Value) (f : Value → R1) : R1 := @Option.rec Value (fun _ => R1) none f o
noncomputable def bndP (o : Option Addr) (f : Addr → R1) : R1 := @Option.rec Addr (fun _ => R1) none f o

/-! ### Loads -/
noncomputable def rowG (base : Nat → Value) (tr : Tr Value) (i : Nat) : Value := @Option.rec Value (fun _ => Value) (base i) (fun v => v) (gV (pathOf i) tr)
theorem rowG_eq (base : Nat → Value) (tr : Tr Value) (i : Nat) : rowG base tr i = rowAt base tr i := by
  unfold rowG rowAt
  rw [gV_eq]
  cases tr.get i <;> rfl

noncomputable def ldO (off : Nat) : Option Obj → Option Value := @Option.rec Obj (fun _ => Option Value) none
  (fun o => @Obj.rec (fun _ => Option Value) (fun size base tr _ _ _ => @Bool.rec (fun _ => Option Value) none (some (rowG base tr off)) (Nat.ble (Nat.add off 1) size)) (fun _ _ => none) (fun _ _ => none) o)
noncomputable def load1 (h : Heap) : Addr → Option Value :=
  @Addr.rec (fun _ => Option Value) (fun b off spot => @Option.rec Nat (fun _ => Option Value) (ldO off (gO (pathOf b) (Heap.tr h))) (fun _ => none) spot)

theorem load1_eq (h : Heap) (a : Addr) : load1 h a = match loadN h a 1 with
      | some [v] => some v
      | _ => none := by
  obtain ⟨b, off, spot⟩ := a
  cases spot with
  | some s => rfl
  | none =>
    show ldO off (gO (pathOf b) h.tr) = _
    rw [gO_eq]
    simp only [loadN, Heap.get]
    cases h.tr.get b with
    | none => rfl
    | some o =>
      cases o with
      | row size base tr elem esz ro =>
        show @Bool.rec (fun _ => Option Value) none (some (rowG base tr off)) (Nat.ble (off + 1) size) = _
        simp only [rowG_eq]
        cases Nat.ble (off + 1) size <;> rfl
      | map es c => rfl
      | chan c b => rfl

noncomputable def scalS (cx : Cx) (t : Nat) : Bool := match cx.ty t with
  | some i => !(aggD i.d)
  | none => false

noncomputable def cellsG (base : Nat → Value) (tr : Tr Value) : Nat → Nat → List Value :=
  @Nat.rec (fun _ => Nat → List Value) (fun _ => []) (fun _ ih i => rowG base tr i :: ih (Nat.succ i))
theorem cellsG_eq (base : Nat → Value) (tr : Tr Value) : ∀ (n i : Nat), cellsG base tr n i = cellsFrom base tr i n
  | 0, _ => by simp [cellsFrom]; rfl
  | n + 1, i => by
    show rowG base tr i :: cellsG base tr n (i + 1) = _
    rw [rowG_eq, cellsG_eq base tr n (i + 1)]
    simp [cellsFrom]

noncomputable def ldA (n off : Nat) : Option Obj → Option Value := @Option.rec Obj (fun _ => Option Value) none
  (fun o => @Obj.rec (fun _ => Option Value) (fun size base tr _ _ _ => @Bool.rec (fun _ => Option Value) none (some (.agg (cellsG base tr n off).toArray)) (Nat.ble (Nat.add off n) size)) (fun _ _ => none) (fun _ _ => none) o)
noncomputable def loadA (h : Heap) (n : Nat) : Addr → Option Value :=
  @Addr.rec (fun _ => Option Value) (fun b off spot => @Option.rec Nat (fun _ => Option Value) (ldA n off (gO (pathOf b) (Heap.tr h))) (fun _ => none) spot)

theorem loadA_eq (h : Heap) (n : Nat) (a : Addr) : loadA h n a = match loadN h a n with
      | some l => some (.agg l.toArray)
      | _ => none := by
  obtain ⟨b, off, spot⟩ := a
  cases spot with
  | some s => rfl
  | none =>
    show ldA n off (gO (pathOf b) h.tr) = _
    rw [gO_eq]
    simp only [loadN, Heap.get]
    cases h.tr.get b with
    | none => rfl
    | some o =>
      cases o with
      | row size base tr elem esz ro =>
        show @Bool.rec (fun _ => Option Value) none (some (.agg (cellsG base tr n off).toArray)) (Nat.ble (off + n) size) = _
        simp only [cellsG_eq]
        cases Nat.ble (off + n) size <;> rfl
      | map es c => rfl
      | chan c b => rfl

/-- The size of a struct or an array. -/
noncomputable def aggS (cx : Cx) (t : Nat) : Option Nat := match cx.ty t with
  | some i => match aggD i.d with
    | true => some i.size
    | false => none
  | none => none

noncomputable def loadG (cx : Cx) (t : Nat) (h : Heap) (a : Addr) : Option Value :=
  @Bool.rec (fun _ => Option Value) (@Option.rec Nat (fun _ => Option Value) none (fun n => loadA h n a) (aggS cx t)) (load1 h a) (scalS cx t)
theorem loadG_eq (cx : Cx) (t : Nat) (h : Heap) (a : Addr) : loadG cx t h a = loadT cx h t a := by
  unfold loadG scalS loadT aggS
  cases cx.ty t with
  | none => rfl
  | some i =>
    dsimp only
    cases aggD i.d with
    | false => exact load1_eq h a
    | true =>
      show loadA h i.size a = _
      rw [loadA_eq]
      cases loadN h a i.size <;> rfl

noncomputable def kLoad (t : Nat) (a : Operand) (cx : Cx) (_ : CallFn) (tm : Tr Value) (h : Heap) : R1 :=
  bndV (evG a tm) (fun v => bndP (ptrV v) (fun ad => valG (loadG cx t h ad) h))

theorem ptr_case {R : Type} (v : Value) (f : Addr → R) (d : R) : (match some v with
    | some (.pointer (some a)) => f a
    | _ => d) = @Option.rec Addr (fun _ => R) d f (ptrV v) := by
  cases v <;> first | rfl | (rename_i a; cases a <;> rfl)

theorem kLoad_eq (t : Nat) (a : Operand) (cx : Cx) (cf : CallFn) (tm : Tr Value) (h : Heap) : kLoad t a cx cf tm h = opE cx cf tm h (.load t a) := by
  simp only [kLoad, opE, evG_eq, loadG_eq, valG_eq]
  cases ev tm a with
  | none => rfl
  | some v => exact (ptr_case v (fun ad => val (loadT cx h t ad) h) none).symm

/-! ### Stores -/
noncomputable def oneS (cx : Cx) (t : Nat) : Bool := match cx.ty t with
  | some i => Nat.beq i.size 1
  | none => false

noncomputable def stO (b off : Nat) (v : Value) (h : Heap) : Option Obj → Option Heap := @Option.rec Obj (fun _ => Option Heap) none
  (fun o => @Obj.rec (fun _ => Option Heap) (fun size base tr elem esz ro => @Bool.rec (fun _ => Option Heap)
      (@Bool.rec (fun _ => Option Heap) none (some ⟨sO (pathOf b) (some (.row size base (sV (pathOf off) (some v) tr) elem esz false)) (Heap.tr h), Heap.nx h, ⟨b, off, 1⟩ :: Heap.dt h⟩) (Nat.ble (Nat.add off 1) size)) none ro)
    (fun _ _ => none) (fun _ _ => none) o)
noncomputable def store1 (v : Value) (h : Heap) : Addr → Option Heap :=
  @Addr.rec (fun _ => Option Heap) (fun b off spot => @Option.rec Nat (fun _ => Option Heap) (stO b off v h (gO (pathOf b) (Heap.tr h))) (fun _ => none) spot)
noncomputable def storeG (cx : Cx) (t : Nat) (h : Heap) (a : Addr) (v : Value) : Option Heap :=
  @Bool.rec (fun _ => Option Heap) (storeT cx h t a v) (@Bool.rec (fun _ => Option Heap) (storeT cx h t a v) (store1 v h a) (isCellG v)) (oneS cx t)

theorem isCellG_eq (v : Value) : isCellG v = isCell v := by cases v <;> rfl

theorem cell_cells {v : Value} (h : isCell v = true) : v.cells = #[v] := by
  cases v <;> first | rfl | exact Bool.noConfusion h

theorem store1_eq (h : Heap) (a : Addr) (v : Value) (hc : isCell v = true) : store1 v h a = storeN h a [v] := by
  obtain ⟨b, off, spot⟩ := a
  cases spot with
  | some s => rfl
  | none =>
    show stO b off v h (gO (pathOf b) h.tr) = _
    rw [gO_eq]
    simp only [storeN, Heap.get]
    cases h.tr.get b with
    | none => rfl
    | some o =>
      cases o with
      | row size base tr elem esz ro =>
        cases ro with
        | true => rfl
        | false =>
          have ha : allCells [v] = true := by simp [allCells, hc]
          rw [ha]
          show @Bool.rec (fun _ => Option Heap) none (some ⟨sO (pathOf b) (some (.row size base (sV (pathOf off) (some v) tr) elem esz false)) (Heap.tr h), Heap.nx h, ⟨b, off, 1⟩ :: Heap.dt h⟩) (Nat.ble (off + 1) size) = _
          rw [sO_eq, sV_eq]
          show _ = match Nat.ble (off + 1) size, true with
            | true, true => _
            | _, _ => _
          cases Nat.ble (off + 1) size <;> rfl
      | map es c => rfl
      | chan c b => rfl

theorem storeG_eq (cx : Cx) (t : Nat) (h : Heap) (a : Addr) (v : Value) : storeG cx t h a v = storeT cx h t a v := by
  unfold storeG oneS
  cases ht : cx.ty t with
  | none => rfl
  | some i =>
    dsimp only
    cases h1 : Nat.beq i.size 1 with
    | false => rfl
    | true =>
      rw [isCellG_eq]
      cases hc : isCell v with
      | false => rfl
      | true =>
        show store1 v h a = _
        rw [store1_eq h a v hc]
        unfold storeT
        rw [ht, cell_cells hc]
        have e : i.size = 1 := Nat.eq_of_beq_eq_true h1
        simp [e]

noncomputable def kStore (t : Nat) (a x : Operand) (cx : Cx) (_ : CallFn) (tm : Tr Value) (h : Heap) : R1 :=
  bndV (evG a tm) (fun v => bndP (ptrV v) (fun ad => bndV (evG x tm) (fun xv => skpG (storeG cx t h ad xv))))
theorem kStore_eq (t : Nat) (a x : Operand) (cx : Cx) (cf : CallFn) (tm : Tr Value) (h : Heap) : kStore t a x cx cf tm h = opE cx cf tm h (.store t a x) := by
  simp only [kStore, opE, evG_eq, storeG_eq, skpG_eq]
  cases ev tm a with
  | none => rfl
  | some v =>
    cases ev tm x with
    | none =>
      show @Option.rec Addr (fun _ => R1) none (fun _ => none) (ptrV v) = _
      cases v <;> first | rfl | (rename_i a; cases a <;> rfl)
    | some xv =>
      show @Option.rec Addr (fun _ => R1) none (fun ad => skp (storeT cx h t ad xv)) (ptrV v) = _
      cases v <;> first | rfl | (rename_i a; cases a <;> rfl)

/-! ### Moves, choices, tests -/
noncomputable def kMove (x : Operand) (_ : Cx) (_ : CallFn) (tm : Tr Value) (h : Heap) : R1 := valG (evG x tm) h
theorem kMove_eq (x : Operand) (cx : Cx) (cf : CallFn) (tm : Tr Value) (h : Heap) : kMove x cx cf tm h = opE cx cf tm h (.move x) := by
  simp only [kMove, opE, evG_eq, valG_eq]

noncomputable def bndB (o : Option Bool) (t f : R1) : R1 := @Option.rec Bool (fun _ => R1) none (fun b => @Bool.rec (fun _ => R1) f t b) o
noncomputable def kPick (c a b : Operand) (_ : Cx) (_ : CallFn) (tm : Tr Value) (h : Heap) : R1 :=
  bndV (evG c tm) (fun v => bndB (boolV v) (valG (evG a tm) h) (valG (evG b tm) h))
theorem kPick_eq (c a b : Operand) (cx : Cx) (cf : CallFn) (tm : Tr Value) (h : Heap) : kPick c a b cx cf tm h = opE cx cf tm h (.pick c a b) := by
  simp only [kPick, opE, evG_eq, valG_eq]
  cases ev tm c with
  | none => rfl
  | some v => cases v <;> first | rfl | (rename_i b; cases b <;> rfl)

noncomputable def nilS (v : Value) (h : Heap) : R1 := match some v with
    | some (.pointer (some a)) => some (.val (.pointer (some a)), h)
    | some (.func (.func f) a b) => some (.val (.func (.func f) a b), h)
    | _ => none
noncomputable def kNil (x : Operand) (_ : Cx) (_ : CallFn) (tm : Tr Value) (h : Heap) : R1 :=
  bndV (evG x tm) (fun v => @Option.rec Addr (fun _ => R1) (nilS v h) (fun a => some (.val (.pointer (some a)), h)) (ptrV v))
theorem kNil_eq (x : Operand) (cx : Cx) (cf : CallFn) (tm : Tr Value) (h : Heap) : kNil x cx cf tm h = opE cx cf tm h (.nilCheck x) := by
  simp only [kNil, opE, evG_eq]
  cases ev tm x with
  | none => rfl
  | some v => cases v <;> first | rfl | (rename_i a; cases a <;> rfl)

noncomputable def binS (op : BinOp) (t : Nat) (x y : Operand) (cx : Cx) (h : Heap) (a b : Value) : Option Value := match guardE x y a with
    | true => binE cx h op t a b
    | false => none
noncomputable def aggC : Value → (Array Value → Option Value) → Option Value → Option Value := @Value.rec (fun _ => (Array Value → Option Value) → Option Value → Option Value) (fun _ => Unit) (fun _ => Unit)
  (fun _ _ d => d) (fun _ _ _ d => d) (fun _ _ _ d => d) (fun _ _ _ _ d => d) (fun _ _ d => d) (fun _ _ d => d) (fun _ _ _ _ d => d) (fun _ _ d => d) (fun _ _ d => d)
  (fun _ _ _ _ _ _ d => d) (fun _ d => d) (fun _ _ _ _ d => d) (fun _ d => d) (fun a _ f _ => f a) (fun _ _ _ d => d) (fun _ _ => ()) () (fun _ _ _ _ => ())
theorem aggC_not {v : Value} (hv : ∀ a, v ≠ .agg a) (f : Array Value → Option Value) (d : Option Value) : aggC v f d = d := by
  cases v <;> first | rfl | exact absurd rfl (hv _)
/-- Structs and arrays of integers and truth values are compared cell by cell. -/
noncomputable def binT (op : BinOp) (t : Nat) (x y : Operand) (cx : Cx) (h : Heap) (a b : Value) : Option Value :=
  @Option.rec (List (Option IntKind)) (fun _ => Option Value) (binS op t x y cx h a b) (fun ks => aggC a (fun xs => aggC b (fun ys =>
    @Bool.rec (fun _ => Option Value) (binS op t x y cx h a b) (some (.bool (eqL xs.toList ys.toList))) (mtB ks xs.toList ys.toList)) (binS op t x y cx h a b)) (binS op t x y cx h a b)) (eqS cx op t)
theorem binT_eq (op : BinOp) (t : Nat) (x y : Operand) (cx : Cx) (h : Heap) (a b : Value) : binT op t x y cx h a b = binS op t x y cx h a b := by
  unfold binT
  cases hs : eqS cx op t with
  | none => rfl
  | some ks =>
    dsimp only
    by_cases ha : ∃ xs, a = .agg xs
    · obtain ⟨xs, rfl⟩ := ha
      by_cases hb : ∃ ys, b = .agg ys
      · obtain ⟨ys, rfl⟩ := hb
        show @Bool.rec (fun _ => Option Value) (binS op t x y cx h (.agg xs) (.agg ys)) (some (.bool (eqL xs.toList ys.toList))) (mtB ks xs.toList ys.toList) = _
        cases hm : mtB ks xs.toList ys.toList with
        | false => rfl
        | true => exact (eqS_ok hs h hm).symm
      · exact aggC_not (fun ys e => hb ⟨ys, e⟩) _ _
    · exact aggC_not (fun xs e => ha ⟨xs, e⟩) _ _
noncomputable def kBin (op : BinOp) (t : Nat) (x y : Operand) (_ : Nat) (cx : Cx) (_ : CallFn) (tm : Tr Value) (h : Heap) : R1 :=
  bndV (evG x tm) (fun a => bndV (evG y tm) (fun b => valG (intC a (fun k m => intC b (fun k' n => intAll op k k' m n) (binS op t x y cx h a b)) (binT op t x y cx h a b)) h))
theorem intC_int (k : IntKind) (n : Int) (f : IntF) (d : Option Value) : intC (.int k n) f d = f k n := rfl
theorem intC_not {v : Value} (hv : ∀ k n, v ≠ .int k n) (f : IntF) (d : Option Value) : intC v f d = d := by
  cases v <;> first | rfl | exact absurd rfl (hv _ _)
theorem binG_eq (op : BinOp) (t : Nat) (x y : Operand) (cx : Cx) (h : Heap) (a b : Value) :
    intC a (fun k m => intC b (fun k' n => intAll op k k' m n) (binS op t x y cx h a b)) (binT op t x y cx h a b) = binS op t x y cx h a b := by
  rw [binT_eq]
  by_cases ha : ∃ k m, a = .int k m
  · obtain ⟨k, m, rfl⟩ := ha
    rw [intC_int]
    by_cases hb : ∃ k m, b = .int k m
    · obtain ⟨k', n, rfl⟩ := hb
      rw [intC_int, intAll_eq cx h op t k k' m n]
      rfl
    · exact intC_not (fun k n e => hb ⟨k, n, e⟩) _ _
  · exact intC_not (fun k n e => ha ⟨k, n, e⟩) _ _
theorem kBin_eq (op : BinOp) (t : Nat) (x y : Operand) (u : Nat) (cx : Cx) (cf : CallFn) (tm : Tr Value) (h : Heap) : kBin op t x y u cx cf tm h = opE cx cf tm h (.binOp op t x y u) := by
  simp only [kBin, opE, evG_eq, binG_eq, valG_eq]
  cases ev tm x with
  | none => rfl
  | some a => cases ev tm y with
    | none => rfl
    | some b =>
      show val (binS op t x y cx h a b) h = _
      unfold binS
      cases hg : guardE x y a <;> simp only [hg] <;> rfl

noncomputable def convS (cx : Cx) (s d : Nat) : Option IntKind := match cx.ty s, cx.ty d with
  | some si, some di => match si.d, di.d with
    | .int _, .int k => some k
    | _, _ => none
  | _, _ => none
noncomputable def convI (k : IntKind) (n : Int) : Option Value := @Int.rec (fun _ => Option Value) (fun m => some (.int k (wrapN k m))) (fun _ => some (.int k (k.wrap n))) n
noncomputable def convG (s d : Nat) (cx : Cx) (h : Heap) (a : Value) : Option Value :=
  @Option.rec IntKind (fun _ => Option Value) (convertE cx h s d a) (fun k => intC a (fun _ n => convI k n) (convertE cx h s d a)) (convS cx s d)
theorem convG_eq (s d : Nat) (cx : Cx) (h : Heap) (a : Value) : convG s d cx h a = convertE cx h s d a := by
  unfold convG convS
  cases hs : cx.ty s with
  | none => rfl
  | some si => cases hd : cx.ty d with
    | none => rfl
    | some di =>
      by_cases ha : ∃ k m, a = .int k m
      · obtain ⟨k', m, rfl⟩ := ha
        unfold convertE
        rw [hs, hd]
        cases e1 : si.d <;> cases e2 : di.d <;> simp only [e1, e2] <;> try rfl
        rename_i k0 k
        show convI k m = _
        cases m with
        | ofNat m => show some (Value.int k (wrapN k m)) = _; rw [wrapN_eq]
        | negSucc m => rfl
      · cases e1 : si.d <;> cases e2 : di.d <;> simp only [e1, e2] <;> first | rfl | exact intC_not (fun k n e => ha ⟨k, n, e⟩) _ _
noncomputable def kConv (s d : Nat) (x : Operand) (cx : Cx) (_ : CallFn) (tm : Tr Value) (h : Heap) : R1 := bndV (evG x tm) (fun a => valG (convG s d cx h a) h)
theorem kConv_eq (s d : Nat) (x : Operand) (cx : Cx) (cf : CallFn) (tm : Tr Value) (h : Heap) : kConv s d x cx cf tm h = opE cx cf tm h (.convert s d x) := by
  simp only [kConv, opE, evG_eq, convG_eq, valG_eq]
  cases ev tm x <;> rfl

/-! ### Addresses of parts -/
noncomputable def addV (a : Addr) (o : Nat) : Option Value :=
  @Bool.rec (fun _ => Option Value) (@Addr.rec (fun _ => Option Value) (fun b off _ => natK (fun o' => some (.pointer (some ⟨b, o', none⟩))) (Nat.add off o)) a) (some (.pointer (some a))) (Nat.beq o 0)
theorem addV_eq (a : Addr) (o : Nat) : addV a o = match Nat.beq o 0 with
          | true => some (.pointer (some a))
          | false => some (.pointer (some ⟨a.block, a.off + o, none⟩)) := by
  unfold addV
  cases Nat.beq o 0 with
  | true => rfl
  | false =>
    show natK (fun o' => some (Value.pointer (some ⟨a.block, o', none⟩))) (a.off + o) = _
    rw [natK_eq]

noncomputable def offS (cx : Cx) (t f : Nat) : Option Nat := match cx.ty t with
  | some i => match i.d with
    | .struct fs => match fieldAt fs.toList f with
      | some f => match cx.ty f.type with
        | some j => match Nat.beq j.size 0 with
          | true => none
          | false => some f.offset
        | none => none
      | none => none
    | _ => none
  | none => none
noncomputable def faG (t f : Nat) (cx : Cx) (v : Value) : Option Value :=
  @Option.rec Addr (fun _ => Option Value) none (fun a => @Option.rec Nat (fun _ => Option Value) none (addV a) (offS cx t f)) (ptrV v)
theorem faG_eq (t f : Nat) (cx : Cx) (v : Value) : faG t f cx v = fieldAddrE cx t v f := by
  by_cases hv : ∃ a, v = .pointer (some a)
  · obtain ⟨a, rfl⟩ := hv
    show @Option.rec Nat (fun _ => Option Value) none (addV a) (offS cx t f) = _
    unfold offS fieldAddrE
    cases cx.ty t with
    | none => rfl
    | some i =>
      dsimp only
      cases i.d <;> try rfl
      rename_i fs
      dsimp only
      cases fieldAt fs.toList f with
      | none => rfl
      | some f =>
        dsimp only
        cases cx.ty f.type with
        | none => rfl
        | some j =>
          dsimp only
          cases Nat.beq j.size 0 with
          | true => rfl
          | false => exact addV_eq a f.offset
  · have e : ptrV v = none := by
      cases h : ptrV v with
      | none => rfl
      | some a => exact absurd ⟨a, ptrV_eq h⟩ hv
    unfold faG
    rw [e]
    unfold fieldAddrE
    cases cx.ty t with
    | none => rfl
    | some i => cases v <;> first | rfl | (rename_i a; cases a <;> first | rfl | exact absurd ⟨_, rfl⟩ hv)
noncomputable def kFA (t : Nat) (x : Operand) (f : Nat) (cx : Cx) (_ : CallFn) (tm : Tr Value) (h : Heap) : R1 := bndV (evG x tm) (fun v => valG (faG t f cx v) h)
theorem kFA_eq (t : Nat) (x : Operand) (f : Nat) (cx : Cx) (cf : CallFn) (tm : Tr Value) (h : Heap) : kFA t x f cx cf tm h = opE cx cf tm h (.fieldAddr t x f) := by
  simp only [kFA, opE, evG_eq, faG_eq, valG_eq]
  cases ev tm x <;> rfl

inductive Ia where
  | no
  | arr (n size : Nat)
  | sl (size : Nat)
noncomputable def iaS (cx : Cx) (t : Nat) : Ia := match cx.ty t with
  | some i => match i.d with
    | .array n e => match cx.ty e with
      | some j => .arr n j.size
      | none => .no
    | .slice e => match cx.ty e with
      | some j => .sl j.size
      | none => .no
    | _ => .no
  | none => .no
noncomputable def iaI (a : Addr) (n size : Nat) : Int → Option Value := @Int.rec (fun _ => Option Value)
  (fun m => @Bool.rec (fun _ => Option Value) none (addV a (Nat.mul m size)) (Nat.ble (Nat.succ m) n)) (fun _ => none)
noncomputable def iaG : Ia → Value → Int → Option Value := @Ia.rec (fun _ => Value → Int → Option Value) (fun _ _ => none)
  (fun n size v i => @Option.rec Addr (fun _ => Option Value) none (fun a => iaI a n size i) (ptrV v))
  (fun size v i => sliceC v (fun a n _ => @Option.rec Addr (fun _ => Option Value) none (fun a => iaI a n size i) a) none)
theorem iaI_eq (a : Addr) (n size : Nat) (i : Int) : iaI a n size i = match decide (0 ≤ i), Nat.blt i.toNat n with
      | true, true => match Nat.beq (i.toNat * size) 0 with
        | true => some (.pointer (some a))
        | false => some (.pointer (some ⟨a.block, a.off + i.toNat * size, none⟩))
      | _, _ => none := by
  cases i with
  | negSucc m => rfl
  | ofNat m =>
    have e : decide (0 ≤ Int.ofNat m) = true := decide_eq_true (Int.natCast_nonneg m)
    rw [e]
    show @Bool.rec (fun _ => Option Value) none (addV a (m * size)) (Nat.ble (m + 1) n) = match true, Nat.ble (m + 1) n with
      | true, true => _
      | _, _ => _
    cases Nat.ble (m + 1) n with
    | false => rfl
    | true => exact addV_eq a (m * size)
theorem iaG_eq (t : Nat) (cx : Cx) (v : Value) (k : IntKind) (i : Int) : iaG (iaS cx t) v i = indexAddrE cx t v (.int k i) := by
  unfold iaS indexAddrE
  cases cx.ty t with
  | none => rfl
  | some ti =>
    dsimp only
    cases ti.d <;> try rfl
    · rename_i e
      dsimp only
      cases v <;> first | (cases cx.ty e <;> rfl) | skip
      rename_i a n c
      cases a with
      | none => cases cx.ty e <;> rfl
      | some a =>
        dsimp only
        cases hj : cx.ty e with
        | none => cases decide (0 ≤ i) <;> cases Nat.blt i.toNat n <;> rfl
        | some j =>
          show iaI a n j.size i = _
          rw [iaI_eq]
          cases decide (0 ≤ i) <;> cases Nat.blt i.toNat n <;> rfl
    · rename_i n e
      dsimp only
      cases v <;> first | (cases cx.ty e <;> rfl) | skip
      rename_i a
      cases a with
      | none => cases cx.ty e <;> rfl
      | some a =>
        dsimp only
        cases hj : cx.ty e with
        | none => cases decide (0 ≤ i) <;> cases Nat.blt i.toNat n <;> rfl
        | some j =>
          show iaI a n j.size i = _
          rw [iaI_eq]
          cases decide (0 ≤ i) <;> cases Nat.blt i.toNat n <;> rfl
noncomputable def kIA (t : Nat) (x i : Operand) (cx : Cx) (_ : CallFn) (tm : Tr Value) (h : Heap) : R1 :=
  bndV (evG x tm) (fun v => bndV (evG i tm) (fun iv => valG (intC iv (fun _ n => iaG (iaS cx t) v n) none) h))
theorem kIA_eq (t : Nat) (x i : Operand) (cx : Cx) (cf : CallFn) (tm : Tr Value) (h : Heap) : kIA t x i cx cf tm h = opE cx cf tm h (.indexAddr t x i) := by
  simp only [kIA, opE, evG_eq, valG_eq]
  cases ev tm x with
  | none => rfl
  | some v => cases ev tm i with
    | none => rfl
    | some iv =>
      show val (intC iv (fun _ n => iaG (iaS cx t) v n) none) h = val (indexAddrE cx t v iv) h
      by_cases hv : ∃ k m, iv = .int k m
      · obtain ⟨k, m, rfl⟩ := hv
        rw [intC_int, iaG_eq t cx v k m]
      · rw [intC_not (fun k n e => hv ⟨k, n, e⟩)]
        unfold indexAddrE
        cases cx.ty t with
        | none => rfl
        | some ti => cases iv <;> first | rfl | exact absurd ⟨_, _, rfl⟩ hv

/-! ### What makes blocks -/
noncomputable def addG (v : Nat → Value) (o : Obj) (h : Heap) : R1 :=
  natK (fun n => some (.val (v n), ⟨sO (pathOf n) (some o) (Heap.tr h), Nat.succ n, ⟨n, 0, unk⟩ :: Heap.dt h⟩)) (Heap.nx h)
theorem addG_eq (v : Nat → Value) (o : Obj) (h : Heap) : addG v o h = some (.val (v h.nx), h.add o) := by
  unfold addG
  rw [natK_eq, sO_eq]
  rfl

noncomputable def lgetG : List Value → Nat → Value := @List.rec Value (fun _ => Nat → Value) (fun _ => undef) (fun v _ ih => @Nat.rec (fun _ => Value) v (fun m _ => ih m))
theorem lgetG_eq : ∀ (l : List Value) (n : Nat), lgetG l n = lget l n
  | [], n => by simp [lget]; rfl
  | v :: l, 0 => by simp [lget]; rfl
  | v :: l, n + 1 => by
    show lgetG l n = _
    rw [lgetG_eq l n]; simp [lget]

noncomputable def argsG : List Value → Nat → Tr Value → Tr Value := @List.rec Value (fun _ => Nat → Tr Value → Tr Value) (fun _ t => t) (fun v _ ih i t => ih (Nat.succ i) (sV (pathOf i) (some v) t))
theorem argsG_eq : ∀ (l : List Value) (i : Nat) (t : Tr Value), argsG l i t = argsT i l t
  | [], i, t => by simp [argsT]; rfl
  | v :: l, i, t => by
    show argsG l (i + 1) (sV (pathOf i) (some v) t) = _
    rw [argsG_eq l, sV_eq]; simp [argsT]
theorem argsT_at : ∀ (l : List Value) (i : Nat) (t : Tr Value) (k : Nat), (argsT i l t).get k = if i ≤ k then (match l[k - i]? with
    | some v => some v
    | none => t.get k) else t.get k
  | [], i, t, k => by simp [argsT]
  | v :: l, i, t, k => by
    simp only [argsT]
    rw [argsT_at l (i + 1), Tr.get_set]
    by_cases h1 : i + 1 ≤ k
    · have e : k - i = (k - (i + 1)) + 1 := by omega
      have h2 : k ≠ i := by omega
      have h3 : i ≤ k := by omega
      simp [h1, h2, h3, e]
    · by_cases h2 : k = i
      · subst h2; simp [h1]
      · have h3 : ¬ i ≤ k := by omega
        simp [h1, h2, h3]
theorem lget_getD : ∀ (l : List Value) (i : Nat), lget l i = match l[i]? with
    | some v => v
    | none => undef
  | [], i => by simp [lget]
  | v :: l, 0 => by simp [lget]
  | v :: l, i + 1 => by
    have := lget_getD l i
    simp only [lget]
    rw [this]; simp

/-- What the cells of a list are, by a tree. -/
noncomputable def treeB (cs : List Value) (i : Nat) : Value := rowG (fun _ => undef) (argsG cs 0 .nil) i
theorem treeB_eq (cs : List Value) (i : Nat) : treeB cs i = lget cs i := by
  unfold treeB
  rw [rowG_eq, argsG_eq]
  unfold rowAt
  rw [argsT_at, lget_getD]
  simp only [Nat.zero_le, if_true, Nat.sub_zero]
  cases cs[i]? <;> rfl

noncomputable def sameQ (cs : List Value) (n : Nat) : Bool := match Nat.ble n 256 with
  | true => false
  | false => match cs with
    | [] => false
    | v :: _ => allSame v cs
theorem mkRow_lget {cs : List Value} {n elem esz : Nat} (h : sameQ cs n = false) : mkRow cs n elem esz = .row n (lget cs) .nil elem esz false := by
  unfold sameQ at h
  unfold mkRow
  cases hn : Nat.ble n 256 with
  | true => rfl
  | false =>
    rw [hn] at h
    cases cs with
    | nil => rfl
    | cons v l =>
      dsimp only at h ⊢
      rw [h]
noncomputable def mkRowG (cs : List Value) (n elem esz : Nat) : Obj := match sameQ cs n with
  | true => mkRow cs n elem esz
  | false => .row n (lgetG cs) .nil elem esz false
noncomputable def mkRowT (cs : List Value) (n elem esz : Nat) : Obj := match sameQ cs n with
  | true => mkRow cs n elem esz
  | false => .row n (treeB cs) .nil elem esz false
theorem mkRowG_eq (cs : List Value) (n elem esz : Nat) : mkRowG cs n elem esz = mkRow cs n elem esz := by
  unfold mkRowG
  cases h : sameQ cs n with
  | true => rfl
  | false => rw [mkRow_lget h, show lgetG cs = lget cs from funext (lgetG_eq cs)]
theorem mkRowT_eq (cs : List Value) (n elem esz : Nat) : mkRowT cs n elem esz = mkRow cs n elem esz := by
  unfold mkRowT
  cases h : sameQ cs n with
  | true => rfl
  | false => rw [mkRow_lget h, show treeB cs = lget cs from funext (treeB_eq cs)]

noncomputable def rowS (cx : Cx) (t : Nat) : Option Obj := match cx.ty t with
    | some i => some (mkRowT i.zero.cells.toList i.zero.cells.size t 0)
    | none => none
noncomputable def kAlloc (t : Nat) (cx : Cx) (_ : CallFn) (_ : Tr Value) (h : Heap) : R1 :=
  @Option.rec Obj (fun _ => R1) none (fun o => addG (fun n => .pointer (some ⟨n, 0, none⟩)) o h) (rowS cx t)
theorem kAlloc_eq (t : Nat) (cx : Cx) (cf : CallFn) (tm : Tr Value) (h : Heap) : kAlloc t cx cf tm h = opE cx cf tm h (.alloc t) := by
  simp only [kAlloc, opE, makeE, rowS, mkRowT_eq, addG_eq]
  cases cx.ty t <;> rfl

noncomputable def kBox (t : Nat) (x : Operand) (_ : Cx) (_ : CallFn) (tm : Tr Value) (h : Heap) : R1 :=
  bndV (evG x tm) (fun v => addG (fun n => .pointer (some ⟨n, 0, none⟩)) (mkRowG v.cells.toList v.cells.size t 0) h)
theorem kBox_eq (t : Nat) (x : Operand) (cx : Cx) (cf : CallFn) (tm : Tr Value) (h : Heap) : kBox t x cx cf tm h = opE cx cf tm h (.box t x) := by
  simp only [kBox, opE, makeE, evG_eq, mkRowG_eq, addG_eq]
  cases ev tm x <;> rfl

noncomputable def kMake (o : Op) (cx : Cx) (_ : CallFn) (tm : Tr Value) (h : Heap) : R1 := match makeE cx tm h o with
    | some (v, b) => some (.val v, h.add b)
    | none => none

/-! ### Calls -/
noncomputable def finC : Option (Fin × Heap) → R1 := @Option.rec (Fin × Heap) (fun _ => R1) none
  (fun p => @Prod.rec Fin Heap (fun _ => R1) (fun r h => @Fin.rec (fun _ => R1) (fun v => some (.val v, h)) (fun c => some (.pan c, h)) r) p)
noncomputable def kVal (cf : CallFn) (h : Heap) (f : Value) (args : List Value) : R1 := match target f args with
        | some (g, args) => match cf g args h with
          | some (.ret v, h') => some (.val v, h')
          | some (.pan chain, h') => some (.pan chain, h')
          | none => none
        | none => none
noncomputable def calS (f : Operand) (l : List Operand) (cf : CallFn) (tm : Tr Value) (h : Heap) : R1 := match ev tm f, evs tm l with
      | some f, some args => kVal cf h f args
      | _, _ => none
noncomputable def calG (l : List Operand) (f : Operand) (cf : CallFn) (tm : Tr Value) (h : Heap) : R1 :=
  @Operand.rec (fun _ => R1) (fun t => calS (.tmp t) l cf tm h) (fun v => calS (.const v) l cf tm h) (fun g => calS (.global g) l cf tm h)
    (fun g => @Option.rec (List Value) (fun _ => R1) none (fun args => finC (cf g args h)) (evsG tm l)) f
theorem finC_eq (r : Option (Fin × Heap)) : finC r = match r with
          | some (.ret v, h') => some (.val v, h')
          | some (.pan chain, h') => some (.pan chain, h')
          | none => none := by
  cases r with
  | none => rfl
  | some p => obtain ⟨r, h⟩ := p; cases r <;> rfl
theorem calG_eq (f : Operand) (l : List Operand) (cf : CallFn) (tm : Tr Value) (h : Heap) : calG l f cf tm h = calS f l cf tm h := by
  cases f
  case func g =>
    show @Option.rec (List Value) (fun _ => R1) none (fun args => finC (cf g args h)) (evsG tm l) = _
    simp only [evsG_eq, calS, ev, kVal, target]
    cases evs tm l with
    | none => rfl
    | some args =>
      simp only [finC_eq]
      have e : (#[] : Array Value).toList ++ args ++ (#[] : Array Value).toList = args := by simp
      rw [e]
  all_goals rfl

noncomputable def isSlS (cx : Cx) (t : Nat) : Bool := match cx.ty t with
  | some i => match i.d with
    | .slice _ => true
    | _ => false
  | none => false
/-- The operand of a slice's len. -/
noncomputable def lenS (cx : Cx) (b : Builtin) (l : List Operand) (ts : List Nat) : Option Operand := match b, l, ts with
  | .len, [x], [t] => match isSlS cx t with
    | true => some x
    | false => none
  | _, _, _ => none
noncomputable def buiS (cx : Cx) (h : Heap) (b : Builtin) (l : List Operand) (ts : List Nat) (tm : Tr Value) : R1 := match evs tm l with
      | some args => builtinE cx h b ts args
      | none => none
noncomputable def buiG (cx : Cx) (h : Heap) (b : Builtin) (l : List Operand) (ts : List Nat) (tm : Tr Value) : R1 :=
  @Option.rec Operand (fun _ => R1) (buiS cx h b l ts tm) (fun x => @Option.rec Value (fun _ => R1) none
    (fun v => @Option.rec Value (fun _ => R1) (buiS cx h b l ts tm) (fun r => some (.val r, h)) (sliceC v (fun _ n _ => some (.int .i64 (Int.ofNat n))) none)) (evG x tm)) (lenS cx b l ts)
theorem buiG_eq (cx : Cx) (h : Heap) (b : Builtin) (l : List Operand) (ts : List Nat) (tm : Tr Value) : buiG cx h b l ts tm = buiS cx h b l ts tm := by
  unfold buiG
  cases hs : lenS cx b l ts with
  | none => rfl
  | some x =>
    have hb : b = .len ∧ l = [x] ∧ ∃ t, ts = [t] ∧ isSlS cx t = true := by
      unfold lenS at hs
      split at hs
      · rename_i x' t
        cases ht : isSlS cx t with
        | false => rw [ht] at hs; cases hs
        | true => rw [ht] at hs; cases hs; exact ⟨rfl, rfl, t, rfl, ht⟩
      · cases hs
    obtain ⟨rfl, rfl, t, rfl, ht⟩ := hb
    show @Option.rec Value (fun _ => R1) none _ (evG x tm) = _
    rw [evG_eq]
    cases hv : ev tm x with
    | none => simp [buiS, evs, hv]
    | some v =>
      cases v <;> try rfl
      rename_i a n c
      show some (Out.val (.int .i64 (Int.ofNat n)), h) = _
      simp only [buiS, evs, hv, builtinE, lenOp]
      unfold isSlS at ht
      cases hi : cx.ty t with
      | none => rw [hi] at ht; cases ht
      | some i =>
        rw [hi] at ht
        cases hd : i.d <;> simp only [hd] at ht ⊢ <;> first | rfl | cases ht

noncomputable def kCall (c : Call) (cx : Cx) (cf : CallFn) (tm : Tr Value) (h : Heap) : R1 :=
  @Callee.rec (fun _ => R1) (fun f => calG c.args.toList f cf tm h) (fun _ _ => none) (fun b => buiG cx h b c.args.toList c.argTypes.toList tm) c.callee
theorem kCall_eq (c : Call) (cx : Cx) (cf : CallFn) (tm : Tr Value) (h : Heap) : kCall c cx cf tm h = opE cx cf tm h (.call c) := by
  obtain ⟨ce, args, ts⟩ := c
  cases ce with
  | value f => show calG args.toList f cf tm h = _; rw [calG_eq]; rfl
  | invoke a b => rfl
  | builtin b => show buiG cx h b args.toList ts.toList tm = _; rw [buiG_eq]; rfl

/-! ### The others -/
noncomputable def kBuild (t : Nat) (ps : Array (Nat × Operand)) (cx : Cx) (_ : CallFn) (tm : Tr Value) (h : Heap) : R1 := match evParts tm ps.toList with
    | some l => val (buildE cx t l) h
    | none => none
noncomputable def kUn (op : UnOp) (_ : Nat) (x : Operand) (_ : Cx) (_ : CallFn) (tm : Tr Value) (h : Heap) : R1 := match ev tm x with
    | some a => val (unE op a) h
    | none => none
noncomputable def kMkI (t : Nat) (x : Operand) (cx : Cx) (_ : CallFn) (tm : Tr Value) (h : Heap) : R1 := match cx.ty t, ev tm x with
    | some i, some v => match i.d with
      | .interface _ => none
      | _ => some (.val (.iface t v), h)
    | _, _ => none
noncomputable def kMkF (fn : Fn) (a b : Array Operand) (_ : Cx) (_ : CallFn) (tm : Tr Value) (h : Heap) : R1 := match evs tm a.toList, evs tm b.toList with
    | some a, some b => some (.val (.func fn a.toArray b.toArray), h)
    | _, _ => none
noncomputable def kUpd (t : Nat) (m k v : Operand) (cx : Cx) (_ : CallFn) (tm : Tr Value) (h : Heap) : R1 := match ev tm m, ev tm k, ev tm v with
    | some m, some k, some v => skp (updateE cx h t m k v)
    | _, _, _ => none
noncomputable def kSlice (t : Nat) (x : Operand) (lo hi mx : Option Operand) (cx : Cx) (_ : CallFn) (tm : Tr Value) (h : Heap) : R1 := match ev tm x, evO tm lo, evO tm hi, evO tm mx with
    | some x, some lo, some hi, some mx => val (sliceE cx h t x lo hi mx) h
    | _, _, _, _ => none
noncomputable def kField (t : Nat) (x : Operand) (f : Nat) (cx : Cx) (_ : CallFn) (tm : Tr Value) (h : Heap) : R1 := match ev tm x with
    | some x => val (fieldE cx t x f) h
    | none => none
noncomputable def kIndex (t : Nat) (x i : Operand) (cx : Cx) (_ : CallFn) (tm : Tr Value) (h : Heap) : R1 := match ev tm x, ev tm i with
    | some x, some i => val (indexE cx t x i) h
    | _, _ => none
noncomputable def kLookup (t : Nat) (x i : Operand) (ok : Bool) (cx : Cx) (_ : CallFn) (tm : Tr Value) (h : Heap) : R1 := match ev tm x, ev tm i with
    | some x, some i => val (lookupE cx h t x i ok) h
    | _, _ => none
noncomputable def kTA (x : Operand) (_ : Nat) (want : Nat) (ok : Bool) (cx : Cx) (_ : CallFn) (tm : Tr Value) (h : Heap) : R1 := match ev tm x with
    | some x => val (assertE cx x want ok) h
    | none => none
noncomputable def tupV : Value → Option (List Value) := @Value.rec (fun _ => Option (List Value)) (fun _ => Unit) (fun _ => Unit)
  (fun _ => none) (fun _ _ => none) (fun _ _ => none) (fun _ _ _ => none) (fun _ => none) (fun _ => none) (fun _ _ _ => none) (fun _ => none) (fun _ => none)
  (fun _ _ _ _ _ => none) none (fun _ _ _ => none) none (fun _ _ => none) (fun a _ => some a.toList) (fun _ _ => ()) () (fun _ _ _ _ => ())
noncomputable def tupG : Nat → List Value → Option Value := @Nat.rec (fun _ => List Value → Option Value) (@List.rec Value (fun _ => Option Value) none (fun v _ _ => some v)) (fun _ ih => @List.rec Value (fun _ => Option Value) none (fun _ l _ => ih l))
theorem tupG_eq : ∀ (n : Nat) (l : List Value), tupG n l = tupAt l n
  | 0, [] => by simp [tupAt]; rfl
  | 0, v :: l => by simp [tupAt]; rfl
  | n + 1, [] => by simp [tupAt]; rfl
  | n + 1, v :: l => by
    show tupG n l = _
    rw [tupG_eq n l]; simp [tupAt]
noncomputable def kExt (t : Operand) (i : Nat) (_ : Cx) (_ : CallFn) (tm : Tr Value) (h : Heap) : R1 :=
  bndV (evG t tm) (fun v => @Option.rec (List Value) (fun _ => R1) none (fun l => valG (tupG i l) h) (tupV v))
theorem kExt_eq (t : Operand) (i : Nat) (cx : Cx) (cf : CallFn) (tm : Tr Value) (h : Heap) : kExt t i cx cf tm h = opE cx cf tm h (.extract t i) := by
  simp only [kExt, opE, evG_eq, tupG_eq, valG_eq]
  cases ev tm t with
  | none => rfl
  | some v => cases v <;> rfl
noncomputable def kOth (o : Op) (cx : Cx) (cf : CallFn) (tm : Tr Value) (h : Heap) : R1 := opE cx cf tm h o

noncomputable def disp : Op → K := @Op.rec (fun _ => K)
  kMove kMove kPick kAlloc kBox kBuild (fun a b c => kMake (.buildSlice a b c)) kUpd
  kLoad kStore (fun a => kOth (.ready a)) (fun a => kOth (.waits a)) kNil kBin kUn kConv (fun a b => kOth (.sliceToArrayPointer a b)) kMkI kMkF
  (fun a b => kMake (.makeMap a b)) (fun a b => kMake (.makeChan a b)) (fun a b c => kMake (.makeSlice a b c)) kSlice kFA kField kIA kIndex kLookup
  kUpd (fun a b c => kOth (.mapEntry a b c)) (fun a b c d => kOth (.entryStore a b c d)) (fun a b => kOth (.range a b)) (fun a b => kOth (.next a b)) (fun a => kOth (.entry a)) kTA
  kExt kCall (fun a => kOth (.go a)) (fun a => kOth (.defer a)) (fun a => kOth (.panic a)) (fun a b => kOth (.send a b)) (fun a b c => kOth (.recv a b c)) (fun a b => kOth (.select a b))

theorem disp_eq (o : Op) (cx : Cx) (cf : CallFn) (tm : Tr Value) (h : Heap) : disp o cx cf tm h = opE cx cf tm h o := by
  cases o
  case move x => exact kMove_eq x cx cf tm h
  case assign x => exact kMove_eq x cx cf tm h
  case pick c a b => exact kPick_eq c a b cx cf tm h
  case alloc t => exact kAlloc_eq t cx cf tm h
  case box t x => exact kBox_eq t x cx cf tm h
  case load t a => exact kLoad_eq t a cx cf tm h
  case store t a x => exact kStore_eq t a x cx cf tm h
  case nilCheck x => exact kNil_eq x cx cf tm h
  case binOp op t x y u => exact kBin_eq op t x y u cx cf tm h
  case convert s d x => exact kConv_eq s d x cx cf tm h
  case fieldAddr t x f => exact kFA_eq t x f cx cf tm h
  case indexAddr t x i => exact kIA_eq t x i cx cf tm h
  case extract t i => exact kExt_eq t i cx cf tm h
  case call c => exact kCall_eq c cx cf tm h
  all_goals rfl

end Go.Em
