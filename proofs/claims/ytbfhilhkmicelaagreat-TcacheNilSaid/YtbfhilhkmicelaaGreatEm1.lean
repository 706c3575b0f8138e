/-
  An evaluator of loaded programs over a small memory of its own: blocks are told apart by numbers of its own, the order inside a statement is the text's, capacities that append draws are left open.
  Here: its data and its steps, no proof.
-/
import Derived.Recover
import Derived.Orders
namespace Go.Em

/-- A table from numbers: a binary tree. -/
inductive Tr (α : Type) where
  | nil
  | node (v : Option α) (l r : Tr α)

namespace Tr
variable {α : Type}

noncomputable def get (t : Tr α) : Nat → Option α :=
  Tr.rec (motive := fun _ => Nat → Option α) (fun _ => none)
    (fun v _ _ gl gr n => Bool.rec (Bool.rec (gr (Nat.div (Nat.pred n) 2)) (gl (Nat.div (Nat.pred n) 2)) (Nat.beq (Nat.mod (Nat.pred n) 2) 0)) v (Nat.beq n 0)) t

noncomputable def setF (f : Nat) : Tr α → Nat → Option α → Tr α :=
  Nat.rec (motive := fun _ => Tr α → Nat → Option α → Tr α) (fun t _ _ => t) (fun _ ih t n o =>
    Tr.rec (motive := fun _ => Tr α)
      (Bool.rec (Bool.rec (.node none .nil (ih .nil (Nat.div (Nat.pred n) 2) o)) (.node none (ih .nil (Nat.div (Nat.pred n) 2) o) .nil) (Nat.beq (Nat.mod (Nat.pred n) 2) 0)) (.node o .nil .nil) (Nat.beq n 0))
      (fun v l r _ _ => Bool.rec (Bool.rec (.node v l (ih r (Nat.div (Nat.pred n) 2) o)) (.node v (ih l (Nat.div (Nat.pred n) 2) o) r) (Nat.beq (Nat.mod (Nat.pred n) 2) 0)) (.node o l r) (Nat.beq n 0)) t) f

noncomputable def set (t : Tr α) (n : Nat) (o : Option α) : Tr α := setF (n + 1) t n o

end Tr

noncomputable section

/-- The sign of a capacity that is not known. -/
def unk : Nat := 18446744073709551616

/-- What a block holds. `row`: its size, what a cell holds that was not written, what was written, its elements' type, how many cells an element of a slice over it has that append made (else 0), and whether it is only read. -/
inductive Obj where
  | row (size : Nat) (base : Nat → Value) (tr : Tr Value) (elem esz : Nat) (ro : Bool)
  | map (es : List MapEntry) (clock : Nat)
  | chan (cap : Nat) (buf : List Value)

/-- A part of a block: its number, the first cell, how many. -/
structure Part where
  n : Nat
  off : Nat
  len : Nat

/-- Memory: the blocks, the next block's number, and what was written to, made or given up (the latest first). -/
structure Heap where
  tr : Tr Obj
  nx : Nat
  dt : List Part

def Heap.get (h : Heap) (n : Nat) : Option Obj := h.tr.get n
def Heap.put (h : Heap) (n : Nat) (o : Option Obj) : Heap := ⟨h.tr.set n o, h.nx, ⟨n, 0, unk⟩ :: h.dt⟩
def Heap.putAt (h : Heap) (n off len : Nat) (o : Obj) : Heap := ⟨h.tr.set n (some o), h.nx, ⟨n, off, len⟩ :: h.dt⟩
def Heap.add (h : Heap) (o : Obj) : Heap := ⟨h.tr.set h.nx (some o), h.nx + 1, ⟨h.nx, 0, unk⟩ :: h.dt⟩

def rowAt (base : Nat → Value) (tr : Tr Value) (i : Nat) : Value := match tr.get i with
  | some v => v
  | none => base i

/-- n cells from i on. -/
def cellsFrom (base : Nat → Value) (tr : Tr Value) : Nat → Nat → List Value
  | _, 0 => []
  | i, n + 1 => rowAt base tr i :: cellsFrom base tr (i + 1) n

def setCells (tr : Tr Value) : Nat → List Value → Tr Value
  | _, [] => tr
  | i, v :: vs => setCells (tr.set i (some v)) (i + 1) vs

/-- A value that one cell holds. -/
def isCell : Value → Bool
  | .agg _ | .tuple _ => false
  | _ => true

/-- A value that names no block. -/
def flat : Value → Bool
  | .bool _ | .int _ _ | .string _ | .pointer none | .slice none _ _ | .map none | .chan none | .nilFunc | .nilIface => true
  | _ => false

def lget : List Value → Nat → Value
  | [], _ => undef
  | v :: _, 0 => v
  | _ :: l, n + 1 => lget l n

def sameInt : Value → Value → Bool
  | .int k a, .int k' b => match decEq k k' with
    | isTrue _ => match Int.decEq a b with
      | isTrue _ => true
      | isFalse _ => false
    | isFalse _ => false
  | _, _ => false

def allSame (v : Value) : List Value → Bool
  | [] => true
  | x :: l => match sameInt v x with
    | true => allSame v l
    | false => false

/-- A row of these cells. -/
def mkRow (cs : List Value) (n elem esz : Nat) : Obj := match Nat.ble n 256 with
  | true => .row n (lget cs) .nil elem esz false
  | false => match cs with
    | [] => .row n (lget cs) .nil elem esz false
    | v :: _ => match allSame v cs with
      | true => .row n (fun _ => v) .nil elem esz false
      | false => .row n (lget cs) .nil elem esz false

def allCells : List Value → Bool
  | [] => true
  | v :: l => match isCell v with
    | true => allCells l
    | false => false

/-- n cells at an address. -/
def loadN (h : Heap) (a : Addr) (n : Nat) : Option (List Value) := match a.spot with
  | some _ => none
  | none => match h.get a.block with
    | some (.row size base tr _ _ _) => match Nat.ble (a.off + n) size with
      | true => some (cellsFrom base tr a.off n)
      | false => none
    | _ => none

def storeN (h : Heap) (a : Addr) (vs : List Value) : Option Heap := match a.spot with
  | some _ => none
  | none => match h.get a.block with
    | some (.row size base tr elem esz false) => match Nat.ble (a.off + vs.length) size, allCells vs with
      | true, true => some (h.putAt a.block a.off vs.length (.row size base (setCells tr a.off vs) elem esz false))
      | _, _ => none
    | _ => none

/-- What is told of a type: what it is underneath, its size in cells and in bytes, its zero value. -/
structure Ty where
  d : TypeDesc
  size : Nat
  bytes : Nat
  zero : Value

/-- How a call ends. -/
inductive Fin where
  | ret (v : Value)
  | pan (chain : List PanicEntry)

abbrev CallFn := Nat → List Value → Heap → Option (Fin × Heap)

/-- The program, what is told of its types and functions, and of functions that are not gone into. -/
structure Cx where
  P : Program
  ty : Nat → Option Ty
  fn : Nat → Option (Func × Code)
  ext : Nat → Option (List Value → Heap → Option (Fin × Heap))

/-- A frame's state: slots, deferred calls, how the frame below stands, memory. -/
structure St where
  tm : Tr Value
  df : List Deferred
  u : FrameMode
  h : Heap

def aggD : TypeDesc → Bool
  | .struct _ | .array _ _ => true
  | _ => false

section
variable (cx : Cx)

def ev (tm : Tr Value) : Operand → Option Value
  | .tmp t => tm.get t
  | .const v => match flat v with
    | true => some v
    | false => none
  | .global _ => none
  | .func f => some (.func (.func f) #[] #[])

def evs (tm : Tr Value) : List Operand → Option (List Value)
  | [] => some []
  | x :: l => match ev tm x with
    | some v => match evs tm l with
      | some vs => some (v :: vs)
      | none => none
    | none => none

def evParts (tm : Tr Value) : List (Nat × Operand) → Option (List (Nat × Value))
  | [] => some []
  | (i, x) :: l => match ev tm x with
    | some v => match evParts tm l with
      | some vs => some ((i, v) :: vs)
      | none => none
    | none => none

def loadT (h : Heap) (t : Nat) (a : Addr) : Option Value := match cx.ty t with
  | some i => match aggD i.d with
    | true => match loadN h a i.size with
      | some l => some (.agg l.toArray)
      | none => none
    | false => match loadN h a 1 with
      | some [v] => some v
      | _ => none
  | none => none

def storeT (h : Heap) (t : Nat) (a : Addr) (v : Value) : Option Heap := match cx.ty t with
  | some i => match Nat.beq v.cells.size i.size with
    | true => storeN h a v.cells.toList
    | false => none
  | none => none

/-- Integers' operators. -/
def intOp (op : BinOp) (k : IntKind) (a b : Int) : Option Value := match op with
  | .add => some (.int k (k.wrap (a + b)))
  | .sub => some (.int k (k.wrap (a - b)))
  | .mul => some (.int k (k.wrap (a * b)))
  | .quo => match Int.decEq b 0 with
    | isTrue _ => none
    | isFalse _ => some (.int k (k.wrap (a.tdiv b)))
  | .rem => match Int.decEq b 0 with
    | isTrue _ => none
    | isFalse _ => some (.int k (a.tmod b))
  | .and => some (.int k (k.wrap (BitVec.ofInt k.bits a &&& BitVec.ofInt k.bits b).toNat))
  | .or => some (.int k (k.wrap (BitVec.ofInt k.bits a ||| BitVec.ofInt k.bits b).toNat))
  | .xor => some (.int k (k.wrap (BitVec.ofInt k.bits a ^^^ BitVec.ofInt k.bits b).toNat))
  | .andNot => some (.int k (k.wrap (BitVec.ofInt k.bits a &&& ~~~(BitVec.ofInt k.bits b)).toNat))
  | .eql => some (.bool (a == b))
  | .neq => some (.bool (a != b))
  | .lss => some (.bool (decide (a < b)))
  | .leq => some (.bool (decide (a ≤ b)))
  | .gtr => some (.bool (decide (a > b)))
  | .geq => some (.bool (decide (a ≥ b)))
  | _ => none

def shiftOp (op : BinOp) (k : IntKind) (a b : Int) : Option Value := match decide (b < 0) with
  | true => none
  | false => match op with
    | .shl => some (.int k (k.wrap (a * 2 ^ min b.toNat k.bits)))
    | .shr => some (.int k (a.fdiv (2 ^ min b.toNat k.bits)))
    | _ => none

/-- Is a part of a struct or an array that is compared a live one's? -/
def live (h : Heap) (n : Nat) : Bool := match h.get n with
  | some (.row _ _ _ _ _ false) => true
  | _ => false

end

section
variable (cx : Cx)

/-- Are two lists of bytes the same? -/
def bytesEq : List UInt8 → List UInt8 → Bool
  | [], [] => true
  | a :: x, b :: y => match Nat.beq a.toNat b.toNat with
    | true => bytesEq x y
    | false => false
  | _, _ => false

def partA (i : Ty) (xs : List Value) (off : Nat) : Option Value := match aggD i.d with
  | true => match Nat.ble (off + i.size) xs.length with
    | true => some (.agg ((xs.drop off).take i.size).toArray)
    | false => none
  | false => match xs.drop off with
    | v :: _ => some v
    | [] => none

def eqFs (eq : Nat → Value → Value → Option Bool) (xs ys : List Value) : List Field → Option Bool
  | [] => some true
  | f :: fs => match cx.ty f.type with
    | none => none
    | some i => match partA i xs f.offset, partA i ys f.offset with
      | some x, some y => match eq f.type x y with
        | some true => eqFs eq xs ys fs
        | some false => some false
        | none => none
      | _, _ => none

def eqNs (eq : Value → Value → Option Bool) (i : Ty) (xs ys : List Value) : Nat → Nat → Option Bool
  | _, 0 => some true
  | k, n + 1 => match partA i xs (k * i.size), partA i ys (k * i.size) with
    | some x, some y => match eq x y with
      | some true => eqNs eq i xs ys (k + 1) n
      | some false => some false
      | none => none
    | _, _ => none

/-- Are two values equal? (none: it is not told) -/
def eqA (h : Heap) : Nat → Nat → Value → Value → Option Bool
  | 0, _, _, _ => none
  | d + 1, t, x, y => match cx.ty t with
    | none => none
    | some i => match i.d, x, y with
      | .bool, .bool a, .bool b => some (a == b)
      | .int _, .int k a, .int k' b => match decEq k k' with
        | isTrue _ => some (a == b)
        | isFalse _ => none
      | .string, .string a, .string b => some (bytesEq a.data.toList b.data.toList)
      | .pointer _, .pointer none, .pointer b => some b.isNone
      | .pointer _, .pointer (some _), .pointer none => some false
      | .pointer e, .pointer (some a), .pointer (some b) => match cx.ty e with
        | some j => match Nat.beq j.size 0, a.spot, b.spot with
          | false, none, none => match Nat.beq a.block b.block with
            | true => some (Nat.beq a.off b.off)
            | false => match live h a.block, live h b.block with
              | true, true => some false
              | _, _ => none
          | _, _, _ => none
        | none => none
      | .struct fs, .agg xs, .agg ys => eqFs cx (eqA h d) xs.toList ys.toList fs.toList
      | .array n e, .agg xs, .agg ys => match cx.ty e with
        | some j => eqNs (eqA h d e) j xs.toList ys.toList 0 n
        | none => none
      | .interface _, .nilIface, .nilIface => some true
      | .interface _, .nilIface, .iface _ _ => some false
      | .interface _, .iface _ _, .nilIface => some false
      | .slice _, .slice none _ _, .slice b _ _ => some b.isNone
      | .slice _, .slice _ _ _, .slice none _ _ => some false
      | .map _ _, .map none, .map b => some b.isNone
      | .map _ _, .map _, .map none => some false
      | .func _ _ _, .nilFunc, .nilFunc => some true
      | .func _ _ _, .nilFunc, .func _ _ _ => some false
      | .func _ _ _, .func _ _ _, .nilFunc => some false
      | _, _, _ => none

/-- May a value be a map's key? -/
def keyOk : Nat → Nat → Value → Bool
  | 0, _, _ => false
  | d + 1, t, v => match cx.ty t with
    | none => false
    | some i => match i.d, v with
      | .interface _, _ => false
      | .array n e, .agg cs => match cx.ty e with
        | some j => arr (keyOk d e) j cs.toList 0 n
        | none => false
      | .struct fs, .agg cs => flds (keyOk d) cs.toList fs.toList
      | .array _ _, _ => false
      | .struct _, _ => false
      | _, _ => true
where
  arr (ok : Value → Bool) (j : Ty) (cs : List Value) : Nat → Nat → Bool
    | _, 0 => true
    | k, n + 1 => match partA j cs (k * j.size) with
      | some x => match ok x with
        | true => arr ok j cs (k + 1) n
        | false => false
      | none => false
  flds (ok : Nat → Value → Bool) (cs : List Value) : List Field → Bool
    | [] => true
    | f :: fs => match cx.ty f.type with
      | none => false
      | some i => match partA i cs f.offset with
        | some x => match ok f.type x with
          | true => flds ok cs fs
          | false => false
        | none => false

/-- Where a key stands. -/
def findA (eq : Value → Option Bool) : List MapEntry → Nat → Option (Option (Nat × Value))
  | [], _ => some none
  | e :: es, i => match eq e.key with
    | some true => some (some (i, e.val))
    | some false => findA eq es (i + 1)
    | none => none

def findK (h : Heap) (kt : Nat) (k : Value) (es : List MapEntry) : Option (Option (Nat × Value)) :=
  findA (fun x => eqA cx h 60 kt k x) es 0

def getMap (h : Heap) : Value → Option (List MapEntry)
  | .map none => some []
  | .map (some r) => match h.get r with
    | some (.map es _) => some es
    | _ => none
  | _ => none

def lookupE (h : Heap) (t : Nat) (m k : Value) (ok : Bool) : Option Value := match cx.ty t with
  | some i => match i.d with
    | .map kt et => match getMap h m, keyOk cx 60 kt k, cx.ty et with
      | some es, true, some e => match findK cx h kt k es with
        | some (some (_, v)) => some (match ok with
          | true => .tuple #[v, .bool true]
          | false => v)
        | some none => some (match ok with
          | true => .tuple #[e.zero, .bool false]
          | false => e.zero)
        | none => none
      | _, _, _ => none
    | _ => none
  | none => none

def modE (es : List MapEntry) (i : Nat) (k v : Value) : List MapEntry := match es, i with
  | [], _ => []
  | e :: es, 0 => { e with key := k, val := v } :: es
  | e :: es, i + 1 => e :: modE es i k v

def dropE (es : List MapEntry) (i : Nat) : List MapEntry := match es, i with
  | [], _ => []
  | _ :: es, 0 => es
  | e :: es, i + 1 => e :: dropE es i

def keyAt : List MapEntry → Nat → Value → Value
  | [], _, k => k
  | e :: _, 0, _ => e.key
  | _ :: es, i + 1, k => keyAt es i k

def updateE (h : Heap) (t : Nat) (m k v : Value) : Option Heap := match cx.ty t, m with
  | some i, .map (some r) => match i.d, h.get r with
    | .map kt _, some (.map es clock) => match keyOk cx 60 kt k, findK cx h kt k es with
      | true, some (some (j, _)) => match Instr.sameBits 10000 (keyAt es j k) k with
        | true => some (h.put r (some (.map (modE es j k v) clock)))
        | false => none
      | true, some none => some (h.put r (some (.map (es ++ [{ key := k, val := v, born := clock }]) (clock + 1))))
      | _, _ => none
    | _, _ => none
  | _, _ => none

def deleteE (h : Heap) (t : Nat) (m k : Value) : Option Heap := match cx.ty t, m with
  | some i, .map (some r) => match i.d, h.get r with
    | .map kt _, some (.map es clock) => match keyOk cx 60 kt k, findK cx h kt k es with
      | true, some (some (j, _)) => some (h.put r (some (.map (dropE es j) clock)))
      | true, some none => some (h.put r (some (.map es clock)))
      | _, _ => none
    | _, _ => none
  | _, _ => none

/-- The cells of a slice's, or a string's, first n elements. -/
def firstE (h : Heap) (size n : Nat) : Value → Option (List Value)
  | .slice (some a) _ _ => loadN h a (n * size)
  | .slice none _ _ => some []
  | .string s => some ((s.extract 0 n).data.toList.map fun b => .int .u8 b.toNat)
  | _ => none

def lenE : Value → Option Nat
  | .slice _ n _ => some n
  | .string s => some s.size
  | _ => none

def isIntD : TypeDesc → Bool
  | .int _ => true
  | _ => false

def addOff (a : Addr) (n : Nat) : Addr := ⟨a.block, a.off + n, a.spot⟩

def appendE (h : Heap) (ts : List Nat) (s x : Value) : Option (Value × Heap) := match ts, s with
  | [st, xt], .slice base len cap => match cx.ty st, cx.ty xt with
    | some i, some xi => match i.d, isIntD xi.d with
      | .slice et, false => match cx.ty et, lenE x with
        | some e, some n => match firstE h e.size n x, Nat.ble ((2 * (len + n) + 256) * e.bytes) 140737488355328, Nat.beq e.bytes 0, Nat.beq e.size 0 with
          | some new, true, false, false => match Nat.beq new.length (n * e.size), Nat.beq cap unk with
            | false, _ => none
            | true, false => match Nat.ble (len + n) cap with
              | true => match base with
                | some a => match storeN h (addOff a (len * e.size)) new with
                  | some h' => some (.slice base (len + n) cap, h')
                  | none => none
                | none => some (.slice base (len + n) cap, h)
              | false => match firstE h e.size len s with
                | some old => match Nat.beq old.length (len * e.size) with
                  | true => some (.slice (some ⟨h.nx, 0, none⟩) (len + n) unk, h.add (mkRow (old ++ new) ((len + n) * e.size) et e.size))
                  | false => none
                | none => none
            | true, true => match base with
              | none => none
              | some a => match a.spot, h.get a.block with
                | none, some (.row size b tr el esz false) => match Nat.beq esz e.size, Nat.ble (a.off + (len + n) * e.size) size, allCells new, Nat.ble (a.off + len * e.size) size with
                  | true, true, true, _ => some (.slice base (len + n) cap, h.putAt a.block (a.off + len * e.size) new.length (.row size b (setCells tr (a.off + len * e.size) new) el esz false))
                  | true, false, true, true => match Nat.beq a.off 0 with
                    | true => some (.slice (some ⟨h.nx, 0, none⟩) (len + n) unk, (h.put a.block none).add (.row ((len + n) * e.size) b (setCells tr (len * e.size) new) el esz false))
                    | false => some (.slice (some ⟨h.nx, 0, none⟩) (len + n) unk, (h.put a.block none).add (mkRow (cellsFrom b tr a.off (len * e.size) ++ new) ((len + n) * e.size) el esz))
                  | _, _, _, _ => none
                | _, _ => none
          | _, _, _, _ => none
        | _, _ => none
      | _, _ => none
    | _, _ => none
  | _, _ => none

def boundE (v : Value) (m : Nat) : Option Nat := match v with
  | .int _ i => match decide (0 ≤ i), Nat.ble i.toNat m with
    | true, true => some i.toNat
    | _, _ => none
  | _ => none

def boundO (o : Option Value) (dflt m : Nat) : Option Nat := match o with
  | none => some dflt
  | some v => boundE v m

/-- x[lo:hi:mx]. -/
def sliceE (h : Heap) (t : Nat) (x : Value) (lo hi mx : Option Value) : Option Value := match cx.ty t with
  | none => none
  | some i => match i.d, x with
    | .array n e, .pointer (some a) => match a.spot, cx.ty e, mx with
      | none, some j, none => match boundO hi n n with
        | some hh => match boundO lo 0 hh with
          | some l => match Nat.beq (n - l) unk with
            | true => none
            | false => some (.slice (some (match Nat.beq n l with
              | true => a
              | false => addOff a (l * j.size))) (hh - l) (n - l))
          | none => none
        | none => none
      | _, _, _ => none
    | .slice e, .slice b len cap => match cx.ty e, Nat.beq cap unk with
      | some j, false => match boundO mx cap cap with
        | some m => match boundO hi len m with
          | some hh => match boundO lo 0 hh, mx.isSome && hi.isNone with
            | some l, false => match Nat.beq (m - l) unk with
              | true => none
              | false => some (.slice (match Nat.beq m l with
                | true => b
                | false => match b with
                  | some a => some (addOff a (l * j.size))
                  | none => none) (hh - l) (m - l))
            | _, _ => none
          | none => none
        | none => none
      | some j, true => match b, mx with
        | some a, none => match h.get a.block, a.spot with
          | some (.row size _ _ _ esz _), none => match boundO hi len len, Nat.beq esz j.size, Nat.beq esz 0, Nat.ble (a.off + len * esz) size with
            | some hh, true, false, true => match boundO lo 0 hh with
              | some l => match Nat.beq l 0, Nat.blt l len with
                | true, _ => some (.slice b hh unk)
                | false, true => some (.slice (some (addOff a (l * j.size))) (hh - l) unk)
                | false, false => none
              | none => none
            | _, _, _, _ => none
          | _, _ => none
        | _, _ => none
      | none, _ => none
    | _, _ => none

def strOf : List Value → List UInt8 → Option (List UInt8)
  | [], acc => some acc.reverse
  | .int .u8 n :: l, acc => strOf l (UInt8.ofNat n.toNat :: acc)
  | _, _ => none

def convertE (h : Heap) (src dst : Nat) (x : Value) : Option Value := match cx.ty src, cx.ty dst with
  | some si, some di => match si.d, di.d, x with
    | .int _, .int k, .int _ n => some (.int k (k.wrap n))
    | .slice e, .string, .slice none _ _ => match cx.ty e with
      | some ei => match ei.d with
        | .int .u8 => some (.string .empty)
        | _ => none
      | none => none
    | .slice e, .string, .slice (some a) n _ => match cx.ty e with
      | some ei => match ei.d with
        | .int .u8 => match loadN h a n with
          | some l => match strOf l [] with
            | some bs => some (.string ⟨bs.toArray⟩)
            | none => none
          | none => none
        | _ => none
      | none => none
    | _, _, _ => none
  | _, _ => none

def fillE (zero : List Value) : List (Nat × List Value) → List Value
  | [] => zero
  | (off, vs) :: l => fillE (put zero off vs) l
where
  put : List Value → Nat → List Value → List Value
    | zs, _, [] => zs
    | [], _, _ => []
    | _ :: zs, 0, v :: vs => v :: put zs 0 vs
    | z :: zs, n + 1, vs => z :: put zs n vs

/-- Where the parts lie, and whether each is of its size. -/
def placesE (place : Nat → Option (Nat × Nat)) (n : Nat) : List (Nat × Value) → Option (List (Nat × List Value))
  | [] => some []
  | (i, v) :: l => match place i with
    | some (off, size) => match Nat.beq v.cells.size size, Nat.ble (off + size) n, placesE place n l with
      | true, true, some r => some ((off, v.cells.toList) :: r)
      | _, _, _ => none
    | none => none

def fieldAt (fs : List Field) (i : Nat) : Option Field := match fs, i with
  | [], _ => none
  | f :: _, 0 => some f
  | _ :: fs, i + 1 => fieldAt fs i

def buildE (t : Nat) (parts : List (Nat × Value)) : Option Value := match cx.ty t with
  | none => none
  | some i => match i.d with
    | .struct fs => match parts with
      | [] => some (.agg i.zero.cells)
      | _ => match placesE (fun k => match fieldAt fs.toList k with
          | some f => match cx.ty f.type with
            | some j => some (f.offset, j.size)
            | none => none
          | none => none) i.zero.cells.size parts with
        | some l => some (.agg (fillE i.zero.cells.toList l).toArray)
        | none => none
    | .array _ e => match cx.ty e with
      | some j => match parts with
        | [] => some (.agg i.zero.cells)
        | _ => match placesE (fun k => some (k * j.size, j.size)) i.zero.cells.size parts with
          | some l => some (.agg (fillE i.zero.cells.toList l).toArray)
          | none => none
      | none => none
    | _ => none

def repl (z : List Value) : Nat → List Value
  | 0 => []
  | n + 1 => z ++ repl z n

def lmod (z : List Value) (i : Nat) : Value := lget z (i % z.length)

def buildSliceE (h : Heap) (t len : Nat) (parts : List (Nat × Value)) : Option (Value × Obj) := match cx.ty t with
  | none => none
  | some i => match i.d with
    | .slice e => match cx.ty e with
      | some j => match Nat.ble (len * j.size) 16777216, Nat.beq j.size 0, Nat.beq j.zero.cells.size j.size, placesE (fun k => some (k * j.size, j.size)) (len * j.size) parts with
        | true, false, true, some l => some (.slice (some ⟨h.nx, 0, none⟩) len len, mkRow (fillE (repl j.zero.cells.toList len) l) (len * j.size) e 0)
        | _, _, _, _ => none
      | none => none
    | _ => none

def makeSliceE (h : Heap) (t : Nat) (l c : Value) : Option (Value × Obj) := match cx.ty t, l, c with
  | some i, .int _ l, .int _ c => match i.d with
    | .slice e => match cx.ty e with
      | some j => match decide (0 ≤ l), decide (l ≤ c), decide (c ≤ 4294967296), Nat.ble (c.toNat * j.bytes) 140737488355328, Nat.beq j.size 0, Nat.beq j.zero.cells.size j.size with
        | true, true, true, true, false, true => some (.slice (some ⟨h.nx, 0, none⟩) l.toNat c.toNat, .row (c.toNat * j.size) (match j.zero.cells.toList with
          | [z] => fun _ => z
          | zs => lmod zs) .nil e 0 false)
        | _, _, _, _, _, _ => none
      | none => none
    | _ => none
  | _, _, _ => none

def lenOp (h : Heap) (t : Nat) (x : Value) : Option Value := match cx.ty t with
  | none => none
  | some i => match i.d, x with
    | .string, .string s => some (.int .i64 s.size)
    | .array n _, _ => some (.int .i64 n)
    | .pointer e, _ => match cx.ty e with
      | some j => match j.d with
        | .array n _ => some (.int .i64 n)
        | _ => none
      | none => none
    | .slice _, .slice _ n _ => some (.int .i64 n)
    | .map _ _, .map none => some (.int .i64 0)
    | .map _ _, .map (some r) => match h.get r with
      | some (.map es _) => some (.int .i64 es.length)
      | _ => none
    | .chan _ _, .chan none => some (.int .i64 0)
    | .chan _ _, .chan (some r) => match h.get r with
      | some (.chan _ buf) => some (.int .i64 buf.length)
      | _ => none
    | _, _ => none

def foldMin (mx : Bool) : Value → List Value → Option Value
  | x, [] => some x
  | .int k a, .int _ b :: l => foldMin mx (.int k (match mx with
    | true => if b > a then b else a
    | false => if b < a then b else a)) l
  | _, _ => none

def clearE (h : Heap) (t : Nat) (x : Value) : Option Heap := match cx.ty t with
  | none => none
  | some i => match i.d, x with
    | _, .map none => some h
    | .map _ _, .map (some r) => match h.get r with
      | some (.map _ clock) => some (h.put r (some (.map [] clock)))
      | _ => none
    | .slice _, .slice none _ _ => some h
    | .slice _, .slice _ 0 _ => some h
    | .slice e, .slice (some a) n _ => match cx.ty e with
      | some j => storeN h a (repl j.zero.cells.toList n)
      | none => none
    | _, _ => none

def binE (h : Heap) (op : BinOp) (t : Nat) (x y : Value) : Option Value := match op, x, y with
  | .shl, .int k a, .int _ b => shiftOp .shl k a b
  | .shr, .int k a, .int _ b => shiftOp .shr k a b
  | _, .int k a, .int k' b => match decEq k k' with
    | isTrue _ => intOp op k a b
    | isFalse _ => none
  | .add, .string a, .string b => match Nat.ble (a.size + b.size) 1099511627776 with
    | true => some (.string (a ++ b))
    | false => none
  | .eql, .string a, .string b => some (.bool (bytesEq a.data.toList b.data.toList))
  | .neq, .string a, .string b => some (.bool (!(bytesEq a.data.toList b.data.toList)))
  | _, .string _, .string _ => none
  | .eql, _, _ => match eqA cx h 60 t x y with
    | some b => some (.bool b)
    | none => none
  | .neq, _, _ => match eqA cx h 60 t x y with
    | some b => some (.bool (!b))
    | none => none
  | _, _, _ => none

def unE (op : UnOp) : Value → Option Value
  | .int k n => match op with
    | .neg => some (.int k (k.wrap (0 - n)))
    | .xor => some (.int k (k.wrap (BitVec.ofInt k.bits (if k.signed then -1 else k.max) ^^^ BitVec.ofInt k.bits n).toNat))
    | _ => none
  | .bool b => match op with
    | .not => some (.bool !b)
    | _ => none
  | _ => none

def fieldAddrE (t : Nat) (x : Value) (f : Nat) : Option Value := match cx.ty t, x with
  | some i, .pointer (some a) => match i.d with
    | .struct fs => match fieldAt fs.toList f with
      | some f => match cx.ty f.type with
        | some j => match Nat.beq j.size 0 with
          | true => none
          | false => match Nat.beq f.offset 0 with
            | true => some (.pointer (some a))
            | false => some (.pointer (some ⟨a.block, a.off + f.offset, none⟩))
        | none => none
      | none => none
    | _ => none
  | _, _ => none

def fieldE (t : Nat) (x : Value) (f : Nat) : Option Value := match cx.ty t, x with
  | some i, .agg cs => match i.d with
    | .struct fs => match fieldAt fs.toList f with
      | some f => match cx.ty f.type with
        | some j => partA j cs.toList f.offset
        | none => none
      | none => none
    | _ => none
  | _, _ => none

def indexAddrE (t : Nat) (x i : Value) : Option Value := match cx.ty t, i with
  | some ti, .int _ i => match ti.d, x with
    | .array n e, .pointer (some a) => match decide (0 ≤ i), Nat.blt i.toNat n, cx.ty e with
      | true, true, some j => match Nat.beq (i.toNat * j.size) 0 with
        | true => some (.pointer (some a))
        | false => some (.pointer (some ⟨a.block, a.off + i.toNat * j.size, none⟩))
      | _, _, _ => none
    | .slice e, .slice (some a) n _ => match decide (0 ≤ i), Nat.blt i.toNat n, cx.ty e with
      | true, true, some j => match Nat.beq (i.toNat * j.size) 0 with
        | true => some (.pointer (some a))
        | false => some (.pointer (some ⟨a.block, a.off + i.toNat * j.size, none⟩))
      | _, _, _ => none
    | _, _ => none
  | _, _ => none

def indexE (t : Nat) (x i : Value) : Option Value := match cx.ty t, i with
  | some ti, .int _ i => match ti.d, x with
    | .array n e, .agg cs => match decide (0 ≤ i), Nat.blt i.toNat n, cx.ty e with
      | true, true, some j => partA j cs.toList (i.toNat * j.size)
      | _, _, _ => none
    | .string, .string s => match decide (0 ≤ i), s.data.toList.drop i.toNat with
      | true, b :: _ => some (.int .u8 b.toNat)
      | _, _ => none
    | _, _ => none
  | _, _ => none

def assertE (x : Value) (want : Nat) (ok : Bool) : Option Value := match cx.ty want with
  | some i => match i.d, x, ok with
    | .interface _, _, _ => none
    | _, .nilIface, true => some (.tuple #[i.zero, .bool false])
    | _, .iface t v, true => match Nat.beq t want with
      | true => some (.tuple #[v, .bool true])
      | false => some (.tuple #[i.zero, .bool false])
    | _, .iface t v, false => match Nat.beq t want with
      | true => some v
      | false => none
    | _, _, _ => none
  | none => none

def tupAt (l : List Value) (n : Nat) : Option Value := match l, n with
  | [], _ => none
  | v :: _, 0 => some v
  | _ :: l, n + 1 => tupAt l n

/-- Two nil interface values are not compared but with a constant. -/
def guardE (x y : Operand) : Value → Bool
  | .nilIface => match x, y with
    | .const _, _ => true
    | _, .const _ => true
    | _, _ => false
  | _ => true

/-- What an operation comes to. -/
inductive Out where
  | val (v : Value)
  | pan (chain : List PanicEntry)
  | dfr (d : Deferred)
  | rcv

def evO (tm : Tr Value) : Option Operand → Option (Option Value)
  | none => some none
  | some x => match ev tm x with
    | some v => some (some v)
    | none => none

def val (o : Option Value) (h : Heap) : Option (Out × Heap) := match o with
  | some v => some (.val v, h)
  | none => none

def skp (o : Option Heap) : Option (Out × Heap) := match o with
  | some h => some (.val undef, h)
  | none => none

/-- A function value with arguments: the function, and what it is handed. -/
def target (f : Value) (args : List Value) : Option (Nat × List Value) := match f with
  | .func (.func g) first cap => some (g, first.toList ++ args ++ cap.toList)
  | _ => none

def builtinE (h : Heap) (b : Builtin) (ts : List Nat) (args : List Value) : Option (Out × Heap) := match b, args with
  | .len, [x] => match ts with
    | [t] => val (lenOp cx h t x) h
    | _ => none
  | .append, [s, x] => match appendE cx h ts s x with
    | some (v, h') => some (.val v, h')
    | none => none
  | .copy, [d, s] => match ts, d with
    | dt :: _, .slice base dl _ => match cx.ty dt, lenE s with
      | some i, some n => match i.d with
        | .slice e => match cx.ty e with
          | some j => match firstE h j.size (Nat.min n dl) s with
            | some cs => match base with
              | some a => match storeN h a cs with
                | some h' => some (.val (.int .i64 (Nat.min n dl)), h')
                | none => none
              | none => some (.val (.int .i64 (Nat.min n dl)), h)
            | none => none
          | none => none
        | _ => none
      | _, _ => none
    | _, _ => none
  | .delete, [m, k] => match ts with
    | t :: _ => match deleteE cx h t m k with
      | some h' => some (.val (.tuple #[]), h')
      | none => none
    | _ => none
  | .clear, [x] => match ts with
    | t :: _ => match clearE cx h t x with
      | some h' => some (.val (.tuple #[]), h')
      | none => none
    | _ => none
  | .min, x :: l => val (foldMin false x l) h
  | .max, x :: l => val (foldMin true x l) h
  | .recover, [] => some (.rcv, h)
  | _, _ => none

/-- An operation that makes one block: its value, and the block. -/
def makeE (tm : Tr Value) (h : Heap) (o : Op) : Option (Value × Obj) := match o with
  | .alloc t => match cx.ty t with
    | some i => some (.pointer (some ⟨h.nx, 0, none⟩), mkRow i.zero.cells.toList i.zero.cells.size t 0)
    | none => none
  | .box t x => match ev tm x with
    | some v => some (.pointer (some ⟨h.nx, 0, none⟩), mkRow v.cells.toList v.cells.size t 0)
    | none => none
  | .buildSlice t n ps => match evParts tm ps.toList with
    | some l => buildSliceE cx h t n l
    | none => none
  | .makeMap _ none => some (.map (some h.nx), .map [] 0)
  | .makeMap t (some r) => match cx.ty t, ev tm r with
    | some i, some (.int _ _) => match i.d with
      | .map _ _ => some (.map (some h.nx), .map [] 0)
      | _ => none
    | _, _ => none
  | .makeChan t s => match cx.ty t, ev tm s with
    | some i, some (.int _ n) => match i.d with
      | .chan _ e => match cx.ty e, decide (0 ≤ n), decide (n ≤ 65536) with
        | some j, true, true => match Nat.ble j.bytes 65536 with
          | true => some (.chan (some h.nx), .chan n.toNat [])
          | false => none
        | _, _, _ => none
      | _ => none
    | _, _ => none
  | .makeSlice t l c => match ev tm l, ev tm c with
    | some l, some c => makeSliceE cx h t l c
    | _, _ => none
  | _ => none

def isMake : Op → Bool
  | .alloc _ | .box _ _ | .buildSlice _ _ _ | .makeMap _ _ | .makeChan _ _ | .makeSlice _ _ _ => true
  | _ => false

def opE (cf : CallFn) (tm : Tr Value) (h : Heap) (o : Op) : Option (Out × Heap) := match o with
  | .move x => val (ev tm x) h
  | .assign x => val (ev tm x) h
  | .pick c a b => match ev tm c with
    | some (.bool true) => val (ev tm a) h
    | some (.bool false) => val (ev tm b) h
    | _ => none
  | .build t ps => match evParts tm ps.toList with
    | some l => val (buildE cx t l) h
    | none => none
  | .load t a => match ev tm a with
    | some (.pointer (some a)) => val (loadT cx h t a) h
    | _ => none
  | .store t a x => match ev tm a, ev tm x with
    | some (.pointer (some a)), some v => skp (storeT cx h t a v)
    | _, _ => none
  | .nilCheck x => match ev tm x with
    | some (.pointer (some a)) => some (.val (.pointer (some a)), h)
    | some (.func (.func f) a b) => some (.val (.func (.func f) a b), h)
    | _ => none
  | .binOp op t x y _ => match ev tm x, ev tm y with
    | some a, some b => match guardE x y a with
      | true => val (binE cx h op t a b) h
      | false => none
    | _, _ => none
  | .unOp op _ x => match ev tm x with
    | some a => val (unE op a) h
    | none => none
  | .convert s d x => match ev tm x with
    | some a => val (convertE cx h s d a) h
    | none => none
  | .makeInterface t x => match cx.ty t, ev tm x with
    | some i, some v => match i.d with
      | .interface _ => none
      | _ => some (.val (.iface t v), h)
    | _, _ => none
  | .makeFunc fn a b => match evs tm a.toList, evs tm b.toList with
    | some a, some b => some (.val (.func fn a.toArray b.toArray), h)
    | _, _ => none
  | .insert t m k v => match ev tm m, ev tm k, ev tm v with
    | some m, some k, some v => skp (updateE cx h t m k v)
    | _, _, _ => none
  | .mapUpdate t m k v => match ev tm m, ev tm k, ev tm v with
    | some m, some k, some v => skp (updateE cx h t m k v)
    | _, _, _ => none
  | .slice t x lo hi mx => match ev tm x, evO tm lo, evO tm hi, evO tm mx with
    | some x, some lo, some hi, some mx => val (sliceE cx h t x lo hi mx) h
    | _, _, _, _ => none
  | .fieldAddr t x f => match ev tm x with
    | some x => val (fieldAddrE cx t x f) h
    | none => none
  | .field t x f => match ev tm x with
    | some x => val (fieldE cx t x f) h
    | none => none
  | .indexAddr t x i => match ev tm x, ev tm i with
    | some x, some i => val (indexAddrE cx t x i) h
    | _, _ => none
  | .index t x i => match ev tm x, ev tm i with
    | some x, some i => val (indexE cx t x i) h
    | _, _ => none
  | .lookup t x i ok => match ev tm x, ev tm i with
    | some x, some i => val (lookupE cx h t x i ok) h
    | _, _ => none
  | .typeAssert x _ want ok => match ev tm x with
    | some x => val (assertE cx x want ok) h
    | none => none
  | .extract t i => match ev tm t with
    | some (.tuple vs) => val (tupAt vs.toList i) h
    | _ => none
  | .panic x => match ev tm x with
    | some (.iface t v) => some (.pan [{ v := .iface t v, recovered := false }], h)
    | _ => none
  | .call c => match c.callee with
    | .builtin b => match evs tm c.args.toList with
      | some args => builtinE cx h b c.argTypes.toList args
      | none => none
    | .value f => match ev tm f, evs tm c.args.toList with
      | some f, some args => match target f args with
        | some (g, args) => match cf g args h with
          | some (.ret v, h') => some (.val v, h')
          | some (.pan chain, h') => some (.pan chain, h')
          | none => none
        | none => none
      | _, _ => none
    | .invoke _ _ => none
  | .defer c => match c.callee with
    | .value f => match ev tm f, evs tm c.args.toList with
      | some (.func (.func g) first cap), some args => some (.dfr { target := .fn (.func g) cap, args := first ++ args.toArray }, h)
      | _, _ => none
    | _ => none
  | o => match makeE cx tm h o with
    | some (v, b) => some (.val v, h.add b)
    | none => none

/-- How a piece of code is left. -/
inductive Ex where
  | normal
  | exit (id : Nat)
  | ret
  | pan (chain : List PanicEntry)

def putT (tm : Tr Value) (dst : Option Nat) (v : Value) : Tr Value := match dst with
  | some d => tm.set d (some v)
  | none => tm

def operAt (l : List Oper) (n : Nat) : Option Oper := match l, n with
  | [], _ => none
  | o :: _, 0 => some o
  | _ :: l, n + 1 => operAt l n

/-- Is an operation wanted? (none: it is not told) -/
def wantE (ops : List Oper) (tm : Tr Value) (o : Oper) : Option Bool := match o.guard with
  | none => some true
  | some (j, want) => match operAt ops j with
    | some g => match g.dst with
      | some d => match tm.get d with
        | some (.bool b) => some (b == want)
        | some (.tuple _) => some false
        | _ => none
      | none => none
    | none => none

def recE (u : FrameMode) : Value × FrameMode := match u with
  | .panicking ({ v, recovered := false, goexit := false } :: older) => (v, .panicking ({ v, recovered := true } :: older))
  | u => (.nilIface, u)

/-- A region's operations, in the text's order. -/
def opsE (cf : CallFn) (dk : Bool) (all : List Oper) : List Oper → St → Option (Ex × St)
  | [], st => some (.normal, st)
  | o :: l, st => match wantE all st.tm o with
    | none => none
    | some false => opsE cf dk all l { st with tm := putT st.tm o.dst undef }
    | some true => match opE cx cf st.tm st.h o.op with
      | some (.val v, h') => opsE cf dk all l { st with tm := putT st.tm o.dst v, h := h' }
      | some (.pan chain, h') => some (.pan chain, { st with h := h' })
      | some (.dfr d, _) => opsE cf dk all l { st with tm := putT st.tm o.dst undef, df := d :: st.df }
      | some (.rcv, _) => match dk with
        | true => opsE cf dk all l { st with tm := putT st.tm o.dst (recE st.u).1, u := (recE st.u).2 }
        | false => none
      | none => none

end
end
end Go.Em

namespace Go.Em
noncomputable section
variable (cx : Cx)

/-- What an operation of a statement whose order is open came to. `no`: it was not wanted; `dead`: it is never come to. -/
inductive Kd where
  | no
  | dead
  | pur (v : Value)
  | lod (t : Part) (v : Value)
  | mak (id : Nat) (o : Obj) (v : Value)
  | eff (ws : List Part) (h : Heap) (v : Value)
  | pan (ws : List Part) (h : Heap) (chain : List PanicEntry)

structure Sn where
  o : Oper
  tm : Tr Value
  h : Heap
  mask : Nat
  kd : Kd

def opTmps : List Operand → List Nat
  | [] => []
  | .tmp t :: l => t :: opTmps l
  | _ :: l => opTmps l

/-- The slots that an operation looks at. -/
def reads (all : List Oper) (o : Oper) : List Nat := match o.guard with
  | none => opTmps o.op.operands.toList
  | some (j, _) => match operAt all j with
    | some g => match g.dst with
      | some d => d :: opTmps o.op.operands.toList
      | none => opTmps o.op.operands.toList
    | none => opTmps o.op.operands.toList

def edgeAny : Ground → Bool
  | .textOnly _ | .gcOnly _ => false
  | _ => true

/-- What must be done ahead of an operation, as a set of bits; none: an edge leads onward. -/
def maskE (ms : Tr Nat) (i : Nat) : List Edge → Option Nat
  | [] => some 0
  | e :: l => match maskE ms i l with
    | none => none
    | some m => match edgeAny e.ground with
      | false => some m
      | true => match Nat.blt e.on i, ms.get e.on with
        | true, some k => some (Nat.lor m (Nat.lor k (Nat.pow 2 e.on)))
        | _, _ => none

def isEff : Op → Bool
  | .store _ _ _ | .insert _ _ _ _ | .mapUpdate _ _ _ _ | .panic _ => true
  | .call c => match c.callee with
    | .builtin .append | .builtin .copy | .builtin .delete | .builtin .clear => true
    | .builtin _ => false
    | _ => true
  | _ => false

def isOdd : Op → Bool
  | .defer _ => true
  | .call c => match c.callee with
    | .builtin .recover => true
    | _ => false
  | _ => false

/-- The block that a reading operation looks at. -/
def blockOf : Value → Option Nat
  | .pointer (some a) => some a.block
  | .slice (some a) _ _ => some a.block
  | .map (some r) => some r
  | .chan (some r) => some r
  | _ => none

def wholeOf (tm : Tr Value) (x : Operand) : Option Part := match ev tm x with
  | some v => match blockOf v with
    | some n => some ⟨n, 0, unk⟩
    | none => none
  | none => none

def targetE (tm : Tr Value) : Op → Option Part
  | .load t a => match cx.ty t, ev tm a with
    | some i, some (.pointer (some a)) => some ⟨a.block, a.off, match aggD i.d with
      | true => i.size
      | false => 1⟩
    | _, _ => none
  | .lookup _ m _ _ => wholeOf tm m
  | .slice _ x _ _ _ => wholeOf tm x
  | .convert _ _ x => match ev tm x with
    | some (.slice (some a) n _) => some ⟨a.block, a.off, n⟩
    | _ => none
  | .call c => match c.args.toList with
    | [x] => wholeOf tm x
    | _ => none
  | _ => none

/-- More blocks than there are. -/
def big : Nat := 340282366920938463463374607431768211456

def bare (n : Nat) : Heap := ⟨.nil, n, []⟩
def only (nx n : Nat) (o : Obj) : Heap := ⟨Tr.nil.set n (some o), nx, []⟩

def noCall : CallFn := fun _ _ _ => none

/-- Gives the blocks that were made ahead, of the operations in a set, to memory: which, memory, those that are left. -/
def release (mask : Nat) : List (Nat × Nat × Obj) → Heap → Heap
  | [], h => h
  | (i, n, o) :: l, h => match Nat.testBit mask i with
    | true => (release mask l h).put n (some o)
    | false => release mask l h

def memN (n : Nat) : List Nat → Bool
  | [] => false
  | x :: l => match Nat.beq x n with
    | true => true
    | false => memN n l

/-- Does a part meet one of a list's? -/
def hits (t : Part) : List Part → Bool
  | [] => false
  | x :: l => match Nat.beq x.n t.n with
    | true => match Nat.beq x.len unk with
      | true => true
      | false => match Nat.blt x.off (t.off + t.len), Nat.blt t.off (x.off + x.len) with
        | true, true => true
        | _, _ => hits t l
    | false => hits t l

/-- One operation of an open statement: what it comes to. -/
def kdE (cf : CallFn) (base i : Nat) (all : List Oper) (o : Oper) (mask : Nat) (dead : Option Nat) (tm : Tr Value) (h : Heap) (mks : List (Nat × Nat × Obj)) : Option Kd :=
  match (match dead with
    | some j => Nat.testBit mask j
    | none => false) with
  | true => some .dead
  | false => match wantE all tm o with
    | none => none
    | some false => some .no
    | some true => match isOdd o.op, isMake o.op, isEff o.op with
      | true, _, _ => none
      | false, true, _ => match makeE cx tm ⟨.nil, base + i, []⟩ o.op with
        | some (v, b) => some (.mak (base + i) b v)
        | none => none
      | false, false, true => match dead with
        | some _ => none
        | none => match opE cx cf tm (release mask mks ⟨h.tr, h.nx, []⟩) o.op with
          | some (.val v, h1) => some (.eff h1.dt ⟨h1.tr, h1.nx, h1.dt ++ h.dt⟩ v)
          | some (.pan chain, h1) => some (.pan h1.dt ⟨h1.tr, h1.nx, h1.dt ++ h.dt⟩ chain)
          | _ => none
      | false, false, false => match opE cx noCall tm (bare big) o.op with
        | some (.val v, _) => some (.pur v)
        | some _ => none
        | none => match targetE cx tm o.op with
          | none => none
          | some t => match h.get t.n with
            | none => none
            | some b => match opE cx noCall tm (only big t.n b) o.op with
              | some (.val v, _) => some (.lod t v)
              | _ => none

def unmade (mask : Nat) : List (Nat × Nat × Obj) → List (Nat × Nat × Obj)
  | [] => []
  | (i, n, o) :: l => match Nat.testBit mask i with
    | true => unmade mask l
    | false => (i, n, o) :: unmade mask l

/-- An open statement's operations, in the text's order, and what each came to (the last one first). -/
def traceE (cf : CallFn) (base : Nat) (all : List Oper) : List Oper → Nat → Tr Nat → Option Nat → Tr Value → Heap → List (Nat × Nat × Obj) → List Sn →
    Option (List Sn × Tr Value × Heap × List (Nat × Nat × Obj))
  | [], _, _, _, tm, h, mks, acc => some (acc, tm, h, mks)
  | o :: l, i, ms, dead, tm, h, mks, acc => match maskE ms i o.after.toList with
    | none => none
    | some mask => match kdE cx cf base i all o mask dead tm h mks with
      | none => none
      | some kd => match kd with
        | .dead => traceE cf base all l (i + 1) (ms.set i (some mask)) dead tm h mks (⟨o, tm, h, mask, kd⟩ :: acc)
        | .no => traceE cf base all l (i + 1) (ms.set i (some mask)) dead (putT tm o.dst undef) h mks (⟨o, tm, h, mask, kd⟩ :: acc)
        | .pur v => traceE cf base all l (i + 1) (ms.set i (some mask)) dead (putT tm o.dst v) h mks (⟨o, tm, h, mask, kd⟩ :: acc)
        | .lod _ v => traceE cf base all l (i + 1) (ms.set i (some mask)) dead (putT tm o.dst v) h mks (⟨o, tm, h, mask, kd⟩ :: acc)
        | .mak n b v => traceE cf base all l (i + 1) (ms.set i (some mask)) dead (putT tm o.dst v) h ((i, n, b) :: mks) (⟨o, tm, h, mask, kd⟩ :: acc)
        | .eff _ h1 v => traceE cf base all l (i + 1) (ms.set i (some mask)) dead (putT tm o.dst v) h1 (unmade mask mks) (⟨o, tm, h, mask, kd⟩ :: acc)
        | .pan _ h1 _ => traceE cf base all l (i + 1) (ms.set i (some mask)) (some i) tm h1 (unmade mask mks) (⟨o, tm, h, mask, kd⟩ :: acc)

/-- Do two operations, the i-th and a later one, go together in either order, or is the earlier one always ahead? -/
def pairOk (all : List Oper) (i : Nat) (x y : Sn) : Bool := match Nat.testBit y.mask i with
  | true => match x.o.dst, y.o.dst with
    | some a, some b => !Nat.beq a b
    | _, _ => true
  | false => (match x.o.dst with
      | some d => !memN d (reads all y.o) && (match y.o.dst with
        | some e => !Nat.beq d e
        | none => true)
      | none => true) &&
    (match y.o.dst with
      | some d => !memN d (reads all x.o)
      | none => true) &&
    (match x.kd, y.kd with
      | .eff .., .eff .. => false
      | .eff .., .pan .. => false
      | .pan .., .eff .. => false
      | .pan .., .pan .. => false
      | .lod t _, .eff ws _ _ => !hits t ws
      | .lod t _, .pan ws _ _ => !hits t ws
      | .eff ws _ _, .lod t _ => !hits t ws
      | .pan ws _ _, .lod t _ => !hits t ws
      | _, _ => true)

/-- The later one first. -/
def pairsOk (all : List Oper) (y : Sn) : Nat → List Sn → Bool
  | _, [] => true
  | 0, _ :: _ => false
  | i + 1, x :: l => match pairOk all i x y with
    | true => pairsOk all y i l
    | false => false

def traceOk (all : List Oper) : Nat → List Sn → Bool
  | _, [] => true
  | 0, _ :: _ => false
  | i + 1, y :: l => match pairsOk all y i l with
    | true => traceOk all i l
    | false => false

/-- Forgets the slots that operations write to. -/
def forget : List Oper → Tr Value → Tr Value
  | [], tm => tm
  | o :: l, tm => match o.dst with
    | some d => forget l (tm.set d none)
    | none => forget l tm

def panOf : List Sn → Option (List PanicEntry)
  | [] => none
  | s :: l => match s.kd with
    | .pan _ _ chain => some chain
    | _ => panOf l

def giveAll : List (Nat × Nat × Obj) → Heap → Heap
  | [], h => h
  | (_, n, o) :: l, h => (giveAll l h).put n (some o)

def drawE (cf : CallFn) (ops : List Oper) (st : St) : Option (Ex × St) :=
  match traceE cx cf st.h.nx ops ops 0 .nil none st.tm ⟨st.h.tr, st.h.nx + ops.length, st.h.dt⟩ [] [] with
  | none => none
  | some (tr, tm, h, mks) => match traceOk ops ops.length tr, Nat.ble h.nx big with
    | false, _ => none
    | _, false => none
    | true, true => match panOf tr with
      | none => some (.normal, { st with tm := tm, h := giveAll mks h })
      | some chain => some (.pan chain, { st with tm := forget ops st.tm, h := h })

/-- A piece of code. -/
def exec (cf : CallFn) (dk : Bool) : Nat → Code → St → Option (Ex × St)
  | 0, _, _ => none
  | n + 1, c, st => match c with
    | .skip => some (.normal, st)
    | .label _ => some (.normal, st)
    | .region _ ops false => opsE cx cf dk ops.toList ops.toList st
    | .region _ ops true => drawE cx cf ops.toList st
    | .seq a b => match exec cf dk n a st with
      | some (.normal, st) => exec cf dk n b st
      | r => r
    | .cond c a b => match ev st.tm c with
      | some (.bool true) => exec cf dk n a st
      | some (.bool false) => exec cf dk n b st
      | _ => none
    | .block id a => match exec cf dk n a st with
      | some (.exit id', st) => match Nat.beq id' id with
        | true => some (.normal, st)
        | false => some (.exit id', st)
      | r => r
    | .loop a => match exec cf dk n a st with
      | some (.normal, st) => exec cf dk n (.loop a) st
      | r => r
    | .scope a => exec cf dk n a st
    | .exit id => some (.exit id, st)
    | .ret => some (.ret, st)
    | _ => none

def argsT : Nat → List Value → Tr Value → Tr Value
  | _, [], t => t
  | i, v :: l, t => argsT (i + 1) l (t.set i (some v))

def resE (tm : Tr Value) (h : Heap) : List ResultVar → Option (List Value)
  | [] => some []
  | .tmp t :: l => match tm.get t, resE tm h l with
    | some v, some vs => some (v :: vs)
    | _, _ => none
  | .cell a t :: l => match tm.get a with
    | some (.pointer (some a)) => match loadT cx h t a, resE tm h l with
      | some v, some vs => some (v :: vs)
      | _, _ => none
    | _ => none

def one : List Value → Value
  | [v] => v
  | l => .tuple l.toArray

/-- How a frame is left: its deferred calls, the last one first. -/
def leave (cd : Nat → List Value → FrameMode → Heap → Option (Fin × FrameMode × Heap)) (fn : Func) (tm : Tr Value) :
    List Deferred → FrameMode → Heap → Option (Fin × Heap)
  | [], .returning, h => match resE cx tm h fn.results.toList with
    | some vs => some (.ret (one vs), h)
    | none => none
  | [], .panicking chain, h => some (.pan chain, h)
  | _, .run, _ => none
  | d :: ds, u, h => match d.target with
    | .fn (.func g) cap => match cd g (d.args.toList ++ cap.toList) u h with
      | some (.ret _, u, h) => leave cd fn tm ds (settle u) h
      | some (.pan chain, u, h) => leave cd fn tm ds (raised u chain) h
      | none => none
    | _ => none

/-- A deferred call: it has no deferred calls of its own. -/
def callD (cf : CallFn) (n g : Nat) (args : List Value) (u : FrameMode) (h : Heap) : Option (Fin × FrameMode × Heap) := match cx.fn g with
  | none => none
  | some (fn, c) => match exec cx cf true n c ⟨argsT 0 args .nil, [], u, h⟩ with
    | none => none
    | some (ex, st) => match st.df with
      | _ :: _ => none
      | [] => match ex with
        | .pan chain => some (.pan chain, st.u, st.h)
        | .exit _ => none
        | _ => match resE cx st.tm st.h fn.results.toList with
          | some vs => some (.ret (one vs), st.u, st.h)
          | none => none

/-- A call. -/
def call : Nat → CallFn
  | 0, _, _, _ => none
  | n + 1, f, args, h => match cx.ext f with
    | some g => g args h
    | none => match cx.fn f with
      | none => none
      | some (fn, c) => match exec cx (call n) false n c ⟨argsT 0 args .nil, [], .run, h⟩ with
        | none => none
        | some (ex, st) => match ex with
          | .pan chain => leave cx (callD cx (call n) n) fn st.tm st.df (.panicking chain) st.h
          | .exit _ => none
          | _ => leave cx (callD cx (call n) n) fn st.tm st.df .returning st.h

end
end Go.Em
