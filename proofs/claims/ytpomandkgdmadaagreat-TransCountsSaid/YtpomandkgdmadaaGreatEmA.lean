/-
  An evaluator of loaded programs over a small memory of its own: blocks are told apart by numbers of its own, the order inside a statement is the text's, capacities that append draws are left open.
  Here: its data and its steps, no proof.
-/
import Derived.Recover
import Derived.Orders
import Derived.Laws.Sem
import Derived.Laws.World
import Derived.Laws.StructEq
namespace Go.Em

/-- A table from numbers: a binary tree. -/
inductive Tr (α : Type) where
  | nil
  | node (v : Option α) (l r : Tr α)

namespace Tr
variable {α : Type}

noncomputable def get (t : Tr α) : Nat → Option α :=
  Tr.rec (motive := fun _ => Nat → Option α) (fun _ => none)
    (fun v _ _ gl gr n => Bool.rec (Bool.rec (gr (Nat.div (Nat.pred n) 2)) (gl (Nat.div (Nat.pred n) 2)) (Nat.beq (Nat.mod (Nat.pred n) 2) 0)) v (Nat.beq n 0)) t

noncomputable def setF (f : Nat) : Tr α → Nat → Option α → Tr α :=
  Nat.rec (motive := fun _ => Tr α → Nat → Option α → Tr α) (fun t _ _ => t) (fun _ ih t n o =>
    Tr.rec (motive := fun _ => Tr α)
      (Bool.rec (Bool.rec (.node none .nil (ih .nil (Nat.div (Nat.pred n) 2) o)) (.node none (ih .nil (Nat.div (Nat.pred n) 2) o) .nil) (Nat.beq (Nat.mod (Nat.pred n) 2) 0)) (.node o .nil .nil) (Nat.beq n 0))
      (fun v l r _ _ => Bool.rec (Bool.rec (.node v l (ih r (Nat.div (Nat.pred n) 2) o)) (.node v (ih l (Nat.div (Nat.pred n) 2) o) r) (Nat.beq (Nat.mod (Nat.pred n) 2) 0)) (.node o l r) (Nat.beq n 0)) t) f

noncomputable def set (t : Tr α) (n : Nat) (o : Option α) : Tr α := setF (n + 1) t n o

end Tr

noncomputable section

/-- The sign of a capacity that is not known. -/
def unk : Nat := 18446744073709551616

/-- What a block holds. `row`: its size, what a cell holds that was not written, what was written, its elements' type, how many cells an element of a slice over it has that append made (else 0), and whether it is only read. -/
inductive Obj where
  | row (size : Nat) (base : Nat → Value) (tr : Tr Value) (elem esz : Nat) (ro : Bool)
  | map (es : List MapEntry) (clock : Nat)
  | chan (cap : Nat) (buf : List Value)

/-- A part of a block: its number, the first cell, how many. -/
structure Part where
  n : Nat
  off : Nat
  len : Nat

/-- Memory: the blocks, the next block's number, and what was written to, made or given up (the latest first). -/
structure Heap where
  tr : Tr Obj
  nx : Nat
  dt : List Part

def Heap.get (h : Heap) (n : Nat) : Option Obj := h.tr.get n
def Heap.put (h : Heap) (n : Nat) (o : Option Obj) : Heap := ⟨h.tr.set n o, h.nx, ⟨n, 0, unk⟩ :: h.dt⟩
def Heap.putAt (h : Heap) (n off len : Nat) (o : Obj) : Heap := ⟨h.tr.set n (some o), h.nx, ⟨n, off, len⟩ :: h.dt⟩
def Heap.add (h : Heap) (o : Obj) : Heap := ⟨h.tr.set h.nx (some o), h.nx + 1, ⟨h.nx, 0, unk⟩ :: h.dt⟩

def rowAt (base : Nat → Value) (tr : Tr Value) (i : Nat) : Value := match tr.get i with
  | some v => v
  | none => base i

/-- n cells from i on. -/
def cellsFrom (base : Nat → Value) (tr : Tr Value) : Nat → Nat → List Value
  | _, 0 => []
  | i, n + 1 => rowAt base tr i :: cellsFrom base tr (i + 1) n

def setCells (tr : Tr Value) : Nat → List Value → Tr Value
  | _, [] => tr
  | i, v :: vs => setCells (tr.set i (some v)) (i + 1) vs

/-- A value that one cell holds. -/
def isCell : Value → Bool
  | .agg _ | .tuple _ => false
  | _ => true

/-- A value that names no block. -/
def flat : Value → Bool
  | .bool _ | .int _ _ | .string _ | .pointer none | .slice none _ _ | .map none | .chan none | .nilFunc | .nilIface => true
  | _ => false

def lget : List Value → Nat → Value
  | [], _ => undef
  | v :: _, 0 => v
  | _ :: l, n + 1 => lget l n

def sameInt : Value → Value → Bool
  | .int k a, .int k' b => match decEq k k' with
    | isTrue _ => match Int.decEq a b with
      | isTrue _ => true
      | isFalse _ => false
    | isFalse _ => false
  | _, _ => false

def allSame (v : Value) : List Value → Bool
  | [] => true
  | x :: l => match sameInt v x with
    | true => allSame v l
    | false => false

/-- A row of these cells. -/
def mkRow (cs : List Value) (n elem esz : Nat) : Obj := match Nat.ble n 256 with
  | true => .row n (lget cs) .nil elem esz false
  | false => match cs with
    | [] => .row n (lget cs) .nil elem esz false
    | v :: _ => match allSame v cs with
      | true => .row n (fun _ => v) .nil elem esz false
      | false => .row n (lget cs) .nil elem esz false

def allCells : List Value → Bool
  | [] => true
  | v :: l => match isCell v with
    | true => allCells l
    | false => false

/-- n cells at an address. -/
def loadN (h : Heap) (a : Addr) (n : Nat) : Option (List Value) := match a.spot with
  | some _ => none
  | none => match h.get a.block with
    | some (.row size base tr _ _ _) => match Nat.ble (a.off + n) size with
      | true => some (cellsFrom base tr a.off n)
      | false => none
    | _ => none

def storeN (h : Heap) (a : Addr) (vs : List Value) : Option Heap := match a.spot with
  | some _ => none
  | none => match h.get a.block with
    | some (.row size base tr elem esz false) => match Nat.ble (a.off + vs.length) size, allCells vs with
      | true, true => some (h.putAt a.block a.off vs.length (.row size base (setCells tr a.off vs) elem esz false))
      | _, _ => none
    | _ => none

/-- What is told of a type: what it is underneath, its size in cells and in bytes, its zero value. -/
structure Ty where
  d : TypeDesc
  size : Nat
  bytes : Nat
  zero : Value

/-- How a call ends. -/
inductive Fin where
  | ret (v : Value)
  | pan (chain : List PanicEntry)

abbrev CallFn := Nat → List Value → Heap → Option (Fin × Heap)

/-- The program, what is told of its types and functions, and of functions that are not gone into. -/
structure Cx where
  P : Program
  ty : Nat → Option Ty
  fn : Nat → Option (Func × Code)
  ext : Nat → Option (List Value → Heap → Option (Fin × Heap))

/-- A frame's state: slots, deferred calls, how the frame below stands, memory. -/
structure St where
  tm : Tr Value
  df : List Deferred
  u : FrameMode
  h : Heap

def aggD : TypeDesc → Bool
  | .struct _ | .array _ _ => true
  | _ => false

section
variable (cx : Cx)

def ev (tm : Tr Value) : Operand → Option Value
  | .tmp t => tm.get t
  | .const v => match flat v with
    | true => some v
    | false => none
  | .global _ => none
  | .func f => some (.func (.func f) #[] #[])

def evs (tm : Tr Value) : List Operand → Option (List Value)
  | [] => some []
  | x :: l => match ev tm x with
    | some v => match evs tm l with
      | some vs => some (v :: vs)
      | none => none
    | none => none

def evParts (tm : Tr Value) : List (Nat × Operand) → Option (List (Nat × Value))
  | [] => some []
  | (i, x) :: l => match ev tm x with
    | some v => match evParts tm l with
      | some vs => some ((i, v) :: vs)
      | none => none
    | none => none

def loadT (h : Heap) (t : Nat) (a : Addr) : Option Value := match cx.ty t with
  | some i => match aggD i.d with
    | true => match loadN h a i.size with
      | some l => some (.agg l.toArray)
      | none => none
    | false => match loadN h a 1 with
      | some [v] => some v
      | _ => none
  | none => none

def storeT (h : Heap) (t : Nat) (a : Addr) (v : Value) : Option Heap := match cx.ty t with
  | some i => match Nat.beq v.cells.size i.size with
    | true => storeN h a v.cells.toList
    | false => none
  | none => none

/-- Integers' operators. -/
def intOp (op : BinOp) (k : IntKind) (a b : Int) : Option Value := match op with
  | .add => some (.int k (k.wrap (a + b)))
  | .sub => some (.int k (k.wrap (a - b)))
  | .mul => some (.int k (k.wrap (a * b)))
  | .quo => match Int.decEq b 0 with
    | isTrue _ => none
    | isFalse _ => some (.int k (k.wrap (a.tdiv b)))
  | .rem => match Int.decEq b 0 with
    | isTrue _ => none
    | isFalse _ => some (.int k (a.tmod b))
  | .and => some (.int k (k.wrap (BitVec.ofInt k.bits a &&& BitVec.ofInt k.bits b).toNat))
  | .or => some (.int k (k.wrap (BitVec.ofInt k.bits a ||| BitVec.ofInt k.bits b).toNat))
  | .xor => some (.int k (k.wrap (BitVec.ofInt k.bits a ^^^ BitVec.ofInt k.bits b).toNat))
  | .andNot => some (.int k (k.wrap (BitVec.ofInt k.bits a &&& ~~~(BitVec.ofInt k.bits b)).toNat))
  | .eql => some (.bool (a == b))
  | .neq => some (.bool (a != b))
  | .lss => some (.bool (decide (a < b)))
  | .leq => some (.bool (decide (a ≤ b)))
  | .gtr => some (.bool (decide (a > b)))
  | .geq => some (.bool (decide (a ≥ b)))
  | _ => none

def shiftOp (op : BinOp) (k : IntKind) (a b : Int) : Option Value := match decide (b < 0) with
  | true => none
  | false => match op with
    | .shl => some (.int k (k.wrap (a * 2 ^ min b.toNat k.bits)))
    | .shr => some (.int k (a.fdiv (2 ^ min b.toNat k.bits)))
    | _ => none

/-- Is a part of a struct or an array that is compared a live one's? -/
def live (h : Heap) (n : Nat) : Bool := match h.get n with
  | some (.row _ _ _ _ _ false) => true
  | _ => false

end

section
variable (cx : Cx)

/-- Are two lists of bytes the same? -/
def bytesEq : List UInt8 → List UInt8 → Bool
  | [], [] => true
  | a :: x, b :: y => match Nat.beq a.toNat b.toNat with
    | true => bytesEq x y
    | false => false
  | _, _ => false

def partA (i : Ty) (xs : List Value) (off : Nat) : Option Value := match aggD i.d with
  | true => match Nat.ble (off + i.size) xs.length with
    | true => some (.agg ((xs.drop off).take i.size).toArray)
    | false => none
  | false => match xs.drop off with
    | v :: _ => some v
    | [] => none

def eqFs (eq : Nat → Value → Value → Option Bool) (xs ys : List Value) : List Field → Option Bool
  | [] => some true
  | f :: fs => match cx.ty f.type with
    | none => none
    | some i => match partA i xs f.offset, partA i ys f.offset with
      | some x, some y => match eq f.type x y with
        | some true => eqFs eq xs ys fs
        | some false => some false
        | none => none
      | _, _ => none

def eqNs (eq : Value → Value → Option Bool) (i : Ty) (xs ys : List Value) : Nat → Nat → Option Bool
  | _, 0 => some true
  | k, n + 1 => match partA i xs (k * i.size), partA i ys (k * i.size) with
    | some x, some y => match eq x y with
      | some true => eqNs eq i xs ys (k + 1) n
      | some false => some false
      | none => none
    | _, _ => none

/-- Are two values equal? (none: it is not told) -/
def eqA (h : Heap) : Nat → Nat → Value → Value → Option Bool
  | 0, _, _, _ => none
  | d + 1, t, x, y => match cx.ty t with
    | none => none
    | some i => match i.d, x, y with
      | .bool, .bool a, .bool b => some (a == b)
      | .int _, .int k a, .int k' b => match decEq k k' with
        | isTrue _ => some (a == b)
        | isFalse _ => none
      | .string, .string a, .string b => some (bytesEq a.data.toList b.data.toList)
      | .pointer _, .pointer none, .pointer b => some b.isNone
      | .pointer _, .pointer (some _), .pointer none => some false
      | .pointer e, .pointer (some a), .pointer (some b) => match cx.ty e with
        | some j => match Nat.beq j.size 0, a.spot, b.spot with
          | false, none, none => match Nat.beq a.block b.block with
            | true => some (Nat.beq a.off b.off)
            | false => match live h a.block, live h b.block with
              | true, true => some false
              | _, _ => none
          | _, _, _ => none
        | none => none
      | .struct fs, .agg xs, .agg ys => eqFs cx (eqA h d) xs.toList ys.toList fs.toList
      | .array n e, .agg xs, .agg ys => match cx.ty e with
        | some j => eqNs (eqA h d e) j xs.toList ys.toList 0 n
        | none => none
      | .interface _, .nilIface, .nilIface => some true
      | .interface _, .nilIface, .iface _ _ => some false
      | .interface _, .iface _ _, .nilIface => some false
      | .slice _, .slice none _ _, .slice b _ _ => some b.isNone
      | .slice _, .slice _ _ _, .slice none _ _ => some false
      | .map _ _, .map none, .map b => some b.isNone
      | .map _ _, .map _, .map none => some false
      | .func _ _ _, .nilFunc, .nilFunc => some true
      | .func _ _ _, .nilFunc, .func _ _ _ => some false
      | .func _ _ _, .func _ _ _, .nilFunc => some false
      | _, _, _ => none

/-- May a value be a map's key? -/
def keyOk : Nat → Nat → Value → Bool
  | 0, _, _ => false
  | d + 1, t, v => match cx.ty t with
    | none => false
    | some i => match i.d, v with
      | .interface _, _ => false
      | .array n e, .agg cs => match cx.ty e with
        | some j => arr (keyOk d e) j cs.toList 0 n
        | none => false
      | .struct fs, .agg cs => flds (keyOk d) cs.toList fs.toList
      | .array _ _, _ => false
      | .struct _, _ => false
      | _, _ => true
where
  arr (ok : Value → Bool) (j : Ty) (cs : List Value) : Nat → Nat → Bool
    | _, 0 => true
    | k, n + 1 => match partA j cs (k * j.size) with
      | some x => match ok x with
        | true => arr ok j cs (k + 1) n
        | false => false
      | none => false
  flds (ok : Nat → Value → Bool) (cs : List Value) : List Field → Bool
    | [] => true
    | f :: fs => match cx.ty f.type with
      | none => false
      | some i => match partA i cs f.offset with
        | some x => match ok f.type x with
          | true => flds ok cs fs
          | false => false
        | none => false

/-- Where a key stands. -/
def findA (eq : Value → Option Bool) : List MapEntry → Nat → Option (Option (Nat × Value))
  | [], _ => some none
  | e :: es, i => match eq e.key with
    | some true => some (some (i, e.val))
    | some false => findA eq es (i + 1)
    | none => none

def findK (h : Heap) (kt : Nat) (k : Value) (es : List MapEntry) : Option (Option (Nat × Value)) :=
  findA (fun x => eqA cx h 60 kt k x) es 0

def getMap (h : Heap) : Value → Option (List MapEntry)
  | .map none => some []
  | .map (some r) => match h.get r with
    | some (.map es _) => some es
    | _ => none
  | _ => none

def lookupE (h : Heap) (t : Nat) (m k : Value) (ok : Bool) : Option Value := match cx.ty t with
  | some i => match i.d with
    | .map kt et => match getMap h m, keyOk cx 60 kt k, cx.ty et with
      | some es, true, some e => match findK cx h kt k es with
        | some (some (_, v)) => some (match ok with
          | true => .tuple #[v, .bool true]
          | false => v)
        | some none => some (match ok with
          | true => .tuple #[e.zero, .bool false]
          | false => e.zero)
        | none => none
      | _, _, _ => none
    | _ => none
  | none => none

def modE (es : List MapEntry) (i : Nat) (k v : Value) : List MapEntry := match es, i with
  | [], _ => []
  | e :: es, 0 => { e with key := k, val := v } :: es
  | e :: es, i + 1 => e :: modE es i k v

def dropE (es : List MapEntry) (i : Nat) : List MapEntry := match es, i with
  | [], _ => []
  | _ :: es, 0 => es
  | e :: es, i + 1 => e :: dropE es i

def keyAt : List MapEntry → Nat → Value → Value
  | [], _, k => k
  | e :: _, 0, _ => e.key
  | _ :: es, i + 1, k => keyAt es i k

def updateE (h : Heap) (t : Nat) (m k v : Value) : Option Heap := match cx.ty t, m with
  | some i, .map (some r) => match i.d, h.get r with
    | .map kt _, some (.map es clock) => match keyOk cx 60 kt k, findK cx h kt k es with
      | true, some (some (j, _)) => match Instr.sameBits 10000 (keyAt es j k) k with
        | true => some (h.put r (some (.map (modE es j k v) clock)))
        | false => none
      | true, some none => some (h.put r (some (.map (es ++ [{ key := k, val := v, born := clock }]) (clock + 1))))
      | _, _ => none
    | _, _ => none
  | _, _ => none

def deleteE (h : Heap) (t : Nat) (m k : Value) : Option Heap := match cx.ty t, m with
  | some i, .map (some r) => match i.d, h.get r with
    | .map kt _, some (.map es clock) => match keyOk cx 60 kt k, findK cx h kt k es with
      | true, some (some (j, _)) => some (h.put r (some (.map (dropE es j) clock)))
      | true, some none => some (h.put r (some (.map es clock)))
      | _, _ => none
    | _, _ => none
  | _, _ => none

/-- The cells of a slice's, or a string's, first n elements. -/
def firstE (h : Heap) (size n : Nat) : Value → Option (List Value)
  | .slice (some a) _ _ => loadN h a (n * size)
  | .slice none _ _ => some []
  | .string s => some ((s.extract 0 n).data.toList.map fun b => .int .u8 b.toNat)
  | _ => none

def lenE : Value → Option Nat
  | .slice _ n _ => some n
  | .string s => some s.size
  | _ => none

def isIntD : TypeDesc → Bool
  | .int _ => true
  | _ => false

def addOff (a : Addr) (n : Nat) : Addr := ⟨a.block, a.off + n, a.spot⟩

def appendE (h : Heap) (ts : List Nat) (s x : Value) : Option (Value × Heap) := match ts, s with
  | [st, xt], .slice base len cap => match cx.ty st, cx.ty xt with
    | some i, some xi => match i.d, isIntD xi.d with
      | .slice et, false => match cx.ty et, lenE x with
        | some e, some n => match firstE h e.size n x, Nat.ble ((2 * (len + n) + 256) * e.bytes) 140737488355328, Nat.beq e.bytes 0, Nat.beq e.size 0 with
          | some new, true, false, false => match Nat.beq new.length (n * e.size), Nat.beq cap unk with
            | false, _ => none
            | true, false => match Nat.ble (len + n) cap with
              | true => match base with
                | some a => match storeN h (addOff a (len * e.size)) new with
                  | some h' => some (.slice base (len + n) cap, h')
                  | none => none
                | none => some (.slice base (len + n) cap, h)
              | false => match firstE h e.size len s with
                | some old => match Nat.beq old.length (len * e.size) with
                  | true => some (.slice (some ⟨h.nx, 0, none⟩) (len + n) unk, h.add (mkRow (old ++ new) ((len + n) * e.size) et e.size))
                  | false => none
                | none => none
            | true, true => match base with
              | none => none
              | some a => match a.spot, h.get a.block with
                | none, some (.row size b tr el esz false) => match Nat.beq esz e.size, Nat.ble (a.off + (len + n) * e.size) size, allCells new, Nat.ble (a.off + len * e.size) size with
                  | true, true, true, _ => some (.slice base (len + n) cap, h.putAt a.block (a.off + len * e.size) new.length (.row size b (setCells tr (a.off + len * e.size) new) el esz false))
                  | true, false, true, true => match Nat.beq a.off 0 with
                    | true => some (.slice (some ⟨h.nx, 0, none⟩) (len + n) unk, (h.put a.block none).add (.row ((len + n) * e.size) b (setCells tr (len * e.size) new) el esz false))
                    | false => some (.slice (some ⟨h.nx, 0, none⟩) (len + n) unk, (h.put a.block none).add (mkRow (cellsFrom b tr a.off (len * e.size) ++ new) ((len + n) * e.size) el esz))
                  | _, _, _, _ => none
                | _, _ => none
          | _, _, _, _ => none
        | _, _ => none
      | _, _ => none
    | _, _ => none
  | _, _ => none

def boundE (v : Value) (m : Nat) : Option Nat := match v with
  | .int _ i => match decide (0 ≤ i), Nat.ble i.toNat m with
    | true, true => some i.toNat
    | _, _ => none
  | _ => none

def boundO (o : Option Value) (dflt m : Nat) : Option Nat := match o with
  | none => some dflt
  | some v => boundE v m

/-- x[lo:hi:mx]. -/
def sliceE (h : Heap) (t : Nat) (x : Value) (lo hi mx : Option Value) : Option Value := match cx.ty t with
  | none => none
  | some i => match i.d, x with
    | .array n e, .pointer (some a) => match a.spot, cx.ty e, mx with
      | none, some j, none => match boundO hi n n with
        | some hh => match boundO lo 0 hh with
          | some l => match Nat.beq (n - l) unk with
            | true => none
            | false => some (.slice (some (match Nat.beq n l with
              | true => a
              | false => addOff a (l * j.size))) (hh - l) (n - l))
          | none => none
        | none => none
      | _, _, _ => none
    | .slice e, .slice b len cap => match cx.ty e, Nat.beq cap unk with
      | some j, false => match boundO mx cap cap with
        | some m => match boundO hi len m with
          | some hh => match boundO lo 0 hh, mx.isSome && hi.isNone with
            | some l, false => match Nat.beq (m - l) unk with
              | true => none
              | false => some (.slice (match Nat.beq m l with
                | true => b
                | false => match b with
                  | some a => some (addOff a (l * j.size))
                  | none => none) (hh - l) (m - l))
            | _, _ => none
          | none => none
        | none => none
      | some j, true => match b, mx with
        | some a, none => match h.get a.block, a.spot with
          | some (.row size _ _ _ esz _), none => match boundO hi len len, Nat.beq esz j.size, Nat.beq esz 0, Nat.ble (a.off + len * esz) size with
            | some hh, true, false, true => match boundO lo 0 hh with
              | some l => match Nat.beq l 0, Nat.blt l len with
                | true, _ => some (.slice b hh unk)
                | false, true => some (.slice (some (addOff a (l * j.size))) (hh - l) unk)
                | false, false => none
              | none => none
            | _, _, _, _ => none
          | _, _ => none
        | _, _ => none
      | none, _ => none
    | _, _ => none

def strOf : List Value → List UInt8 → Option (List UInt8)
  | [], acc => some acc.reverse
  | .int .u8 n :: l, acc => strOf l (UInt8.ofNat n.toNat :: acc)
  | _, _ => none

def convertE (h : Heap) (src dst : Nat) (x : Value) : Option Value := match cx.ty src, cx.ty dst with
  | some si, some di => match si.d, di.d, x with
    | .int _, .int k, .int _ n => some (.int k (k.wrap n))
    | .slice e, .string, .slice none _ _ => match cx.ty e with
      | some ei => match ei.d with
        | .int .u8 => some (.string .empty)
        | _ => none
      | none => none
    | .slice e, .string, .slice (some a) n _ => match cx.ty e with
      | some ei => match ei.d with
        | .int .u8 => match loadN h a n with
          | some l => match strOf l [] with
            | some bs => some (.string ⟨bs.toArray⟩)
            | none => none
          | none => none
        | _ => none
      | none => none
    | _, _, _ => none
  | _, _ => none

def fillE (zero : List Value) : List (Nat × List Value) → List Value
  | [] => zero
  | (off, vs) :: l => fillE (put zero off vs) l
where
  put : List Value → Nat → List Value → List Value
    | zs, _, [] => zs
    | [], _, _ => []
    | _ :: zs, 0, v :: vs => v :: put zs 0 vs
    | z :: zs, n + 1, vs => z :: put zs n vs

/-- Where the parts lie, and whether each is of its size. -/
def placesE (place : Nat → Option (Nat × Nat)) (n : Nat) : List (Nat × Value) → Option (List (Nat × List Value))
  | [] => some []
  | (i, v) :: l => match place i with
    | some (off, size) => match Nat.beq v.cells.size size, Nat.ble (off + size) n, placesE place n l with
      | true, true, some r => some ((off, v.cells.toList) :: r)
      | _, _, _ => none
    | none => none

def fieldAt (fs : List Field) (i : Nat) : Option Field := match fs, i with
  | [], _ => none
  | f :: _, 0 => some f
  | _ :: fs, i + 1 => fieldAt fs i

def buildE (t : Nat) (parts : List (Nat × Value)) : Option Value := match cx.ty t with
  | none => none
  | some i => match i.d with
    | .struct fs => match parts with
      | [] => some (.agg i.zero.cells)
      | _ => match placesE (fun k => match fieldAt fs.toList k with
          | some f => match cx.ty f.type with
            | some j => some (f.offset, j.size)
            | none => none
          | none => none) i.zero.cells.size parts with
        | some l => some (.agg (fillE i.zero.cells.toList l).toArray)
        | none => none
    | .array _ e => match cx.ty e with
      | some j => match parts with
        | [] => some (.agg i.zero.cells)
        | _ => match placesE (fun k => some (k * j.size, j.size)) i.zero.cells.size parts with
          | some l => some (.agg (fillE i.zero.cells.toList l).toArray)
          | none => none
      | none => none
    | _ => none

def repl (z : List Value) : Nat → List Value
  | 0 => []
  | n + 1 => z ++ repl z n

def lmod (z : List Value) (i : Nat) : Value := lget z (i % z.length)

def buildSliceE (h : Heap) (t len : Nat) (parts : List (Nat × Value)) : Option (Value × Obj) := match cx.ty t with
  | none => none
  | some i => match i.d with
    | .slice e => match cx.ty e with
      | some j => match Nat.ble (len * j.size) 16777216, Nat.beq j.size 0, Nat.beq j.zero.cells.size j.size, placesE (fun k => some (k * j.size, j.size)) (len * j.size) parts with
        | true, false, true, some l => some (.slice (some ⟨h.nx, 0, none⟩) len len, mkRow (fillE (repl j.zero.cells.toList len) l) (len * j.size) e 0)
        | _, _, _, _ => none
      | none => none
    | _ => none

def makeSliceE (h : Heap) (t : Nat) (l c : Value) : Option (Value × Obj) := match cx.ty t, l, c with
  | some i, .int _ l, .int _ c => match i.d with
    | .slice e => match cx.ty e with
      | some j => match decide (0 ≤ l), decide (l ≤ c), decide (c ≤ 4294967296), Nat.ble (c.toNat * j.bytes) 140737488355328, Nat.beq j.size 0, Nat.beq j.zero.cells.size j.size with
        | true, true, true, true, false, true => some (.slice (some ⟨h.nx, 0, none⟩) l.toNat c.toNat, .row (c.toNat * j.size) (match j.zero.cells.toList with
          | [z] => fun _ => z
          | zs => lmod zs) .nil e 0 false)
        | _, _, _, _, _, _ => none
      | none => none
    | _ => none
  | _, _, _ => none

def lenOp (h : Heap) (t : Nat) (x : Value) : Option Value := match cx.ty t with
  | none => none
  | some i => match i.d, x with
    | .string, .string s => some (.int .i64 s.size)
    | .array n _, _ => some (.int .i64 n)
    | .pointer e, _ => match cx.ty e with
      | some j => match j.d with
        | .array n _ => some (.int .i64 n)
        | _ => none
      | none => none
    | .slice _, .slice _ n _ => some (.int .i64 n)
    | .map _ _, .map none => some (.int .i64 0)
    | .map _ _, .map (some r) => match h.get r with
      | some (.map es _) => some (.int .i64 es.length)
      | _ => none
    | .chan _ _, .chan none => some (.int .i64 0)
    | .chan _ _, .chan (some r) => match h.get r with
      | some (.chan _ buf) => some (.int .i64 buf.length)
      | _ => none
    | _, _ => none

def foldMin (mx : Bool) : Value → List Value → Option Value
  | x, [] => some x
  | .int k a, .int _ b :: l => foldMin mx (.int k (match mx with
    | true => if b > a then b else a
    | false => if b < a then b else a)) l
  | _, _ => none

def clearE (h : Heap) (t : Nat) (x : Value) : Option Heap := match cx.ty t with
  | none => none
  | some i => match i.d, x with
    | _, .map none => some h
    | .map _ _, .map (some r) => match h.get r with
      | some (.map _ clock) => some (h.put r (some (.map [] clock)))
      | _ => none
    | .slice _, .slice none _ _ => some h
    | .slice _, .slice _ 0 _ => some h
    | .slice e, .slice (some a) n _ => match cx.ty e with
      | some j => storeN h a (repl j.zero.cells.toList n)
      | none => none
    | _, _ => none

def binE (h : Heap) (op : BinOp) (t : Nat) (x y : Value) : Option Value := match op, x, y with
  | .shl, .int k a, .int _ b => shiftOp .shl k a b
  | .shr, .int k a, .int _ b => shiftOp .shr k a b
  | _, .int k a, .int k' b => match decEq k k' with
    | isTrue _ => intOp op k a b
    | isFalse _ => none
  | .add, .string a, .string b => match Nat.ble (a.size + b.size) 1099511627776 with
    | true => some (.string (a ++ b))
    | false => none
  | .eql, .string a, .string b => some (.bool (bytesEq a.data.toList b.data.toList))
  | .neq, .string a, .string b => some (.bool (!(bytesEq a.data.toList b.data.toList)))
  | _, .string _, .string _ => none
  | .eql, _, _ => match eqA cx h 60 t x y with
    | some b => some (.bool b)
    | none => none
  | .neq, _, _ => match eqA cx h 60 t x y with
    | some b => some (.bool (!b))
    | none => none
  | _, _, _ => none

def unE (op : UnOp) : Value → Option Value
  | .int k n => match op with
    | .neg => some (.int k (k.wrap (0 - n)))
    | .xor => some (.int k (k.wrap (BitVec.ofInt k.bits (if k.signed then -1 else k.max) ^^^ BitVec.ofInt k.bits n).toNat))
    | _ => none
  | .bool b => match op with
    | .not => some (.bool !b)
    | _ => none
  | _ => none

def fieldAddrE (t : Nat) (x : Value) (f : Nat) : Option Value := match cx.ty t, x with
  | some i, .pointer (some a) => match i.d with
    | .struct fs => match fieldAt fs.toList f with
      | some f => match cx.ty f.type with
        | some j => match Nat.beq j.size 0 with
          | true => none
          | false => match Nat.beq f.offset 0 with
            | true => some (.pointer (some a))
            | false => some (.pointer (some ⟨a.block, a.off + f.offset, none⟩))
        | none => none
      | none => none
    | _ => none
  | _, _ => none

def fieldE (t : Nat) (x : Value) (f : Nat) : Option Value := match cx.ty t, x with
  | some i, .agg cs => match i.d with
    | .struct fs => match fieldAt fs.toList f with
      | some f => match cx.ty f.type with
        | some j => partA j cs.toList f.offset
        | none => none
      | none => none
    | _ => none
  | _, _ => none

def indexAddrE (t : Nat) (x i : Value) : Option Value := match cx.ty t, i with
  | some ti, .int _ i => match ti.d, x with
    | .array n e, .pointer (some a) => match decide (0 ≤ i), Nat.blt i.toNat n, cx.ty e with
      | true, true, some j => match Nat.beq (i.toNat * j.size) 0 with
        | true => some (.pointer (some a))
        | false => some (.pointer (some ⟨a.block, a.off + i.toNat * j.size, none⟩))
      | _, _, _ => none
    | .slice e, .slice (some a) n _ => match decide (0 ≤ i), Nat.blt i.toNat n, cx.ty e with
      | true, true, some j => match Nat.beq (i.toNat * j.size) 0 with
        | true => some (.pointer (some a))
        | false => some (.pointer (some ⟨a.block, a.off + i.toNat * j.size, none⟩))
      | _, _, _ => none
    | _, _ => none
  | _, _ => none

def indexE (t : Nat) (x i : Value) : Option Value := match cx.ty t, i with
  | some ti, .int _ i => match ti.d, x with
    | .array n e, .agg cs => match decide (0 ≤ i), Nat.blt i.toNat n, cx.ty e with
      | true, true, some j => partA j cs.toList (i.toNat * j.size)
      | _, _, _ => none
    | .string, .string s => match decide (0 ≤ i), s.data.toList.drop i.toNat with
      | true, b :: _ => some (.int .u8 b.toNat)
      | _, _ => none
    | _, _ => none
  | _, _ => none

def assertE (x : Value) (want : Nat) (ok : Bool) : Option Value := match cx.ty want with
  | some i => match i.d, x, ok with
    | .interface _, _, _ => none
    | _, .nilIface, true => some (.tuple #[i.zero, .bool false])
    | _, .iface t v, true => match Nat.beq t want with
      | true => some (.tuple #[v, .bool true])
      | false => some (.tuple #[i.zero, .bool false])
    | _, .iface t v, false => match Nat.beq t want with
      | true => some v
      | false => none
    | _, _, _ => none
  | none => none

def tupAt (l : List Value) (n : Nat) : Option Value := match l, n with
  | [], _ => none
  | v :: _, 0 => some v
  | _ :: l, n + 1 => tupAt l n

/-- Two nil interface values are not compared but with a constant. -/
def guardE (x y : Operand) : Value → Bool
  | .nilIface => match x, y with
    | .const _, _ => true
    | _, .const _ => true
    | _, _ => false
  | _ => true

/-- What an operation comes to. -/
inductive Out where
  | val (v : Value)
  | pan (chain : List PanicEntry)
  | dfr (d : Deferred)
  | rcv

def evO (tm : Tr Value) : Option Operand → Option (Option Value)
  | none => some none
  | some x => match ev tm x with
    | some v => some (some v)
    | none => none

def val (o : Option Value) (h : Heap) : Option (Out × Heap) := match o with
  | some v => some (.val v, h)
  | none => none

def skp (o : Option Heap) : Option (Out × Heap) := match o with
  | some h => some (.val undef, h)
  | none => none

/-- A function value with arguments: the function, and what it is handed. -/
def target (f : Value) (args : List Value) : Option (Nat × List Value) := match f with
  | .func (.func g) first cap => some (g, first.toList ++ args ++ cap.toList)
  | _ => none

def builtinE (h : Heap) (b : Builtin) (ts : List Nat) (args : List Value) : Option (Out × Heap) := match b, args with
  | .len, [x] => match ts with
    | [t] => val (lenOp cx h t x) h
    | _ => none
  | .append, [s, x] => match appendE cx h ts s x with
    | some (v, h') => some (.val v, h')
    | none => none
  | .copy, [d, s] => match ts, d with
    | dt :: _, .slice base dl _ => match cx.ty dt, lenE s with
      | some i, some n => match i.d with
        | .slice e => match cx.ty e with
          | some j => match firstE h j.size (Nat.min n dl) s with
            | some cs => match base with
              | some a => match storeN h a cs with
                | some h' => some (.val (.int .i64 (Nat.min n dl)), h')
                | none => none
              | none => some (.val (.int .i64 (Nat.min n dl)), h)
            | none => none
          | none => none
        | _ => none
      | _, _ => none
    | _, _ => none
  | .delete, [m, k] => match ts with
    | t :: _ => match deleteE cx h t m k with
      | some h' => some (.val (.tuple #[]), h')
      | none => none
    | _ => none
  | .clear, [x] => match ts with
    | t :: _ => match clearE cx h t x with
      | some h' => some (.val (.tuple #[]), h')
      | none => none
    | _ => none
  | .min, x :: l => val (foldMin false x l) h
  | .max, x :: l => val (foldMin true x l) h
  | .recover, [] => some (.rcv, h)
  | _, _ => none

/-- An operation that makes one block: its value, and the block. -/
def makeE (tm : Tr Value) (h : Heap) (o : Op) : Option (Value × Obj) := match o with
  | .alloc t => match cx.ty t with
    | some i => some (.pointer (some ⟨h.nx, 0, none⟩), mkRow i.zero.cells.toList i.zero.cells.size t 0)
    | none => none
  | .box t x => match ev tm x with
    | some v => some (.pointer (some ⟨h.nx, 0, none⟩), mkRow v.cells.toList v.cells.size t 0)
    | none => none
  | .buildSlice t n ps => match evParts tm ps.toList with
    | some l => buildSliceE cx h t n l
    | none => none
  | .makeMap _ none => some (.map (some h.nx), .map [] 0)
  | .makeMap t (some r) => match cx.ty t, ev tm r with
    | some i, some (.int _ _) => match i.d with
      | .map _ _ => some (.map (some h.nx), .map [] 0)
      | _ => none
    | _, _ => none
  | .makeChan t s => match cx.ty t, ev tm s with
    | some i, some (.int _ n) => match i.d with
      | .chan _ e => match cx.ty e, decide (0 ≤ n), decide (n ≤ 65536) with
        | some j, true, true => match Nat.ble j.bytes 65536 with
          | true => some (.chan (some h.nx), .chan n.toNat [])
          | false => none
        | _, _, _ => none
      | _ => none
    | _, _ => none
  | .makeSlice t l c => match ev tm l, ev tm c with
    | some l, some c => makeSliceE cx h t l c
    | _, _ => none
  | _ => none

def isMake : Op → Bool
  | .alloc _ | .box _ _ | .buildSlice _ _ _ | .makeMap _ _ | .makeChan _ _ | .makeSlice _ _ _ => true
  | _ => false

def opE (cf : CallFn) (tm : Tr Value) (h : Heap) (o : Op) : Option (Out × Heap) := match o with
  | .move x => val (ev tm x) h
  | .assign x => val (ev tm x) h
  | .pick c a b => match ev tm c with
    | some (.bool true) => val (ev tm a) h
    | some (.bool false) => val (ev tm b) h
    | _ => none
  | .build t ps => match evParts tm ps.toList with
    | some l => val (buildE cx t l) h
    | none => none
  | .load t a => match ev tm a with
    | some (.pointer (some a)) => val (loadT cx h t a) h
    | _ => none
  | .store t a x => match ev tm a, ev tm x with
    | some (.pointer (some a)), some v => skp (storeT cx h t a v)
    | _, _ => none
  | .nilCheck x => match ev tm x with
    | some (.pointer (some a)) => some (.val (.pointer (some a)), h)
    | some (.func (.func f) a b) => some (.val (.func (.func f) a b), h)
    | _ => none
  | .binOp op t x y _ => match ev tm x, ev tm y with
    | some a, some b => match guardE x y a with
      | true => val (binE cx h op t a b) h
      | false => none
    | _, _ => none
  | .unOp op _ x => match ev tm x with
    | some a => val (unE op a) h
    | none => none
  | .convert s d x => match ev tm x with
    | some a => val (convertE cx h s d a) h
    | none => none
  | .makeInterface t x => match cx.ty t, ev tm x with
    | some i, some v => match i.d with
      | .interface _ => none
      | _ => some (.val (.iface t v), h)
    | _, _ => none
  | .makeFunc fn a b => match evs tm a.toList, evs tm b.toList with
    | some a, some b => some (.val (.func fn a.toArray b.toArray), h)
    | _, _ => none
  | .insert t m k v => match ev tm m, ev tm k, ev tm v with
    | some m, some k, some v => skp (updateE cx h t m k v)
    | _, _, _ => none
  | .mapUpdate t m k v => match ev tm m, ev tm k, ev tm v with
    | some m, some k, some v => skp (updateE cx h t m k v)
    | _, _, _ => none
  | .slice t x lo hi mx => match ev tm x, evO tm lo, evO tm hi, evO tm mx with
    | some x, some lo, some hi, some mx => val (sliceE cx h t x lo hi mx) h
    | _, _, _, _ => none
  | .fieldAddr t x f => match ev tm x with
    | some x => val (fieldAddrE cx t x f) h
    | none => none
  | .field t x f => match ev tm x with
    | some x => val (fieldE cx t x f) h
    | none => none
  | .indexAddr t x i => match ev tm x, ev tm i with
    | some x, some i => val (indexAddrE cx t x i) h
    | _, _ => none
  | .index t x i => match ev tm x, ev tm i with
    | some x, some i => val (indexE cx t x i) h
    | _, _ => none
  | .lookup t x i ok => match ev tm x, ev tm i with
    | some x, some i => val (lookupE cx h t x i ok) h
    | _, _ => none
  | .typeAssert x _ want ok => match ev tm x with
    | some x => val (assertE cx x want ok) h
    | none => none
  | .extract t i => match ev tm t with
    | some (.tuple vs) => val (tupAt vs.toList i) h
    | _ => none
  | .panic x => match ev tm x with
    | some (.iface t v) => some (.pan [{ v := .iface t v, recovered := false }], h)
    | _ => none
  | .call c => match c.callee with
    | .builtin b => match evs tm c.args.toList with
      | some args => builtinE cx h b c.argTypes.toList args
      | none => none
    | .value f => match ev tm f, evs tm c.args.toList with
      | some f, some args => match target f args with
        | some (g, args) => match cf g args h with
          | some (.ret v, h') => some (.val v, h')
          | some (.pan chain, h') => some (.pan chain, h')
          | none => none
        | none => none
      | _, _ => none
    | .invoke _ _ => none
  | .defer c => match c.callee with
    | .value f => match ev tm f, evs tm c.args.toList with
      | some (.func (.func g) first cap), some args => some (.dfr { target := .fn (.func g) cap, args := first ++ args.toArray }, h)
      | _, _ => none
    | _ => none
  | o => match makeE cx tm h o with
    | some (v, b) => some (.val v, h.add b)
    | none => none

/-- How a piece of code is left. -/
inductive Ex where
  | normal
  | exit (id : Nat)
  | ret
  | pan (chain : List PanicEntry)

def putT (tm : Tr Value) (dst : Option Nat) (v : Value) : Tr Value := match dst with
  | some d => tm.set d (some v)
  | none => tm

def operAt (l : List Oper) (n : Nat) : Option Oper := match l, n with
  | [], _ => none
  | o :: _, 0 => some o
  | _ :: l, n + 1 => operAt l n

/-- Is an operation wanted? (none: it is not told) -/
def wantE (ops : List Oper) (tm : Tr Value) (o : Oper) : Option Bool := match o.guard with
  | none => some true
  | some (j, want) => match operAt ops j with
    | some g => match g.dst with
      | some d => match tm.get d with
        | some (.bool b) => some (b == want)
        | some (.tuple _) => some false
        | _ => none
      | none => none
    | none => none

def recE (u : FrameMode) : Value × FrameMode := match u with
  | .panicking ({ v, recovered := false, goexit := false } :: older) => (v, .panicking ({ v, recovered := true } :: older))
  | u => (.nilIface, u)

/-- A region's operations, in the text's order. -/
def opsE (cf : CallFn) (dk : Bool) (all : List Oper) : List Oper → St → Option (Ex × St)
  | [], st => some (.normal, st)
  | o :: l, st => match wantE all st.tm o with
    | none => none
    | some false => opsE cf dk all l { st with tm := putT st.tm o.dst undef }
    | some true => match opE cx cf st.tm st.h o.op with
      | some (.val v, h') => opsE cf dk all l { st with tm := putT st.tm o.dst v, h := h' }
      | some (.pan chain, h') => some (.pan chain, { st with h := h' })
      | some (.dfr d, _) => opsE cf dk all l { st with tm := putT st.tm o.dst undef, df := d :: st.df }
      | some (.rcv, _) => match dk with
        | true => opsE cf dk all l { st with tm := putT st.tm o.dst (recE st.u).1, u := (recE st.u).2 }
        | false => none
      | none => none

end
end
end Go.Em

namespace Go.Em
noncomputable section
variable (cx : Cx)

/-- What an operation of a statement whose order is open came to. `no`: it was not wanted; `dead`: it is never come to. -/
inductive Kd where
  | no
  | dead
  | pur (v : Value)
  | lod (t : Part) (v : Value)
  | mak (id : Nat) (o : Obj) (v : Value)
  | eff (ws : List Part) (h : Heap) (v : Value)
  | pan (ws : List Part) (h : Heap) (chain : List PanicEntry)

structure Sn where
  o : Oper
  tm : Tr Value
  h : Heap
  mask : Nat
  kd : Kd

def opTmps : List Operand → List Nat
  | [] => []
  | .tmp t :: l => t :: opTmps l
  | _ :: l => opTmps l

/-- The slots that an operation looks at. -/
def reads (all : List Oper) (o : Oper) : List Nat := match o.guard with
  | none => opTmps o.op.operands.toList
  | some (j, _) => match operAt all j with
    | some g => match g.dst with
      | some d => d :: opTmps o.op.operands.toList
      | none => opTmps o.op.operands.toList
    | none => opTmps o.op.operands.toList

def edgeAny : Ground → Bool
  | .textOnly _ | .gcOnly _ => false
  | _ => true

/-- What must be done ahead of an operation, as a set of bits; none: an edge leads onward. -/
def maskE (ms : Tr Nat) (i : Nat) : List Edge → Option Nat
  | [] => some 0
  | e :: l => match maskE ms i l with
    | none => none
    | some m => match edgeAny e.ground with
      | false => some m
      | true => match Nat.blt e.on i, ms.get e.on with
        | true, some k => some (Nat.lor m (Nat.lor k (Nat.pow 2 e.on)))
        | _, _ => none

def isEff : Op → Bool
  | .store _ _ _ | .insert _ _ _ _ | .mapUpdate _ _ _ _ | .panic _ => true
  | .call c => match c.callee with
    | .builtin .append | .builtin .copy | .builtin .delete | .builtin .clear => true
    | .builtin _ => false
    | _ => true
  | _ => false

def isOdd : Op → Bool
  | .defer _ => true
  | .call c => match c.callee with
    | .builtin .recover => true
    | _ => false
  | _ => false

/-- The block that a reading operation looks at. -/
def blockOf : Value → Option Nat
  | .pointer (some a) => some a.block
  | .slice (some a) _ _ => some a.block
  | .map (some r) => some r
  | .chan (some r) => some r
  | _ => none

def wholeOf (tm : Tr Value) (x : Operand) : Option Part := match ev tm x with
  | some v => match blockOf v with
    | some n => some ⟨n, 0, unk⟩
    | none => none
  | none => none

def targetE (tm : Tr Value) : Op → Option Part
  | .load t a => match cx.ty t, ev tm a with
    | some i, some (.pointer (some a)) => some ⟨a.block, a.off, match aggD i.d with
      | true => i.size
      | false => 1⟩
    | _, _ => none
  | .lookup _ m _ _ => wholeOf tm m
  | .slice _ x _ _ _ => wholeOf tm x
  | .convert _ _ x => match ev tm x with
    | some (.slice (some a) n _) => some ⟨a.block, a.off, n⟩
    | _ => none
  | .call c => match c.args.toList with
    | [x] => wholeOf tm x
    | _ => none
  | _ => none

/-- More blocks than there are. -/
def big : Nat := 340282366920938463463374607431768211456

def bare (n : Nat) : Heap := ⟨.nil, n, []⟩
def only (nx n : Nat) (o : Obj) : Heap := ⟨Tr.nil.set n (some o), nx, []⟩

def noCall : CallFn := fun _ _ _ => none

/-- Gives the blocks that were made ahead, of the operations in a set, to memory: which, memory, those that are left. -/
def release (mask : Nat) : List (Nat × Nat × Obj) → Heap → Heap
  | [], h => h
  | (i, n, o) :: l, h => match Nat.testBit mask i with
    | true => (release mask l h).put n (some o)
    | false => release mask l h

def memN (n : Nat) : List Nat → Bool
  | [] => false
  | x :: l => match Nat.beq x n with
    | true => true
    | false => memN n l

/-- Does a part meet one of a list's? -/
def hits (t : Part) : List Part → Bool
  | [] => false
  | x :: l => match Nat.beq x.n t.n with
    | true => match Nat.beq x.len unk with
      | true => true
      | false => match Nat.blt x.off (t.off + t.len), Nat.blt t.off (x.off + x.len) with
        | true, true => true
        | _, _ => hits t l
    | false => hits t l

/-- One operation of an open statement: what it comes to. -/
def kdE (cf : CallFn) (base i : Nat) (all : List Oper) (o : Oper) (mask : Nat) (dead : Option Nat) (tm : Tr Value) (h : Heap) (mks : List (Nat × Nat × Obj)) : Option Kd :=
  match (match dead with
    | some j => Nat.testBit mask j
    | none => false) with
  | true => some .dead
  | false => match wantE all tm o with
    | none => none
    | some false => some .no
    | some true => match isOdd o.op, isMake o.op, isEff o.op with
      | true, _, _ => none
      | false, true, _ => match makeE cx tm ⟨.nil, base + i, []⟩ o.op with
        | some (v, b) => some (.mak (base + i) b v)
        | none => none
      | false, false, true => match dead with
        | some _ => none
        | none => match opE cx cf tm (release mask mks ⟨h.tr, h.nx, []⟩) o.op with
          | some (.val v, h1) => some (.eff h1.dt ⟨h1.tr, h1.nx, h1.dt ++ h.dt⟩ v)
          | some (.pan chain, h1) => some (.pan h1.dt ⟨h1.tr, h1.nx, h1.dt ++ h.dt⟩ chain)
          | _ => none
      | false, false, false => match opE cx noCall tm (bare big) o.op with
        | some (.val v, _) => some (.pur v)
        | some _ => none
        | none => match targetE cx tm o.op with
          | none => none
          | some t => match h.get t.n with
            | none => none
            | some b => match opE cx noCall tm (only big t.n b) o.op with
              | some (.val v, _) => some (.lod t v)
              | _ => none

def unmade (mask : Nat) : List (Nat × Nat × Obj) → List (Nat × Nat × Obj)
  | [] => []
  | (i, n, o) :: l => match Nat.testBit mask i with
    | true => unmade mask l
    | false => (i, n, o) :: unmade mask l

/-- An open statement's operations, in the text's order, and what each came to (the last one first). -/
def traceE (cf : CallFn) (base : Nat) (all : List Oper) : List Oper → Nat → Tr Nat → Option Nat → Tr Value → Heap → List (Nat × Nat × Obj) → List Sn →
    Option (List Sn × Tr Value × Heap × List (Nat × Nat × Obj))
  | [], _, _, _, tm, h, mks, acc => some (acc, tm, h, mks)
  | o :: l, i, ms, dead, tm, h, mks, acc => match maskE ms i o.after.toList with
    | none => none
    | some mask => match kdE cx cf base i all o mask dead tm h mks with
      | none => none
      | some kd => match kd with
        | .dead => traceE cf base all l (i + 1) (ms.set i (some mask)) dead tm h mks (⟨o, tm, h, mask, kd⟩ :: acc)
        | .no => traceE cf base all l (i + 1) (ms.set i (some mask)) dead (putT tm o.dst undef) h mks (⟨o, tm, h, mask, kd⟩ :: acc)
        | .pur v => traceE cf base all l (i + 1) (ms.set i (some mask)) dead (putT tm o.dst v) h mks (⟨o, tm, h, mask, kd⟩ :: acc)
        | .lod _ v => traceE cf base all l (i + 1) (ms.set i (some mask)) dead (putT tm o.dst v) h mks (⟨o, tm, h, mask, kd⟩ :: acc)
        | .mak n b v => traceE cf base all l (i + 1) (ms.set i (some mask)) dead (putT tm o.dst v) h ((i, n, b) :: mks) (⟨o, tm, h, mask, kd⟩ :: acc)
        | .eff _ h1 v => traceE cf base all l (i + 1) (ms.set i (some mask)) dead (putT tm o.dst v) h1 (unmade mask mks) (⟨o, tm, h, mask, kd⟩ :: acc)
        | .pan _ h1 _ => traceE cf base all l (i + 1) (ms.set i (some mask)) (some i) tm h1 (unmade mask mks) (⟨o, tm, h, mask, kd⟩ :: acc)

/-- Do two operations, the i-th and a later one, go together in either order, or is the earlier one always ahead? -/
def pairOk (all : List Oper) (i : Nat) (x y : Sn) : Bool := match Nat.testBit y.mask i with
  | true => match x.o.dst, y.o.dst with
    | some a, some b => !Nat.beq a b
    | _, _ => true
  | false => (match x.o.dst with
      | some d => !memN d (reads all y.o) && (match y.o.dst with
        | some e => !Nat.beq d e
        | none => true)
      | none => true) &&
    (match y.o.dst with
      | some d => !memN d (reads all x.o)
      | none => true) &&
    (match x.kd, y.kd with
      | .eff .., .eff .. => false
      | .eff .., .pan .. => false
      | .pan .., .eff .. => false
      | .pan .., .pan .. => false
      | .lod t _, .eff ws _ _ => !hits t ws
      | .lod t _, .pan ws _ _ => !hits t ws
      | .eff ws _ _, .lod t _ => !hits t ws
      | .pan ws _ _, .lod t _ => !hits t ws
      | _, _ => true)

/-- The later one first. -/
def pairsOk (all : List Oper) (y : Sn) : Nat → List Sn → Bool
  | _, [] => true
  | 0, _ :: _ => false
  | i + 1, x :: l => match pairOk all i x y with
    | true => pairsOk all y i l
    | false => false

def traceOk (all : List Oper) : Nat → List Sn → Bool
  | _, [] => true
  | 0, _ :: _ => false
  | i + 1, y :: l => match pairsOk all y i l with
    | true => traceOk all i l
    | false => false

/-- Forgets the slots that operations write to. -/
def forget : List Oper → Tr Value → Tr Value
  | [], tm => tm
  | o :: l, tm => match o.dst with
    | some d => forget l (tm.set d none)
    | none => forget l tm

def panOf : List Sn → Option (List PanicEntry)
  | [] => none
  | s :: l => match s.kd with
    | .pan _ _ chain => some chain
    | _ => panOf l

def giveAll : List (Nat × Nat × Obj) → Heap → Heap
  | [], h => h
  | (_, n, o) :: l, h => (giveAll l h).put n (some o)

def drawE (cf : CallFn) (ops : List Oper) (st : St) : Option (Ex × St) :=
  match traceE cx cf st.h.nx ops ops 0 .nil none st.tm ⟨st.h.tr, st.h.nx + ops.length, st.h.dt⟩ [] [] with
  | none => none
  | some (tr, tm, h, mks) => match traceOk ops ops.length tr, Nat.ble h.nx big with
    | false, _ => none
    | _, false => none
    | true, true => match panOf tr with
      | none => some (.normal, { st with tm := tm, h := giveAll mks h })
      | some chain => some (.pan chain, { st with tm := forget ops st.tm, h := h })

/-- A piece of code. -/
def exec (cf : CallFn) (dk : Bool) : Nat → Code → St → Option (Ex × St)
  | 0, _, _ => none
  | n + 1, c, st => match c with
    | .skip => some (.normal, st)
    | .label _ => some (.normal, st)
    | .region _ ops false => opsE cx cf dk ops.toList ops.toList st
    | .region _ ops true => drawE cx cf ops.toList st
    | .seq a b => match exec cf dk n a st with
      | some (.normal, st) => exec cf dk n b st
      | r => r
    | .cond c a b => match ev st.tm c with
      | some (.bool true) => exec cf dk n a st
      | some (.bool false) => exec cf dk n b st
      | _ => none
    | .block id a => match exec cf dk n a st with
      | some (.exit id', st) => match Nat.beq id' id with
        | true => some (.normal, st)
        | false => some (.exit id', st)
      | r => r
    | .loop a => match exec cf dk n a st with
      | some (.normal, st) => exec cf dk n (.loop a) st
      | r => r
    | .scope a => exec cf dk n a st
    | .exit id => some (.exit id, st)
    | .ret => some (.ret, st)
    | _ => none

def argsT : Nat → List Value → Tr Value → Tr Value
  | _, [], t => t
  | i, v :: l, t => argsT (i + 1) l (t.set i (some v))

def resE (tm : Tr Value) (h : Heap) : List ResultVar → Option (List Value)
  | [] => some []
  | .tmp t :: l => match tm.get t, resE tm h l with
    | some v, some vs => some (v :: vs)
    | _, _ => none
  | .cell a t :: l => match tm.get a with
    | some (.pointer (some a)) => match loadT cx h t a, resE tm h l with
      | some v, some vs => some (v :: vs)
      | _, _ => none
    | _ => none

def one : List Value → Value
  | [v] => v
  | l => .tuple l.toArray

/-- How a frame is left: its deferred calls, the last one first. -/
def leave (cd : Nat → List Value → FrameMode → Heap → Option (Fin × FrameMode × Heap)) (fn : Func) (tm : Tr Value) :
    List Deferred → FrameMode → Heap → Option (Fin × Heap)
  | [], .returning, h => match resE cx tm h fn.results.toList with
    | some vs => some (.ret (one vs), h)
    | none => none
  | [], .panicking chain, h => some (.pan chain, h)
  | _, .run, _ => none
  | d :: ds, u, h => match d.target with
    | .fn (.func g) cap => match cd g (d.args.toList ++ cap.toList) u h with
      | some (.ret _, u, h) => leave cd fn tm ds (settle u) h
      | some (.pan chain, u, h) => leave cd fn tm ds (raised u chain) h
      | none => none
    | _ => none

/-- A deferred call: it has no deferred calls of its own. -/
def callD (cf : CallFn) (n g : Nat) (args : List Value) (u : FrameMode) (h : Heap) : Option (Fin × FrameMode × Heap) := match cx.fn g with
  | none => none
  | some (fn, c) => match exec cx cf true n c ⟨argsT 0 args .nil, [], u, h⟩ with
    | none => none
    | some (ex, st) => match st.df with
      | _ :: _ => none
      | [] => match ex with
        | .pan chain => some (.pan chain, st.u, st.h)
        | .exit _ => none
        | _ => match resE cx st.tm st.h fn.results.toList with
          | some vs => some (.ret (one vs), st.u, st.h)
          | none => none

/-- A call. -/
def call : Nat → CallFn
  | 0, _, _, _ => none
  | n + 1, f, args, h => match cx.ext f with
    | some g => g args h
    | none => match cx.fn f with
      | none => none
      | some (fn, c) => match exec cx (call n) false n c ⟨argsT 0 args .nil, [], .run, h⟩ with
        | none => none
        | some (ex, st) => match ex with
          | .pan chain => leave cx (callD cx (call n) n) fn st.tm st.df (.panicking chain) st.h
          | .exit _ => none
          | _ => leave cx (callD cx (call n) n) fn st.tm st.df .returning st.h

end
end Go.Em

namespace Go.Em

namespace Tr
variable {α : Type}
theorem get_nil (k : Nat) : (Tr.nil : Tr α).get k = none := rfl
theorem get_zero (v : Option α) (l r : Tr α) : (Tr.node v l r).get 0 = v := rfl
theorem get_succ (v : Option α) (l r : Tr α) (n : Nat) : (Tr.node v l r).get (n + 1) = if n % 2 = 0 then l.get (n / 2) else r.get (n / 2) := by
  show Bool.rec (motive := fun _ => Option α) (r.get (n / 2)) (l.get (n / 2)) (Nat.beq (n % 2) 0) = _
  rcases Nat.mod_two_eq_zero_or_one n with e | e <;> rw [e] <;> rfl
theorem setF_nil_zero (f : Nat) (o : Option α) : setF (f + 1) .nil 0 o = .node o .nil .nil := rfl
theorem setF_node_zero (f : Nat) (v : Option α) (l r : Tr α) (o : Option α) : setF (f + 1) (.node v l r) 0 o = .node o l r := rfl
theorem setF_nil_succ (f n : Nat) (o : Option α) : setF (f + 1) .nil (n + 1) o = if n % 2 = 0 then .node none (setF f .nil (n / 2) o) .nil else .node none .nil (setF f .nil (n / 2) o) := by
  show Bool.rec (motive := fun _ => Tr α) (Tr.node none .nil (setF f .nil (n / 2) o)) (Tr.node none (setF f .nil (n / 2) o) .nil) (Nat.beq (n % 2) 0) = _
  rcases Nat.mod_two_eq_zero_or_one n with e | e <;> rw [e] <;> rfl
theorem setF_node_succ (f n : Nat) (v : Option α) (l r : Tr α) (o : Option α) : setF (f + 1) (.node v l r) (n + 1) o = if n % 2 = 0 then .node v (setF f l (n / 2) o) r else .node v l (setF f r (n / 2) o) := by
  show Bool.rec (motive := fun _ => Tr α) (Tr.node v l (setF f r (n / 2) o)) (Tr.node v (setF f l (n / 2) o) r) (Nat.beq (n % 2) 0) = _
  rcases Nat.mod_two_eq_zero_or_one n with e | e <;> rw [e] <;> rfl

theorem get_setF : ∀ (f : Nat) (t : Tr α) (n : Nat) (o : Option α) (k : Nat), n < f → (setF f t n o).get k = if k = n then o else t.get k := by
  intro f
  induction f with
  | zero => intro t n o k h; omega
  | succ f ih =>
    intro t n o k h
    cases t with
    | nil =>
      cases n with
      | zero =>
        rw [setF_nil_zero]
        cases k with
        | zero => simp [get_zero]
        | succ k => simp [get_succ, get_nil]
      | succ n =>
        have hd : n / 2 < f := by omega
        rw [setF_nil_succ]
        cases k with
        | zero => split <;> simp [get_zero, get_nil]
        | succ k =>
          split <;> simp only [get_succ, get_nil, ih _ _ _ _ hd] <;> (repeat' split) <;> first | rfl | omega
    | node v l r =>
      cases n with
      | zero =>
        rw [setF_node_zero]
        cases k with
        | zero => simp [get_zero]
        | succ k => simp [get_succ]
      | succ n =>
        have hd : n / 2 < f := by omega
        rw [setF_node_succ]
        cases k with
        | zero => split <;> simp [get_zero]
        | succ k =>
          split <;> simp only [get_succ, ih _ _ _ _ hd] <;> (repeat' split) <;> first | rfl | omega

theorem get_set (t : Tr α) (n : Nat) (o : Option α) (k : Nat) : (t.set n o).get k = if k = n then o else t.get k :=
  get_setF _ t n o k (Nat.lt_succ_self n)

end Tr

/-- Where a block lies: the model's block, the first cell, how many cells there are from it on, how many an element has. -/
structure Pl where
  blk : Nat
  base : Nat
  lim : Nat
  esz : Nat

abbrev Pm := Nat → Option Pl

def Pm.Le (m m' : Pm) : Prop := ∀ i p, m i = some p → m' i = some p

theorem Pm.Le.refl (m : Pm) : m.Le m := fun _ _ h => h
theorem Pm.Le.trans {m m' m'' : Pm} (h : m.Le m') (h' : m'.Le m'') : m.Le m'' := fun i p e => h' i p (h i p e)

/-- The model's values for the evaluator's. -/
inductive V (m : Pm) : Value → Value → Prop
  | flat {v : Value} : flat v = true → V m v v
  | ptr {b o : Nat} {p : Pl} : m b = some p → V m (.pointer (some ⟨b, o, none⟩)) (.pointer (some ⟨p.blk, p.base + o, none⟩))
  | sl {b o n c : Nat} {p : Pl} : m b = some p → c ≠ unk → V m (.slice (some ⟨b, o, none⟩) n c) (.slice (some ⟨p.blk, p.base + o, none⟩) n c)
  | slu {b o n : Nat} {p : Pl} : m b = some p → 0 < p.esz → V m (.slice (some ⟨b, o, none⟩) n unk) (.slice (some ⟨p.blk, p.base + o, none⟩) n ((p.lim - o) / p.esz))
  | map {r : Nat} {p : Pl} : m r = some p → V m (.map (some r)) (.map (some p.blk))
  | chan {r : Nat} {p : Pl} : m r = some p → V m (.chan (some r)) (.chan (some p.blk))
  | func {fn : Fn} {a a' b b' : Array Value} : a'.size = a.size → b'.size = b.size → (∀ i, i < a.size → V m (a.getD i undef) (a'.getD i undef)) →
      (∀ i, i < b.size → V m (b.getD i undef) (b'.getD i undef)) → V m (.func fn a b) (.func fn a' b')
  | iface {t : Nat} {v v' : Value} : V m v v' → V m (.iface t v) (.iface t v')
  | agg {a a' : Array Value} : a'.size = a.size → (∀ i, i < a.size → V m (a.getD i undef) (a'.getD i undef)) → V m (.agg a) (.agg a')
  | tuple {a a' : Array Value} : a'.size = a.size → (∀ i, i < a.size → V m (a.getD i undef) (a'.getD i undef)) → V m (.tuple a) (.tuple a')

theorem V.mono {m m' : Pm} (hm : m.Le m') {v v' : Value} (h : V m v v') : V m' v v' := by
  induction h with
  | flat h => exact .flat h
  | ptr h => exact .ptr (hm _ _ h)
  | sl h c => exact .sl (hm _ _ h) c
  | slu h c => exact .slu (hm _ _ h) c
  | map h => exact .map (hm _ _ h)
  | chan h => exact .chan (hm _ _ h)
  | func h1 h2 _ _ i1 i2 => exact .func h1 h2 i1 i2
  | iface _ ih => exact .iface ih
  | agg h _ ih => exact .agg h ih
  | tuple h _ ih => exact .tuple h ih

/-- Lists of values. -/
inductive Vs (m : Pm) : List Value → List Value → Prop
  | nil : Vs m [] []
  | cons {v v' : Value} {l l' : List Value} : V m v v' → Vs m l l' → Vs m (v :: l) (v' :: l')

theorem Vs.mono {m m' : Pm} (hm : m.Le m') {l l' : List Value} (h : Vs m l l') : Vs m' l l' := by
  induction h with
  | nil => exact .nil
  | cons h _ ih => exact .cons (h.mono hm) ih

theorem Vs.length {m : Pm} {l l' : List Value} (h : Vs m l l') : l'.length = l.length := by
  induction h with
  | nil => rfl
  | cons _ _ ih => simp [ih]

theorem Vs.append {m : Pm} {a a' b b' : List Value} (h : Vs m a a') (h' : Vs m b b') : Vs m (a ++ b) (a' ++ b') := by
  induction h with
  | nil => exact h'
  | cons h _ ih => exact .cons h ih

theorem Vs.get {m : Pm} {l l' : List Value} (h : Vs m l l') : ∀ (i : Nat) (v : Value), l[i]? = some v → ∃ v', l'[i]? = some v' ∧ V m v v' := by
  induction h with
  | nil => intro i v h; simp at h
  | cons h _ ih =>
    intro i v hi
    cases i with
    | zero => simp at hi; subst hi; exact ⟨_, rfl, h⟩
    | succ i => simpa using ih i v (by simpa using hi)

theorem Vs.of_get {m : Pm} : ∀ {l l' : List Value}, l'.length = l.length → (∀ i, i < l.length → V m (l.getD i undef) (l'.getD i undef)) → Vs m l l'
  | [], [], _, _ => .nil
  | [], _ :: _, h, _ => by simp at h
  | _ :: _, [], h, _ => by simp at h
  | v :: l, v' :: l', h, hg => .cons (by simpa using hg 0 (by simp)) (Vs.of_get (by simpa using h) (fun i hi => by simpa using hg (i + 1) (by simpa using hi)))

theorem Vs.getD {m : Pm} {l l' : List Value} (h : Vs m l l') (i : Nat) (hi : i < l.length) : V m (l.getD i undef) (l'.getD i undef) := by
  obtain ⟨v', e, hv⟩ := h.get i l[i] (by simp [hi])
  simpa [hi, e] using hv

theorem agg_iff {m : Pm} {a a' : Array Value} : V m (.agg a) (.agg a') ↔ Vs m a.toList a'.toList := by
  constructor
  · intro h
    cases h with
    | flat h => simp [flat] at h
    | agg h1 h2 => exact Vs.of_get (by simpa using h1) (fun i hi => by simpa using h2 i (by simpa using hi))
  · intro h
    refine .agg (by simpa using h.length) fun i hi => ?_
    simpa using h.getD i (by simpa using hi)

theorem tuple_iff {m : Pm} {a a' : Array Value} : V m (.tuple a) (.tuple a') ↔ Vs m a.toList a'.toList := by
  constructor
  · intro h
    cases h with
    | flat h => simp [flat] at h
    | tuple h1 h2 => exact Vs.of_get (by simpa using h1) (fun i hi => by simpa using h2 i (by simpa using hi))
  · intro h
    refine .tuple (by simpa using h.length) fun i hi => ?_
    simpa using h.getD i (by simpa using hi)

theorem agg_inv {m : Pm} {a : Array Value} {v' : Value} (h : V m (.agg a) v') : ∃ a' : Array Value, v' = .agg a' ∧ Vs m a.toList a'.toList := by
  cases h with
  | flat h => simp [flat] at h
  | agg h1 h2 => exact ⟨_, rfl, agg_iff.1 (.agg h1 h2)⟩

theorem tuple_inv {m : Pm} {a : Array Value} {v' : Value} (h : V m (.tuple a) v') : ∃ a' : Array Value, v' = .tuple a' ∧ Vs m a.toList a'.toList := by
  cases h with
  | flat h => simp [flat] at h
  | tuple h1 h2 => exact ⟨_, rfl, tuple_iff.1 (.tuple h1 h2)⟩

theorem func_inv {m : Pm} {fn : Fn} {a b : Array Value} {v' : Value} (h : V m (.func fn a b) v') :
    ∃ a' b' : Array Value, v' = .func fn a' b' ∧ Vs m a.toList a'.toList ∧ Vs m b.toList b'.toList := by
  cases h with
  | flat h => simp [flat] at h
  | func h1 h2 h3 h4 =>
    exact ⟨_, _, rfl, Vs.of_get (by simpa using h1) (fun i hi => by simpa using h3 i (by simpa using hi)),
      Vs.of_get (by simpa using h2) (fun i hi => by simpa using h4 i (by simpa using hi))⟩

theorem func_mk {m : Pm} {fn : Fn} {a b a' b' : Array Value} (h : Vs m a.toList a'.toList) (h' : Vs m b.toList b'.toList) : V m (.func fn a b) (.func fn a' b') :=
  .func (by simpa using h.length) (by simpa using h'.length) (fun i hi => by simpa using h.getD i (by simpa using hi)) (fun i hi => by simpa using h'.getD i (by simpa using hi))

theorem int_inv {m : Pm} {k : IntKind} {n : Int} {v' : Value} (h : V m (.int k n) v') : v' = .int k n := by cases h; rfl
theorem bool_inv {m : Pm} {b : Bool} {v' : Value} (h : V m (.bool b) v') : v' = .bool b := by cases h; rfl
theorem string_inv {m : Pm} {s : ByteArray} {v' : Value} (h : V m (.string s) v') : v' = .string s := by cases h; rfl
theorem flat_inv {m : Pm} {v v' : Value} (hf : flat v = true) (h : V m v v') : v' = v := by
  cases h <;> first | rfl | simp [flat] at hf
theorem ptr_inv {m : Pm} {a : Addr} {v' : Value} (h : V m (.pointer (some a)) v') :
    ∃ p, m a.block = some p ∧ a.spot = none ∧ v' = .pointer (some ⟨p.blk, p.base + a.off, none⟩) := by
  cases h with
  | flat h => simp [flat] at h
  | ptr h => exact ⟨_, h, rfl, rfl⟩

theorem V.int (m : Pm) (k : IntKind) (n : Int) : V m (.int k n) (.int k n) := .flat rfl
theorem V.bool (m : Pm) (b : Bool) : V m (.bool b) (.bool b) := .flat rfl
theorem V.string (m : Pm) (s : ByteArray) : V m (.string s) (.string s) := .flat rfl
theorem V.undef (m : Pm) : V m undef undef := .tuple rfl (fun i hi => by simp at hi)

/-- A value of one cell has a value of one cell. -/
theorem V.isCell {m : Pm} {v v' : Value} (h : V m v v') : Em.isCell v' = Em.isCell v := by cases h <;> rfl

theorem V.cells {m : Pm} {v v' : Value} (h : V m v v') : Vs m v.cells.toList v'.cells.toList := by
  have one : ∀ {v v' : Value}, V m v v' → Vs m #[v].toList #[v'].toList := fun h => .cons h .nil
  cases h with
  | agg h1 h2 => exact agg_iff.1 (.agg h1 h2)
  | flat h => cases v <;> first | exact one (.flat h) | exact Bool.noConfusion h
  | ptr h => exact one (.ptr h)
  | sl h c => exact one (.sl h c)
  | slu h c => exact one (.slu h c)
  | map h => exact one (.map h)
  | chan h => exact one (.chan h)
  | func h1 h2 h3 h4 => exact one (.func h1 h2 h3 h4)
  | iface h => exact one (.iface h)
  | tuple h1 h2 => exact one (.tuple h1 h2)

/-- Entries of maps. -/
inductive Es (m : Pm) : List MapEntry → List MapEntry → Prop
  | nil : Es m [] []
  | cons {k k' v v' : Value} {b : Nat} {l l' : List MapEntry} : V m k k' → V m v v' → Es m l l' → Es m (⟨k, v, b⟩ :: l) (⟨k', v', b⟩ :: l')

theorem Es.mono {m m' : Pm} (hm : m.Le m') {l l' : List MapEntry} (h : Es m l l') : Es m' l l' := by
  induction h with
  | nil => exact .nil
  | cons h h' _ ih => exact .cons (h.mono hm) (h'.mono hm) ih

/-- A block and what the model has in its place. -/
def ObjR (m : Pm) (p : Pl) (w : World) : Obj → Prop
  | .row size base tr _ esz ro => ∃ (c : Array Value) (e : Nat) (fz : Nat × Nat), w.heap[p.blk]? = some (.cells c e fz) ∧ (ro = false → fz = (0, 0)) ∧
      (esz ≠ 0 → p.esz = esz) ∧ size ≤ p.lim ∧ p.base + p.lim ≤ c.size ∧ ∀ i, i < size → ∃ v', c[p.base + i]? = some v' ∧ V m (rowAt base tr i) v'
  | .map es clock => ∃ es' : Array MapEntry, w.heap[p.blk]? = some (.map es' clock) ∧ Es m es es'.toList
  | .chan cap buf => ∃ (buf' : Array Value) (s r : Nat), w.heap[p.blk]? = some (.chan cap buf' false s r false) ∧ Vs m buf buf'.toList

def roO : Obj → Bool
  | .row _ _ _ _ _ ro => ro
  | _ => false

/-- The evaluator's memory and the model's are alike. -/
structure Sim (m : Pm) (h : Heap) (w : World) : Prop where
  fresh : ∀ i, h.nx ≤ i → m i = none
  live : ∀ i o, h.get i = some o → ∃ p, m i = some p ∧ ObjR m p w o
  inj : ∀ i j oi oj pi pj, h.get i = some oi → h.get j = some oj → m i = some pi → m j = some pj → i ≠ j → pi.blk ≠ pj.blk

/-- The model's blocks that are known of; those that may be written to. -/
def Own (z : Bool) (m : Pm) (h : Heap) (b : Nat) : Prop := ∃ i o p, h.get i = some o ∧ (z = true → roO o = false) ∧ m i = some p ∧ p.blk = b

/-- What a step keeps. -/
structure Stp (m : Pm) (h : Heap) (w : World) (m' : Pm) (h' : Heap) (w' : World) : Prop where
  le : m.Le m'
  ids : ∀ i p, i < h.nx → m' i = some p → m i = some p
  nx : h.nx ≤ h'.nx
  size : w.heap.size ≤ w'.heap.size
  own : ∀ z b, b < w.heap.size → Own z m' h' b → Own z m h b
  keep : ∀ b, b < w.heap.size → ¬ Own true m h b → w'.heap[b]? = w.heap[b]?
  tape : w'.tape = w.tape
  os : w'.os = w.os
  output : w'.output = w.output

theorem Stp.refl (m : Pm) (h : Heap) (w : World) : Stp m h w m h w :=
  ⟨.refl m, fun _ _ _ h => h, Nat.le_refl _, Nat.le_refl _, fun _ _ _ h => h, fun _ _ _ => rfl, rfl, rfl, rfl⟩

theorem Stp.trans {m m1 m2 : Pm} {h h1 h2 : Heap} {w w1 w2 : World} (a : Stp m h w m1 h1 w1) (b : Stp m1 h1 w1 m2 h2 w2) : Stp m h w m2 h2 w2 where
  le := a.le.trans b.le
  ids := fun i p hi e => a.ids i p hi (b.ids i p (Nat.lt_of_lt_of_le hi a.nx) e)
  nx := Nat.le_trans a.nx b.nx
  size := Nat.le_trans a.size b.size
  own := fun z x hx ho => a.own z x hx (b.own z x (Nat.lt_of_lt_of_le hx a.size) ho)
  keep := fun x hx hn => by
    rw [b.keep x (Nat.lt_of_lt_of_le hx a.size) (fun ho => hn (a.own _ x hx ho)), a.keep x hx hn]
  tape := b.tape.trans a.tape
  os := b.os.trans a.os
  output := b.output.trans a.output

/-- Slots. -/
def Tm (m : Pm) (tm : Tr Value) (ts : Array Value) : Prop := ∀ t v, tm.get t = some v → V m v (ts.getD t undef)

theorem Tm.mono {m m' : Pm} (hm : m.Le m') {tm : Tr Value} {ts : Array Value} (h : Tm m tm ts) : Tm m' tm ts := fun t v e => (h t v e).mono hm

end Go.Em

namespace Go.Em

theorem Heap.get_put (h : Heap) (n : Nat) (o : Option Obj) (k : Nat) : (h.put n o).get k = if k = n then o else h.get k := Tr.get_set _ _ _ _
theorem Heap.get_putAt (h : Heap) (n a l : Nat) (o : Obj) (k : Nat) : (h.putAt n a l o).get k = if k = n then some o else h.get k := Tr.get_set _ _ _ _
theorem Heap.get_add (h : Heap) (o : Obj) (k : Nat) : (h.add o).get k = if k = h.nx then some o else h.get k := Tr.get_set _ _ _ _

theorem addr_add (b o n : Nat) : (⟨b, o, none⟩ : Addr).add n = ⟨b, o + n, none⟩ := by
  unfold Addr.add
  split
  · rename_i h; subst h; rfl
  · rfl

theorem ObjR.congr {m : Pm} {p : Pl} {w w' : World} {o : Obj} (hw : w'.heap[p.blk]? = w.heap[p.blk]?) (h : ObjR m p w o) : ObjR m p w' o := by
  cases o <;> simp only [ObjR, hw] at h ⊢ <;> exact h

theorem ObjR.mono {m m' : Pm} (hm : m.Le m') {p : Pl} {w : World} {o : Obj} (h : ObjR m p w o) : ObjR m' p w o := by
  cases o with
  | row size base tr elem esz ro =>
    obtain ⟨c, e, fz, h1, h2, h3, h4, h5, h6⟩ := h
    exact ⟨c, e, fz, h1, h2, h3, h4, h5, fun i hi => let ⟨v, e, hv⟩ := h6 i hi; ⟨v, e, hv.mono hm⟩⟩
  | map es clock => obtain ⟨es', h1, h2⟩ := h; exact ⟨es', h1, h2.mono hm⟩
  | chan cap buf => obtain ⟨b', s, r, h1, h2⟩ := h; exact ⟨b', s, r, h1, h2.mono hm⟩

theorem ObjR.lt {m : Pm} {p : Pl} {w : World} {o : Obj} (h : ObjR m p w o) : p.blk < w.heap.size := by
  have key : ∀ x, w.heap[p.blk]? = some x → p.blk < w.heap.size := fun x hx => by
    rcases Nat.lt_or_ge p.blk w.heap.size with h | h
    · exact h
    · simp [Array.getElem?_eq_none h] at hx
  cases o with
  | row => obtain ⟨c, e, fz, h1, _⟩ := h; exact key _ h1
  | map => obtain ⟨_, h1, _⟩ := h; exact key _ h1
  | chan => obtain ⟨_, _, _, h1, _⟩ := h; exact key _ h1

theorem Sim.lt {m : Pm} {h : Heap} {w : World} (S : Sim m h w) {i : Nat} {p : Pl} (hi : m i = some p) : i < h.nx := by
  rcases Nat.lt_or_ge i h.nx with l | l
  · exact l
  · rw [S.fresh i l] at hi; cases hi

theorem Sim.get_lt {m : Pm} {h : Heap} {w : World} (S : Sim m h w) {i : Nat} {o : Obj} (hi : h.get i = some o) : i < h.nx := by
  obtain ⟨p, hp, _⟩ := S.live i o hi
  exact S.lt hp

theorem Own.lt {m : Pm} {h : Heap} {w : World} (S : Sim m h w) {z : Bool} {b : Nat} (ho : Own z m h b) : b < w.heap.size := by
  obtain ⟨i, o, p, h1, _, h3, rfl⟩ := ho
  obtain ⟨p', e, hr⟩ := S.live i o h1
  rw [h3] at e; cases e
  exact hr.lt

/-- Only what is listed of the evaluator's memory matters. -/
theorem Sim.congr {m : Pm} {h h' : Heap} {w : World} (S : Sim m h w) (hg : ∀ i, h'.get i = h.get i) (hn : h'.nx = h.nx) : Sim m h' w where
  fresh := fun i hi => S.fresh i (hn ▸ hi)
  live := fun i o hi => S.live i o (hg i ▸ hi)
  inj := fun i j oi oj pi pj hi hj => S.inj i j oi oj pi pj (hg i ▸ hi) (hg j ▸ hj)

/-- A part of the evaluator's memory. -/
theorem Sim.sub {m : Pm} {h h' : Heap} {w : World} (S : Sim m h w) (hg : ∀ i o, h'.get i = some o → h.get i = some o) (hn : h.nx ≤ h'.nx) : Sim m h' w where
  fresh := fun i hi => S.fresh i (Nat.le_trans hn hi)
  live := fun i o hi => S.live i o (hg i o hi)
  inj := fun i j oi oj pi pj hi hj => S.inj i j oi oj pi pj (hg i _ hi) (hg j _ hj)

/-- Blocks that the model made besides, and draws, do not matter. -/
theorem Sim.world {m : Pm} {h : Heap} {w w' : World} (S : Sim m h w) (hw : ∀ b, b < w.heap.size → w'.heap[b]? = w.heap[b]?) : Sim m h w' where
  fresh := S.fresh
  live := fun i o hi => let ⟨p, hp, hr⟩ := S.live i o hi; ⟨p, hp, hr.congr (hw _ hr.lt)⟩
  inj := S.inj

theorem Stp.of_draw {m : Pm} {h : Heap} {w : World} : Stp m h w m h w.drew :=
  ⟨.refl m, fun _ _ _ h => h, Nat.le_refl _, Nat.le_refl _, fun _ _ _ h => h, fun _ _ _ => rfl, rfl, rfl, rfl⟩

theorem Sim.drew {m : Pm} {h : Heap} {w : World} (S : Sim m h w) : Sim m h w.drew := S.world fun _ _ => rfl

/-- One block is turned. -/
theorem Sim.turn {m : Pm} {h h' : Heap} {w w' : World} (S : Sim m h w) {b : Nat} {o o' : Obj} {p : Pl} (hb : h.get b = some o) (hz : roO o = false) (_ : roO o' = false)
    (hp : m b = some p) (hg : ∀ k, h'.get k = if k = b then some o' else h.get k) (hn : h'.nx = h.nx) (ho : ObjR m p w' o')
    (hw : ∀ k, k ≠ p.blk → w'.heap[k]? = w.heap[k]?) (hs : w'.heap.size = w.heap.size) (ht : w'.tape = w.tape) (hos : w'.os = w.os) (hout : w'.output = w.output) :
    Sim m h' w' ∧ Stp m h w m h' w' := by
  refine ⟨⟨fun i hi => S.fresh i (hn ▸ hi), fun i oi hi => ?_, fun i j oi oj pi pj hi hj mi mj hne => ?_⟩, ?_⟩
  · rw [hg] at hi
    split at hi
    · rename_i e; subst e; cases hi; exact ⟨p, hp, ho⟩
    · rename_i e
      obtain ⟨q, hq, hr⟩ := S.live i oi hi
      exact ⟨q, hq, hr.congr (hw _ (fun hh => S.inj b i o oi p q hb hi hp hq (fun e' => e e'.symm) hh.symm))⟩
  · rw [hg] at hi hj
    split at hi <;> split at hj
    · rename_i e1 e2; exact absurd (e1.trans e2.symm) hne
    · rename_i e1 e2; subst e1; exact S.inj i j o oj pi pj hb hj mi mj hne
    · rename_i e1 e2; subst e2; exact S.inj i j oi o pi pj hi hb mi mj hne
    · exact S.inj i j oi oj pi pj hi hj mi mj hne
  · refine ⟨.refl m, fun _ _ _ h => h, Nat.le_of_eq hn.symm, Nat.le_of_eq hs.symm, fun z k _ ⟨i, oi, q, h1, h2, h3, h4⟩ => ?_, fun k _ hk => hw k (fun e => hk ⟨b, o, p, hb, fun _ => hz, hp, e.symm⟩), ht, hos, hout⟩
    rw [hg] at h1
    split at h1
    · rename_i e; subst e; exact ⟨i, o, q, hb, fun _ => hz, h3, h4⟩
    · exact ⟨i, oi, q, h1, h2, h3, h4⟩

def Pm.put (m : Pm) (n : Nat) (p : Pl) : Pm := fun i => if i = n then some p else m i

theorem Pm.le_put {m : Pm} {n : Nat} {p : Pl} (h : m n = none) : m.Le (m.put n p) := fun i q e => by
  unfold Pm.put
  split
  · rename_i hi; subst hi; rw [h] at e; cases e
  · exact e

/-- A new block. -/
theorem Sim.new {m : Pm} {h : Heap} {w : World} (S : Sim m h w) {o : Obj} {x : Go.Obj} {p : Pl} (hp : p.blk = w.heap.size) (ho : ObjR (m.put h.nx p) p (w.alloc x) o) :
    Sim (m.put h.nx p) (h.add o) (w.alloc x) ∧ Stp m h w (m.put h.nx p) (h.add o) (w.alloc x) := by
  have hle : m.Le (m.put h.nx p) := Pm.le_put (S.fresh _ (Nat.le_refl _))
  have hold : ∀ b, b < w.heap.size → (w.alloc x).heap[b]? = w.heap[b]? := fun b hb => by
    show (w.heap.push x)[b]? = _
    rw [Array.getElem?_push, if_neg (by omega)]
  have hput : ∀ i q, (m.put h.nx p) i = some q → i ≠ h.nx → m i = some q := fun i q e hi => by
    unfold Pm.put at e; rwa [if_neg hi] at e
  have hnx : (m.put h.nx p) h.nx = some p := by simp [Pm.put]
  refine ⟨⟨fun i hi => ?_, fun i oi hi => ?_, fun i j oi oj pi pj hi hj mi mj hne => ?_⟩, ?_⟩
  · have : h.nx + 1 ≤ i := hi
    unfold Pm.put
    rw [if_neg (by omega)]
    exact S.fresh i (by omega)
  · rw [Heap.get_add] at hi
    split at hi
    · rename_i e; subst e; cases hi; exact ⟨p, hnx, ho⟩
    · obtain ⟨q, hq, hr⟩ := S.live i oi hi
      exact ⟨q, hle _ _ hq, (hr.congr (hold _ hr.lt)).mono hle⟩
  · rw [Heap.get_add] at hi hj
    split at hi <;> split at hj
    · rename_i e1 e2; exact absurd (e1.trans e2.symm) hne
    · rename_i e1 e2
      subst e1; rw [hnx] at mi; cases mi
      obtain ⟨q, hq, hrr⟩ := S.live j oj hj
      rw [hput j _ mj e2] at hq; cases hq
      have := hrr.lt; omega
    · rename_i e1 e2
      subst e2; rw [hnx] at mj; cases mj
      obtain ⟨q, hq, hrr⟩ := S.live i oi hi
      rw [hput i _ mi e1] at hq; cases hq
      have := hrr.lt; omega
    · rename_i e1 e2
      exact S.inj i j oi oj pi pj hi hj (hput i _ mi e1) (hput j _ mj e2) hne
  · refine ⟨hle, fun i q hi e => hput i q e (by omega), Nat.le_succ _, by simp, fun z b hb ⟨i, oi, q, h1, h2, h3, h4⟩ => ?_, fun b hb _ => hold b hb, rfl, rfl, rfl⟩
    rw [Heap.get_add] at h1
    split at h1
    · rename_i e; subst e; rw [hnx] at h3; cases h3; omega
    · rename_i e; exact ⟨i, oi, q, h1, h2, hput i _ h3 e, h4⟩

/-- A block that is given up, and what grows out of it in its place, or a new one in its stead, is told in Em5. -/
theorem row_cell {m : Pm} {p : Pl} {w : World} {size : Nat} {base : Nat → Value} {tr : Tr Value} {elem esz : Nat} {ro : Bool} (h : ObjR m p w (.row size base tr elem esz ro))
    {i : Nat} (hi : i < size) : ∃ v', w.cell? ⟨p.blk, p.base + i, none⟩ = some v' ∧ V m (rowAt base tr i) v' := by
  obtain ⟨c, e, fz, h1, _, _, _, _, h6⟩ := h
  obtain ⟨v', hv, hV⟩ := h6 i hi
  exact ⟨v', by simp [World.cell?, h1, hv], hV⟩

theorem loadCellsFrom_run {P : Program} {m : Pm} {p : Pl} {w : World} {size : Nat} {base : Nat → Value} {tr : Tr Value} {elem esz : Nat} {ro : Bool} (h : ObjR m p w (.row size base tr elem esz ro)) (o : Nat) :
    ∀ (n i : Nat) (acc : Array Value), o + i + n ≤ size → ∃ l' : Array Value, (loadCellsFrom ⟨p.blk, p.base + o, none⟩ i n acc).run P w = .ok (acc ++ l') w ∧ Vs m (cellsFrom base tr (o + i) n) l'.toList := by
  intro n
  induction n with
  | zero => intro i acc _; exact ⟨#[], by simp [loadCellsFrom], .nil⟩
  | succ n ih =>
    intro i acc hi
    obtain ⟨v', hc, hV⟩ := row_cell h (i := o + i) (by omega)
    obtain ⟨l', hr, hl⟩ := ih (i + 1) (acc.push v') (by omega)
    refine ⟨#[v'] ++ l', ?_, ?_⟩
    · simp only [loadCellsFrom, Sem.run_bind, addr_add, run_load]
      rw [show p.base + o + i = p.base + (o + i) from by omega, hc]
      simp only [Result.andThen_ok]
      rw [hr, Array.push_eq_append, Array.append_assoc]
    · simp only [cellsFrom, Array.toList_append]
      exact .cons hV hl

/-- n cells are read. -/
theorem loadN_run {P : Program} {m : Pm} {h : Heap} {w : World} (S : Sim m h w) {a : Addr} {n : Nat} {l : List Value} (hl : loadN h a n = some l) :
    ∃ p, m a.block = some p ∧ a.spot = none ∧ ∃ l' : Array Value, (loadCells ⟨p.blk, p.base + a.off, none⟩ n).run P w = .ok l' w ∧ Vs m l l'.toList := by
  unfold loadN at hl
  split at hl
  · cases hl
  · rename_i hs
    split at hl
    · rename_i size base tr elem esz ro hg
      split at hl
      · rename_i hle
        cases hl
        obtain ⟨p, hp, hr⟩ := S.live _ _ hg
        obtain ⟨l', h1, h2⟩ := loadCellsFrom_run (P := P) hr a.off n 0 #[] (by simpa using Nat.le_of_ble_eq_true hle)
        exact ⟨p, hp, hs, l', by simpa [loadCells] using h1, by simpa using h2⟩
      · cases hl
    · cases hl

theorem cellsFrom_length (base : Nat → Value) (tr : Tr Value) : ∀ (n i : Nat), (cellsFrom base tr i n).length = n
  | 0, _ => rfl
  | n + 1, i => by simp [cellsFrom, cellsFrom_length base tr n]

theorem loadN_length {h : Heap} {a : Addr} {n : Nat} {l : List Value} (hl : loadN h a n = some l) : l.length = n := by
  unfold loadN at hl
  (repeat' split at hl) <;> cases hl
  exact cellsFrom_length _ _ _ _

theorem setCell_heap {w : World} {b o : Nat} {v : Value} {c : Array Value} {e : Nat} {fz : Nat × Nat} (h : w.heap[b]? = some (.cells c e fz)) (k : Nat) :
    (w.setCell ⟨b, o, none⟩ v).heap[k]? = if k = b then some (.cells (c.setIfInBounds o v) e fz) else w.heap[k]? := by
  simp only [World.setCell, Array.getElem?_modify]
  by_cases hk : k = b
  · subst hk; simp [h]
  · simp [hk, Ne.symm hk]

theorem isCell_oneCell (v : Value) : v.oneCell' = isCell v := by cases v <;> rfl

/-- Cells are written one behind the other. -/
theorem storeCells_run {P : Program} : ∀ (vs : List Value) (i : Nat) (w : World) (b o : Nat) (c : Array Value) (e : Nat), w.heap[b]? = some (.cells c e (0, 0)) →
    allCells vs = true → o + i + vs.length ≤ c.size →
    ∃ w', (storeCells ⟨b, o, none⟩ vs i).run P w = .ok () w' ∧ (∃ c' : Array Value, w'.heap[b]? = some (.cells c' e (0, 0)) ∧ c'.size = c.size ∧
        ∀ k, c'[k]? = if o + i ≤ k ∧ k < o + i + vs.length then vs[k - (o + i)]? else c[k]?) ∧
      (∀ k, k ≠ b → w'.heap[k]? = w.heap[k]?) ∧ w'.heap.size = w.heap.size ∧ w'.tape = w.tape ∧ w'.os = w.os ∧ w'.output = w.output := by
  intro vs
  induction vs with
  | nil => exact fun i w b o c e h _ _ => ⟨w, rfl, ⟨c, h, rfl, fun k => by rw [if_neg]; simp⟩, fun _ _ => rfl, rfl, rfl, rfl, rfl⟩
  | cons v vs ih =>
    intro i w b o c e h hc hs
    simp only [List.length_cons] at hs
    have hv : isCell v = true := by
      simp only [allCells] at hc; split at hc
      · assumption
      · cases hc
    have hvs : allCells vs = true := by
      simp only [allCells, hv] at hc; exact hc
    have hlt : o + i < c.size := by omega
    have hcell : w.cell? ⟨b, o + i, none⟩ = some c[o + i] := by
      simp [World.cell?, h]
    have hfz : w.frozen? ⟨b, o + i, none⟩ = false := by simp [World.frozen?, h]
    have h1 := setCell_heap (v := v) (o := o + i) h b
    rw [if_pos rfl] at h1
    obtain ⟨w', hr, ⟨c', hc', hsz, hk⟩, hoth, hsize, ht, ho, hout⟩ := ih (i + 1) (w.setCell ⟨b, o + i, none⟩ v) b o (c.setIfInBounds (o + i) v) e h1 hvs (by simp; omega)
    refine ⟨w', ?_, ⟨c', hc', by simpa using hsz, fun k => ?_⟩, fun k hkb => ?_, by simpa using hsize, ht.trans rfl, ho.trans rfl, hout.trans rfl⟩
    · simp only [storeCells, Sem.run_bind, addr_add, run_store P w _ v _ (isCell_oneCell v ▸ hv), hcell, hfz]
      simpa using hr
    · rw [hk k]
      by_cases h0 : k = o + i
      · subst h0
        rw [if_neg (by omega), if_pos (by simp only [List.length_cons]; omega)]
        simp [hlt]
      · by_cases h2 : o + (i + 1) ≤ k ∧ k < o + (i + 1) + vs.length
        · rw [if_pos h2, if_pos (by simp only [List.length_cons]; omega), show k - (o + i) = (k - (o + (i + 1))) + 1 from by omega]
          simp
        · rw [if_neg h2, if_neg (by simp only [List.length_cons]; omega)]
          simp [Ne.symm h0]
    · rw [hoth k hkb, setCell_heap h, if_neg hkb]

theorem rowAt_setCells (base : Nat → Value) : ∀ (vs : List Value) (tr : Tr Value) (o k : Nat),
    rowAt base (setCells tr o vs) k = if o ≤ k ∧ k < o + vs.length then vs.getD (k - o) undef else rowAt base tr k := by
  intro vs
  induction vs with
  | nil => intro tr o k; rw [if_neg (by simp)]; rfl
  | cons v vs ih =>
    intro tr o k
    simp only [setCells, ih, List.length_cons]
    by_cases h0 : k = o
    · subst h0
      rw [if_neg (by omega), if_pos (by omega)]
      simp [rowAt, Tr.get_set]
    · by_cases h2 : o + 1 ≤ k ∧ k < o + 1 + vs.length
      · rw [if_pos h2, if_pos (by omega), show k - o = (k - (o + 1)) + 1 from by omega]
        simp
      · rw [if_neg h2, if_neg (by omega)]
        simp [rowAt, Tr.get_set, h0]

theorem Vs.allCells {m : Pm} {l l' : List Value} (h : Vs m l l') : Em.allCells l' = Em.allCells l := by
  induction h with
  | nil => rfl
  | cons h _ ih => simp [Em.allCells, h.isCell, ih]

/-- Cells of a row are written: what the row reads behind it. -/
theorem row_write {P : Program} {m : Pm} {p : Pl} {w : World} {size : Nat} {base : Nat → Value} {tr : Tr Value} {elem esz : Nat} (h : ObjR m p w (.row size base tr elem esz false))
    {vs vs' : List Value} (hv : Vs m vs vs') (hc : allCells vs = true) (o : Nat) (ho : o + vs.length ≤ size) :
    ∃ w', (storeCells ⟨p.blk, p.base + o, none⟩ vs').run P w = .ok () w' ∧ ObjR m p w' (.row size base (setCells tr o vs) elem esz false) ∧
      (∀ k, k ≠ p.blk → w'.heap[k]? = w.heap[k]?) ∧ w'.heap.size = w.heap.size ∧ w'.tape = w.tape ∧ w'.os = w.os ∧ w'.output = w.output := by
  obtain ⟨c, e, fz, h1, h2, h3, h4, h5, h6⟩ := h
  obtain rfl := h2 rfl
  have hlen := hv.length
  obtain ⟨w', hr, ⟨c', hc', hsz, hk⟩, hoth, hsize, ht, hos, hout⟩ := storeCells_run (P := P) vs' 0 w p.blk (p.base + o) c e h1 (hv.allCells ▸ hc) (by omega)
  refine ⟨w', hr, ⟨c', e, (0, 0), hc', fun _ => rfl, h3, h4, by omega, fun i hi => ?_⟩, hoth, hsize, ht, hos, hout⟩
  rw [hk, rowAt_setCells]
  by_cases hin : o ≤ i ∧ i < o + vs.length
  · rw [if_pos hin, if_pos (by omega)]
    have hg := hv.getD (i - o) (by omega)
    refine ⟨vs'.getD (i - o) undef, ?_, hg⟩
    rw [show p.base + i - (p.base + o + 0) = i - o from by omega]
    have : i - o < vs'.length := by omega
    simp [this]
  · rw [if_neg hin, if_neg (by omega)]
    exact h6 i hi

/-- A value is written. -/
theorem storeN_run {P : Program} {m : Pm} {h h' : Heap} {w : World} (S : Sim m h w) {a : Addr} {vs vs' : List Value} (hv : Vs m vs vs') (hs : storeN h a vs = some h') :
    ∃ p, m a.block = some p ∧ a.spot = none ∧ ∃ w', (storeCells ⟨p.blk, p.base + a.off, none⟩ vs').run P w = .ok () w' ∧ Sim m h' w' ∧ Stp m h w m h' w' := by
  unfold storeN at hs
  split at hs
  · cases hs
  · rename_i hsp
    split at hs
    · rename_i size base tr elem esz hg
      split at hs
      · rename_i hle hall
        cases hs
        obtain ⟨p, hp, hr⟩ := S.live _ _ hg
        obtain ⟨w', hrun, ho, hoth, hsize, ht, hos, hout⟩ := row_write (P := P) hr hv hall a.off (Nat.le_of_ble_eq_true hle)
        obtain ⟨h1, h2⟩ := S.turn hg rfl rfl hp (Heap.get_putAt _ _ _ _ _) rfl ho hoth hsize ht hos hout
        exact ⟨p, hp, hsp, w', hrun, h1, h2⟩
      · cases hs
    · cases hs

end Go.Em

namespace Go.Em

/-- What is told of a program is so. -/
structure Ok (cx : Cx) : Prop where
  under : ∀ t i, cx.ty t = some i → cx.P.underlying t = some i.d
  info : ∀ t i, cx.ty t = some i → ∃ x, cx.P.info? t = some x ∧ x.size = i.size ∧ x.bytes = i.bytes ∧ x.zero = some i.zero
  zero : ∀ t i, cx.ty t = some i → (∀ v ∈ i.zero.cells.toList, flat v = true) ∧ (flat i.zero = true ∨ ∃ c, i.zero = .agg c)
  zsize : ∀ t i, cx.ty t = some i → i.zero.cells.size = i.size
  fields : ∀ t i fs, cx.ty t = some i → i.d = .struct fs → ∀ f ∈ fs.toList, (cx.P.info? f.type).isSome = true
  named : ∀ t i fs, cx.ty t = some i → i.d = .struct fs → ∀ f ∈ fs.toList, f.name ≠ "_"
  held : ∀ t i, cx.ty t = some i → cx.P.stoodInHeld t = false
  guard : ∀ t i, cx.ty t = some i → aggD i.d = true → cx.P.eqGuardType cx.P.depth t = false
  func : ∀ f x, cx.fn f = some x → cx.P.funcs[f]? = some x.1 ∧ x.1.body = some x.2 ∧ (x.1.name == "runtime.NumGoroutine") = false

section
variable {cx : Cx}

theorem Ok.run_under (O : Ok cx) {t : Nat} {i : Ty} (h : cx.ty t = some i) (w : World) : (underlying t).run cx.P w = .ok i.d w := by
  simp [underlying, O.under t i h]

theorem Ok.run_size (O : Ok cx) {t : Nat} {i : Ty} (h : cx.ty t = some i) (w : World) : (sizeOf t).run cx.P w = .ok i.size w := by
  obtain ⟨x, hx, h1, _⟩ := O.info t i h
  simp [sizeOf, typeInfo, hx, h1]

theorem Ok.run_isAgg (O : Ok cx) {t : Nat} {i : Ty} (h : cx.ty t = some i) (w : World) : (isAgg t).run cx.P w = .ok (aggD i.d) w := by
  simp only [isAgg, Sem.run_bind, O.run_under h, Result.andThen_ok]
  cases i.d <;> rfl

theorem Ok.run_zero (O : Ok cx) {t : Nat} {i : Ty} (h : cx.ty t = some i) (w : World) : (zeroValue t).run cx.P w = .ok i.zero w := by
  obtain ⟨x, hx, _, _, h3⟩ := O.info t i h
  simp [zeroValue, typeInfo, hx, h3]

theorem Vs.of_flat {m : Pm} : ∀ {l : List Value}, (∀ v ∈ l, flat v = true) → Vs m l l
  | [], _ => .nil
  | v :: l, h => .cons (.flat (h v (by simp))) (Vs.of_flat fun x hx => h x (by simp [hx]))

theorem Ok.zeroV (O : Ok cx) {t : Nat} {i : Ty} (h : cx.ty t = some i) (m : Pm) : V m i.zero i.zero := by
  obtain ⟨h1, h2⟩ := O.zero t i h
  rcases h2 with h2 | ⟨c, h2⟩
  · exact .flat h2
  · rw [h2] at h1 ⊢
    exact agg_iff.2 (Vs.of_flat h1)

/-- A reading run. -/
def Rd (cx : Cx) (s : Sem Value) (w : World) (m : Pm) (v : Value) : Prop := ∃ v', s.run cx.P w = .ok v' w ∧ V m v v'

theorem ev_V {m : Pm} {tm : Tr Value} {a : Act} (T : Tm m tm a.tmps) {x : Operand} {v : Value} (h : ev tm x = some v) : V m v (a.eval x) := by
  cases x with
  | tmp t => exact T t v h
  | const c =>
    simp only [ev] at h
    split at h
    · cases h; exact .flat ‹_›
    · cases h
  | global g => cases h
  | func f => cases h; exact func_mk .nil .nil

theorem evs_V {m : Pm} {tm : Tr Value} {a : Act} (T : Tm m tm a.tmps) : ∀ {l : List Operand} {vs : List Value}, evs tm l = some vs → Vs m vs (l.map a.eval)
  | [], _, h => by cases h; exact .nil
  | x :: l, vs, h => by
    simp only [evs] at h
    split at h
    · rename_i v hv
      split at h
      · rename_i vs' hvs
        cases h
        exact .cons (ev_V T hv) (evs_V T hvs)
      · cases h
    · cases h

/-- Parts with their places. -/
inductive Ps (m : Pm) : List (Nat × Value) → List (Nat × Value) → Prop
  | nil : Ps m [] []
  | cons {i : Nat} {v v' : Value} {l l' : List (Nat × Value)} : V m v v' → Ps m l l' → Ps m ((i, v) :: l) ((i, v') :: l')

theorem evParts_V {m : Pm} {tm : Tr Value} {a : Act} (T : Tm m tm a.tmps) : ∀ {l : List (Nat × Operand)} {vs : List (Nat × Value)}, evParts tm l = some vs →
    Ps m vs (l.map fun (i, x) => (i, a.eval x))
  | [], _, h => by cases h; exact .nil
  | (i, x) :: l, vs, h => by
    simp only [evParts] at h
    split at h
    · rename_i v hv
      split at h
      · rename_i vs' hvs
        cases h
        exact .cons (ev_V T hv) (evParts_V T hvs)
      · cases h
    · cases h

theorem loadT_run (O : Ok cx) {m : Pm} {h : Heap} {w : World} (S : Sim m h w) {t : Nat} {a : Addr} {v : Value} (hl : loadT cx h t a = some v) :
    ∃ p, m a.block = some p ∧ a.spot = none ∧ Rd cx (loadVar t ⟨p.blk, p.base + a.off, none⟩) w m v := by
  unfold loadT at hl
  split at hl
  · rename_i i hi
    split at hl
    · rename_i hag
      split at hl
      · rename_i l hl'
        cases hl
        obtain ⟨p, hp, hs, l', hr, hV⟩ := loadN_run (P := cx.P) S hl'
        refine ⟨p, hp, hs, .agg l', ?_, agg_iff.2 (by simpa using hV)⟩
        simp [loadVar, O.run_isAgg hi, hag, O.run_size hi, hr]
      · cases hl
    · rename_i hag
      split at hl
      · rename_i x hl'
        cases hl
        obtain ⟨p, hp, hs, l', hr, hV⟩ := loadN_run (P := cx.P) S hl'
        obtain ⟨l'⟩ := l'
        cases hV with
        | cons hv hn =>
          cases hn
          rename_i y
          refine ⟨p, hp, hs, y, ?_, hv⟩
          have : (load ⟨p.blk, p.base + a.off, none⟩).run cx.P w = .ok y w := by
            simp only [loadCells, loadCellsFrom, Sem.run_bind, addr_add, Nat.add_zero] at hr
            generalize (load ⟨p.blk, p.base + a.off, none⟩).run cx.P w = r at hr ⊢
            cases r with
            | ok z w2 => simp at hr; obtain ⟨rfl, rfl⟩ := hr; rfl
            | halt z w2 => simp at hr
          simp [-run_load, loadVar, O.run_isAgg hi, hag, this]
      · cases hl
  · cases hl

theorem storeT_run (O : Ok cx) {m : Pm} {h h' : Heap} {w : World} (S : Sim m h w) {t : Nat} {a : Addr} {v v' : Value} (hv : V m v v') (hs : storeT cx h t a v = some h') :
    ∃ p, m a.block = some p ∧ a.spot = none ∧ ∃ w', (storeVar t ⟨p.blk, p.base + a.off, none⟩ v').run cx.P w = .ok () w' ∧ Sim m h' w' ∧ Stp m h w m h' w' := by
  unfold storeT at hs
  split at hs
  · rename_i i hi
    split at hs
    · rename_i hsz
      obtain ⟨p, hp, hsp, w', hr, h1, h2⟩ := storeN_run (P := cx.P) S hv.cells hs
      refine ⟨p, hp, hsp, w', ?_, h1, h2⟩
      have e1 : v'.cells.size = i.size := by
        have := hv.cells.length
        have h0 := Nat.eq_of_beq_eq_true hsz
        simp only [Array.length_toList] at this
        omega
      simp [storeVar, O.run_size hi, e1, hr]
    · cases hs
  · cases hs

theorem intOp_run {op : BinOp} {k : IntKind} {a b : Int} {v : Value} (h : intOp op k a b = some v) (P : Program) (t : Nat) (w : World) :
    (binOp op t (.int k a) (.int k b)).run P w = .ok v w ∧ flat v = true := by
  cases op <;> simp only [intOp] at h <;> (try split at h) <;> (try cases h) <;> refine ⟨?_, rfl⟩ <;>
    first
      | (simp only [binOp, ne_eq, not_true_eq_false, if_false, Op.intArith, Op.intBits, Op.intCmp, Sem.run_pure]; done)
      | (rename_i hz _; simp only [binOp, ne_eq, not_true_eq_false, if_false, Op.intDiv, if_neg hz, Sem.run_pure]; done)

theorem shiftOp_run {op : BinOp} {k k' : IntKind} {a b : Int} {v : Value} (h : shiftOp op k a b = some v) (ho : op = .shl ∨ op = .shr) (P : Program) (t : Nat) (w : World) :
    (binOp op t (.int k a) (.int k' b)).run P w = .ok v w ∧ flat v = true := by
  unfold shiftOp at h
  split at h
  · cases h
  · rename_i hb
    have hb' : ¬ b < 0 := by simpa using hb
    rcases ho with rfl | rfl <;> (cases h; exact ⟨by simp [binOp, Op.shift, hb'], rfl⟩)

end
end Go.Em

namespace Go.Em
section
variable {cx : Cx}

theorem bytesEq_iff : ∀ (a b : List UInt8), bytesEq a b = true ↔ a = b
  | [], [] => by simp [bytesEq]
  | [], _ :: _ => by simp [bytesEq]
  | _ :: _, [] => by simp [bytesEq]
  | a :: x, b :: y => by
    simp only [bytesEq]
    split
    · rename_i h
      have : a = b := UInt8.toNat_inj.1 (Nat.eq_of_beq_eq_true h)
      rw [bytesEq_iff x y]
      simp [this]
    · rename_i h
      have : a ≠ b := fun e => by subst e; simp at h
      simp [this]

theorem bytesEq_toList (a b : ByteArray) : bytesEq a.data.toList b.data.toList = (a.toList == b.toList) := by
  rw [Go.ByteArray.toList_eq, Go.ByteArray.toList_eq, Bool.eq_iff_iff, bytesEq_iff, beq_iff_eq]

theorem bytesEq_eq (a b : ByteArray) : bytesEq a.data.toList b.data.toList = (a == b) := by
  rw [bytesEq_toList, beq_toListBytes]

theorem Vs.drop {m : Pm} {l l' : List Value} (h : Vs m l l') : ∀ (n : Nat), Vs m (l.drop n) (l'.drop n) := by
  induction h with
  | nil => intro n; simp; exact .nil
  | cons h hs ih =>
    intro n
    cases n with
    | zero => exact .cons h hs
    | succ n => simpa using ih n

theorem Vs.take {m : Pm} {l l' : List Value} (h : Vs m l l') : ∀ (n : Nat), Vs m (l.take n) (l'.take n) := by
  induction h with
  | nil => intro n; simp; exact .nil
  | cons h hs ih =>
    intro n
    cases n with
    | zero => exact .nil
    | succ n => exact .cons h (ih n)

theorem part_run (O : Ok cx) {m : Pm} {t : Nat} {i : Ty} (hi : cx.ty t = some i) {xs : List Value} {xs' : Array Value} (hx : Vs m xs xs'.toList) {off : Nat} {x : Value} (h : partA i xs off = some x)
    (w : World) : Rd cx (part t xs' off) w m x := by
  unfold partA at h
  split at h
  · rename_i ha
    split at h
    · rename_i hle
      cases h
      refine ⟨.agg (xs'.extract off (off + i.size)), by simp [part, O.run_isAgg hi, ha, O.run_size hi], agg_iff.2 ?_⟩
      rw [Array.toList_extract]
      simpa using (hx.drop off).take i.size
    · cases h
  · rename_i ha
    split at h
    · rename_i v r hd
      cases h
      have hv := hx.drop off
      rw [hd] at hv
      generalize hd' : xs'.toList.drop off = l' at hv
      cases hv with
      | cons hv _ =>
        rename_i v' l2 _
        have : xs'[off]? = some v' := by
          have h0 : (xs'.toList.drop off)[0]? = some v' := by rw [hd']; rfl
          simpa using h0
        exact ⟨v', by simp [part, O.run_isAgg hi, ha, this], hv⟩
    · cases h

theorem live_row {m : Pm} {h : Heap} {w : World} (S : Sim m h w) {n : Nat} (hl : live h n = true) : ∃ o p c e, h.get n = some o ∧ roO o = false ∧ m n = some p ∧ w.heap[p.blk]? = some (.cells c e (0, 0)) := by
  unfold live at hl
  split at hl
  · rename_i size base tr el esz hg
    obtain ⟨p, hp, hr⟩ := S.live _ _ hg
    obtain ⟨c, e, fz, h1, h2, _⟩ := hr
    obtain rfl := h2 rfl
    exact ⟨_, p, c, e, hg, rfl, hp, h1⟩
  · cases hl

theorem sameAddr_other {P : Program} {w : World} {a b : Addr} (hab : a.block ≠ b.block) (ha : ∃ c e, w.heap[a.block]? = some (.cells c e (0, 0))) (hb : ∃ c e, w.heap[b.block]? = some (.cells c e (0, 0))) :
    (sameAddr a b).run P w = .ok false w := by
  obtain ⟨c, e, ha⟩ := ha
  obtain ⟨c', e', hb⟩ := hb
  simp [sameAddr, hab, World.frozen?, ha, noView, viewAt, World.shape?, hb, mayBeOne, stringish]

theorem slice_inv {m : Pm} {b : Option Addr} {n c : Nat} {v' : Value} (h : V m (.slice b n c) v') : ∃ b' c', v' = .slice b' n c' ∧ b'.isNone = b.isNone := by
  cases h with
  | flat h => exact ⟨_, _, rfl, rfl⟩
  | sl _ _ => exact ⟨_, _, rfl, rfl⟩
  | slu _ _ => exact ⟨_, _, rfl, rfl⟩

theorem map_inv {m : Pm} {r : Option Nat} {v' : Value} (h : V m (.map r) v') : ∃ r', v' = .map r' ∧ r'.isNone = r.isNone ∧ ∀ n, r = some n → ∃ p, m n = some p ∧ r' = some p.blk := by
  cases h with
  | flat h => cases r with
    | none => exact ⟨_, rfl, rfl, fun _ h => by cases h⟩
    | some r => simp [flat] at h
  | map h => exact ⟨_, rfl, rfl, fun _ e => by cases e; exact ⟨_, h, rfl⟩⟩

theorem iface_inv {m : Pm} {t : Nat} {v v' : Value} (h : V m (.iface t v) v') : ∃ u, v' = .iface t u ∧ V m v u := by
  cases h with
  | flat h => simp [flat] at h
  | iface h => exact ⟨_, rfl, h⟩

theorem eqFs_run (O : Ok cx) {m : Pm} {w : World} {eq : Nat → Value → Value → Option Bool} {d : Nat}
    (heq : ∀ (t : Nat) (x y : Value) (b : Bool), eq t x y = some b → ∀ (x' y' : Value), V m x x' → V m y y' → (Op.equalIn d t x' y').run cx.P w = .ok b w) {xs ys : List Value} {xs' ys' : Array Value}
    (hx : Vs m xs xs'.toList) (hy : Vs m ys ys'.toList) : ∀ (fs : List Field) (b : Bool), (∀ f ∈ fs, f.name ≠ "_") → eqFs cx eq xs ys fs = some b → (Op.eqFields d xs' ys' fs).run cx.P w = .ok b w
  | [], b, _, h => by cases h; rfl
  | f :: fs, b, hn, h => by
    simp only [eqFs] at h
    split at h
    · cases h
    · rename_i i hi
      split at h
      · rename_i x y hpx hpy
        obtain ⟨x', hx1, hx2⟩ := part_run O hi hx hpx w
        obtain ⟨y', hy1, hy2⟩ := part_run O hi hy hpy w
        have hne := hn f (by simp)
        split at h
        · rename_i he
          have h1 := heq _ _ _ _ he x' y' hx2 hy2
          have h2 := eqFs_run O heq hx hy fs b (fun g hg => hn g (by simp [hg])) h
          simp only [Op.eqFields, if_pos hne, Sem.run_bind, hx1, hy1, h1, Result.andThen_ok, Bool.not_true, Bool.false_eq_true, if_false, h2]
        · rename_i he
          cases h
          have h1 := heq _ _ _ _ he x' y' hx2 hy2
          simp only [Op.eqFields, if_pos hne, Sem.run_bind, hx1, hy1, h1, Result.andThen_ok, Bool.not_false, if_true, Sem.run_pure]
        · cases h
      · cases h

/-- An array's elements, one behind the other. -/
def eqArr (d e n : Nat) (xs ys : Array Value) : List Nat → Sem Bool
  | [] => pure true
  | i :: l => do
    let a ← part e xs (i * n)
    let b ← part e ys (i * n)
    let r ← Op.equalIn d e a b
    if (!r) = true then pure false else eqArr d e n xs ys l

theorem run_equalIn_array {P : Program} (w : World) (d t e len n : Nat) (xs ys : Array Value) (ht : (underlying t).run P w = .ok (.array len e) w) (hn : (sizeOf e).run P w = .ok n w) :
    (Op.equalIn (d + 1) t (.agg xs) (.agg ys)).run P w = (eqArr d e n xs ys (List.range' 0 len)).run P w := by
  simp only [Op.equalIn, Sem.run_bind, ht, Result.andThen_ok, hn]
  rw [Std.Legacy.Range.forIn_eq_forIn_range']
  simp only [Std.Legacy.Range.size, Nat.sub_zero, Nat.add_sub_cancel, Nat.div_one]
  generalize List.range' 0 len = l
  clear ht hn
  induction l generalizing w with
  | nil => simp [eqArr]
  | cons i l ih =>
    simp only [List.forIn_cons, eqArr, Sem.run_bind, Sem.run_ite]
    generalize (part e xs (i * n)).run P w = r1
    cases r1 with
    | ok a w1 =>
      simp only [Result.andThen_ok]
      generalize (part e ys (i * n)).run P w1 = r2
      cases r2 with
      | ok b w2 =>
        simp only [Result.andThen_ok]
        generalize (Op.equalIn d e a b).run P w2 = r3
        cases r3 with
        | ok r w3 =>
          cases r
          · simp only [Result.andThen_ok, Bool.not_false, if_true, Sem.run_pure]
          · simp only [Result.andThen_ok, Bool.not_true, Bool.false_eq_true, if_false, Sem.run_pure]
            exact ih w3
        | halt x w3 => simp [Result.andThen]
      | halt x w2 => simp [Result.andThen]
    | halt x w1 => simp [Result.andThen]

theorem eqNs_run (O : Ok cx) {m : Pm} {w : World} {eq : Value → Value → Option Bool} {d e : Nat} {i : Ty} (hi : cx.ty e = some i)
    (heq : ∀ (x y : Value) (b : Bool), eq x y = some b → ∀ (x' y' : Value), V m x x' → V m y y' → (Op.equalIn d e x' y').run cx.P w = .ok b w) {xs ys : List Value} {xs' ys' : Array Value}
    (hx : Vs m xs xs'.toList) (hy : Vs m ys ys'.toList) : ∀ (n k : Nat) (b : Bool), eqNs eq i xs ys k n = some b → (eqArr d e i.size xs' ys' (List.range' k n)).run cx.P w = .ok b w
  | 0, _, b, h => by cases h; rfl
  | n + 1, k, b, h => by
    simp only [eqNs] at h
    split at h
    · rename_i x y hpx hpy
      obtain ⟨x', hx1, hx2⟩ := part_run O hi hx hpx w
      obtain ⟨y', hy1, hy2⟩ := part_run O hi hy hpy w
      split at h
      · rename_i he
        have h1 := heq _ _ _ he x' y' hx2 hy2
        have h2 := eqNs_run O hi heq hx hy n (k + 1) b h
        simp only [List.range'_succ, eqArr, Sem.run_bind, hx1, hy1, h1, Result.andThen_ok, Bool.not_true, Bool.false_eq_true, if_false, h2]
      · rename_i he
        cases h
        have h1 := heq _ _ _ he x' y' hx2 hy2
        simp only [List.range'_succ, eqArr, Sem.run_bind, hx1, hy1, h1, Result.andThen_ok, Bool.not_false, if_true, Sem.run_pure]
      · cases h
    · cases h

/-- Equality. -/
theorem eqA_run (O : Ok cx) {m : Pm} {h : Heap} {w : World} (S : Sim m h w) : ∀ (d t : Nat) (x y : Value) (b : Bool), eqA cx h d t x y = some b → ∀ (x' y' : Value), V m x x' → V m y y' →
    ∀ D, d ≤ D → (Op.equalIn D t x' y').run cx.P w = .ok b w := by
  intro d
  induction d with
  | zero => intro t x y b he; cases he
  | succ d ih =>
    intro t x y b he x' y' hx hy D hD
    obtain ⟨D, rfl⟩ : ∃ k, D = k + 1 := ⟨D - 1, by omega⟩
    simp only [eqA] at he
    split at he
    · cases he
    · rename_i i hi
      have hu := O.run_under hi w
      have hu' := O.under t i hi
      have hh := O.held t i hi
      have hnm := O.named t i
      generalize hd : i.d = dd at he hu hu' hnm
      cases dd with
      | bool =>
        cases x <;> (try (cases he; done)) <;> cases y <;> (try (cases he; done))
        cases he; obtain rfl := bool_inv hx; obtain rfl := bool_inv hy
        simp [Op.equalIn, hu]
      | int k =>
        cases x <;> (try (cases he; done)) <;> cases y <;> (try (cases he; done))
        simp only at he
        split at he
        · rename_i hk _
          cases he; obtain rfl := int_inv hx; obtain rfl := int_inv hy
          subst hk
          simp [Op.equalIn, hu]
        · cases he
      | string =>
        cases x <;> (try (cases he; done)) <;> cases y <;> (try (cases he; done))
        cases he; obtain rfl := string_inv hx; obtain rfl := string_inv hy
        rw [bytesEq_eq]
        simp [Op.equalIn, hu]
      | pointer e =>
        cases x <;> (try (cases he; done))
        rename_i ox
        cases ox with
        | none =>
          cases y <;> (try (cases he; done))
          rename_i oy
          cases he
          obtain rfl := flat_inv rfl hx
          cases oy with
          | none => obtain rfl := flat_inv rfl hy; simp [Op.equalIn, hu]
          | some a => obtain ⟨p, _, _, rfl⟩ := ptr_inv hy; simp [Op.equalIn, hu]
        | some a =>
          obtain ⟨p, hp, hs, rfl⟩ := ptr_inv hx
          cases y <;> (try (cases he; done))
          rename_i oy
          cases oy with
          | none => cases he; obtain rfl := flat_inv rfl hy; simp [Op.equalIn, hu]
          | some a2 =>
            obtain ⟨p2, hp2, hs2, rfl⟩ := ptr_inv hy
            simp only at he
            split at he
            · rename_i j hj
              split at he
              · rename_i hz _ _
                have hz' : j.size ≠ 0 := by intro e0; rw [e0] at hz; cases hz
                split at he
                · rename_i hbeq
                  cases he
                  have hb := Nat.eq_of_beq_eq_true hbeq
                  rw [hb] at hp; rw [hp2] at hp; cases hp
                  have : (Nat.beq a.off a2.off) = decide (a.off = a2.off) := by
                    rw [Bool.eq_iff_iff]; simp
                  have he2 : ((⟨p.blk, p.base + a.off, none⟩ : Addr) == ⟨p.blk, p.base + a2.off, none⟩) = decide (a.off = a2.off) := by
                    rw [Bool.eq_iff_iff]; simp
                  simp [Op.equalIn, hu, O.run_size hj, hz', sameAddr, this, he2]
                · rename_i hbne
                  split at he
                  · rename_i hl1 hl2
                    cases he
                    obtain ⟨o1, q1, c1, e1, g1, r1, m1, k1⟩ := live_row S hl1
                    obtain ⟨o2, q2, c2, e2, g2, r2, m2, k2⟩ := live_row S hl2
                    rw [hp] at m1; cases m1
                    rw [hp2] at m2; cases m2
                    have hne : a.block ≠ a2.block := fun e0 => by rw [e0] at hbne; simp at hbne
                    have hblk := S.inj _ _ _ _ _ _ g1 g2 hp hp2 hne
                    have := sameAddr_other (P := cx.P) (w := w) (a := ⟨p.blk, p.base + a.off, none⟩) (b := ⟨p2.blk, p2.base + a2.off, none⟩) hblk ⟨_, _, k1⟩ ⟨_, _, k2⟩
                    simp [Op.equalIn, hu, O.run_size hj, hz', this]
                  · cases he
              · cases he
            · cases he
      | struct fs =>
        cases x <;> (try (cases he; done)) <;> cases y <;> (try (cases he; done))
        obtain ⟨x', rfl, hx'⟩ := agg_inv hx
        obtain ⟨y', rfl, hy'⟩ := agg_inv hy
        have hf : cx.P.fieldsOf t = fs := by simp [Program.fieldsOf, hu']
        rw [run_equalIn_struct w D t x' y' (by rw [hf]; exact hu') hh, hf]
        exact eqFs_run O (fun t x y b he x' y' hx hy => ih t x y b he x' y' hx hy D (by omega)) hx' hy' fs.toList b (hnm fs hi rfl) he
      | array n e =>
        cases x <;> (try (cases he; done)) <;> cases y <;> (try (cases he; done))
        obtain ⟨x', rfl, hx'⟩ := agg_inv hx
        obtain ⟨y', rfl, hy'⟩ := agg_inv hy
        simp only at he
        split at he
        · rename_i j hj
          rw [run_equalIn_array w D t e n j.size x' y' hu (O.run_size hj w)]
          exact eqNs_run O hj (fun x y b he x' y' hx hy => ih e x y b he x' y' hx hy D (by omega)) hx' hy' n 0 b he
        · cases he
      | interface ms =>
        cases x <;> (try (cases he; done)) <;> cases y <;> (try (cases he; done))
        · obtain ⟨u, rfl, _⟩ := iface_inv hx
          cases he; obtain rfl := flat_inv rfl hy; simp [Op.equalIn, hu]
        · obtain ⟨u, rfl, _⟩ := iface_inv hy
          cases he; obtain rfl := flat_inv rfl hx; simp [Op.equalIn, hu]
        · cases he; obtain rfl := flat_inv rfl hx; obtain rfl := flat_inv rfl hy; simp [Op.equalIn, hu]
      | slice e =>
        cases x <;> (try (cases he; done))
        rename_i ob _ _
        obtain ⟨b1, c1, rfl, h1⟩ := slice_inv hx
        cases ob with
        | none =>
          cases y <;> (try (cases he; done))
          obtain ⟨b2, c2, rfl, h2⟩ := slice_inv hy
          · cases he
            cases b1 with
            | none => simp [Op.equalIn, hu, h2]
            | some _ => simp at h1
        | some _ =>
          cases y <;> (try (cases he; done))
          rename_i ob2 _ _
          obtain ⟨b2, c2, rfl, h2⟩ := slice_inv hy
          cases ob2 with
          | none =>
            cases he
            cases b1 with
            | none => simp at h1
            | some _ =>
              cases b2 with
              | none => simp [Op.equalIn, hu]
              | some _ => simp at h2
          | some _ => cases he
      | map k e =>
        cases x <;> (try (cases he; done))
        rename_i ob
        obtain ⟨b1, rfl, h1, _⟩ := map_inv hx
        cases ob with
        | none =>
          cases y <;> (try (cases he; done))
          obtain ⟨b2, rfl, h2, _⟩ := map_inv hy
          cases he
          cases b1 with
          | none => simp [Op.equalIn, hu, h2]
          | some _ => simp at h1
        | some _ =>
          cases y <;> (try (cases he; done))
          rename_i ob2
          obtain ⟨b2, rfl, h2, _⟩ := map_inv hy
          cases ob2 with
          | none =>
            cases he
            cases b1 with
            | none => simp at h1
            | some _ =>
              cases b2 with
              | none => simp [Op.equalIn, hu]
              | some _ => simp at h2
          | some _ => cases he
      | func a r v =>
        cases x <;> (try (cases he; done)) <;> cases y <;> (try (cases he; done))
        · obtain ⟨_, _, rfl, _, _⟩ := func_inv hx
          cases he; obtain rfl := flat_inv rfl hy; simp [Op.equalIn, hu]
        · obtain ⟨_, _, rfl, _, _⟩ := func_inv hy
          cases he; obtain rfl := flat_inv rfl hx; simp [Op.equalIn, hu]
        · cases he; obtain rfl := flat_inv rfl hx; obtain rfl := flat_inv rfl hy; simp [Op.equalIn, hu]
      | _ => cases he

theorem keyOk_arr_run (O : Ok cx) {m : Pm} {w : World} {ok : Value → Bool} {em : Bool} {D e : Nat} {j : Ty} (hj : cx.ty e = some j)
    (hok : ∀ (v v' : Value), ok v = true → V m v v' → (Instr.checkKey em D e v').run cx.P w = .ok () w) {xs : List Value} {xs' : Array Value} (hx : Vs m xs xs'.toList) :
    ∀ (n k : Nat), keyOk.arr ok j xs k n = true → (forIn (List.range' k n) PUnit.unit fun i _ => (do
      let a ← sizeOf e
      let b ← part e xs' (i * a)
      Instr.checkKey em D e b
      pure (ForInStep.yield PUnit.unit) : Sem (ForInStep PUnit))).run cx.P w = .ok PUnit.unit w
  | 0, _, _ => rfl
  | n + 1, k, h => by
    simp only [keyOk.arr] at h
    split at h
    · rename_i x hp
      split at h
      · rename_i ho
        obtain ⟨x', h1, h2⟩ := part_run O hj hx hp w
        have h3 := hok _ _ ho h2
        have h4 := keyOk_arr_run O hj hok hx n (k + 1) h
        simp only [List.range'_succ, List.forIn_cons, Sem.run_bind, O.run_size hj, Result.andThen_ok, h1, h3, Sem.run_pure]
        exact h4
      · cases h
    · cases h

theorem keyOk_flds_run (O : Ok cx) {m : Pm} {w : World} {ok : Nat → Value → Bool} {em : Bool} {D : Nat}
    (hok : ∀ (t : Nat) (v v' : Value), ok t v = true → V m v v' → (Instr.checkKey em D t v').run cx.P w = .ok () w) {xs : List Value} {xs' : Array Value} (hx : Vs m xs xs'.toList) :
    ∀ (fs : List Field), (∀ f ∈ fs, f.name ≠ "_") → keyOk.flds cx ok xs fs = true → (forIn fs PUnit.unit fun f _ => (if f.name ≠ "_" then do
      let b ← part f.type xs' f.offset
      Instr.checkKey em D f.type b
      pure (ForInStep.yield PUnit.unit)
    else pure (ForInStep.yield PUnit.unit) : Sem (ForInStep PUnit))).run cx.P w = .ok PUnit.unit w
  | [], _, _ => rfl
  | f :: fs, hn, h => by
    simp only [keyOk.flds] at h
    split at h
    · cases h
    · rename_i i hi
      split at h
      · rename_i x hp
        split at h
        · rename_i ho
          obtain ⟨x', h1, h2⟩ := part_run O hi hx hp w
          have h3 := hok _ _ _ ho h2
          have h4 := keyOk_flds_run O hok hx fs (fun g hg => hn g (by simp [hg])) h
          simp only [List.forIn_cons, if_pos (hn f (by simp)), Sem.run_bind, Result.andThen_ok, h1, h3, Sem.run_pure]
          exact h4
        · cases h
      · cases h

theorem keyOk_run (O : Ok cx) {m : Pm} {w : World} {em : Bool} : ∀ (d t : Nat) (v v' : Value), keyOk cx d t v = true → V m v v' → ∀ D, d ≤ D → (Instr.checkKey em D t v').run cx.P w = .ok () w := by
  intro d
  induction d with
  | zero => intro t v v' h; cases h
  | succ d ih =>
    intro t v v' h hv D hD
    obtain ⟨D, rfl⟩ : ∃ k, D = k + 1 := ⟨D - 1, by omega⟩
    simp only [keyOk] at h
    split at h
    · cases h
    · rename_i i hi
      have hu := O.run_under hi w
      have hnm := O.named t i
      generalize hd : i.d = dd at h hu hnm
      cases dd with
      | interface ms => cases h
      | array n e =>
        cases v <;> (try (cases h; done))
        obtain ⟨x', rfl, hx'⟩ := agg_inv hv
        simp only at h
        split at h
        · rename_i j hj
          have := keyOk_arr_run O hj (em := em) (D := D) (fun v v' ho hv => ih e v v' ho hv D (by omega)) hx' n 0 h
          simp only [Instr.checkKey, Sem.run_bind, hu, Result.andThen_ok]
          rw [Std.Legacy.Range.forIn_eq_forIn_range']
          simp only [Std.Legacy.Range.size, Nat.sub_zero, Nat.add_sub_cancel, Nat.div_one]
          rw [this]
          rfl
        · cases h
      | struct fs =>
        cases v <;> (try (cases h; done))
        obtain ⟨x', rfl, hx'⟩ := agg_inv hv
        have := keyOk_flds_run O (em := em) (D := D) (fun t v v' ho hv => ih t v v' ho hv D (by omega)) hx' fs.toList (hnm fs hi rfl) h
        simp only [Instr.checkKey, Sem.run_bind, hu, Result.andThen_ok]
        rw [← Array.forIn_toList, this]
        rfl
      | _ => simp only [Instr.checkKey, Sem.run_bind, hu, Result.andThen_ok, Sem.run_pure]

/-- What a search finds. -/
inductive FindR (m : Pm) : Option (Nat × Value) → Option (Nat × Value) → Prop
  | none : FindR m none none
  | some {i : Nat} {v v' : Value} : V m v v' → FindR m (some (i, v)) (some (i, v'))

theorem findAsking_run {P : Program} {m : Pm} {w : World} {kt : Nat} {k' : Value} {eq : Value → Option Bool} (heq : ∀ (x : Value) (b : Bool), eq x = some b → ∀ (x' : Value), V m x x' → (Op.equal kt k' x').run P w = .ok b w) :
    ∀ (es es' : List MapEntry) (i : Nat) (r : Option (Nat × Value)), Es m es es' → findA eq es i = some r → ∃ r', (Instr.findAsking kt k' es' i).run P w = .ok r' w ∧ FindR m r r' := by
  intro es es' i r he
  induction he generalizing i r with
  | nil => intro h; cases h; exact ⟨none, rfl, .none⟩
  | cons hk hv _ ih =>
    intro h
    simp only [findA] at h
    split at h
    · rename_i e
      cases h
      have := heq _ _ e _ hk
      exact ⟨_, by simp [Instr.findAsking, this], .some hv⟩
    · rename_i e
      have := heq _ _ e _ hk
      obtain ⟨r', h1, h2⟩ := ih (i + 1) r h
      exact ⟨r', by simp [Instr.findAsking, this, h1], h2⟩
    · cases h

theorem findNow_run {m : Pm} {d : TypeDesc} {k' : Value} {eq : Value → Option Bool} (heq : ∀ (x : Value) (b : Bool), eq x = some b → ∀ (x' : Value), V m x x' → ∀ c, Instr.sameNow d k' x' = some c → c = b) :
    ∀ (es es' : List MapEntry) (i : Nat) (r r' : Option (Nat × Value)), Es m es es' → findA eq es i = some r → Instr.findNow d k' es' i = some r' → FindR m r r' := by
  intro es es' i r r' he
  induction he generalizing i r with
  | nil => intro h h'; cases h; cases h'; exact .none
  | cons hk hv _ ih =>
    intro h h'
    simp only [findA] at h
    simp only [Instr.findNow] at h'
    split at h'
    · rename_i c
      cases h'
      split at h
      · cases h; exact .some hv
      · rename_i e; have := heq _ _ e _ hk _ c; cases this
      · cases h
    · rename_i c
      split at h
      · rename_i e; have := heq _ _ e _ hk _ c; cases this
      · exact ih (i + 1) r h h'
      · cases h
    · cases h'

theorem sameNow_eq {P : Program} {d : TypeDesc} {t : Nat} {a b : Value} {r c : Bool} {w : World} (hu : (underlying t).run P w = .ok d w) (h : Instr.sameNow d a b = some r)
    {D : Nat} (he : (Op.equalIn (D + 1) t a b).run P w = .ok c w) : r = c := by
  simp only [Op.equalIn, Sem.run_bind, hu, Result.andThen_ok] at he
  unfold Instr.sameNow at h
  split at h
  · split at h
    · rename_i hk
      cases h; subst hk
      simp at he
      exact he
    · cases h
  · cases h
    simp only [Sem.run_pure] at he
    rw [← (by injection he : _ = c)]
  · cases h
    simp only [Sem.run_pure] at he
    rw [← (by injection he : _ = c)]
  · cases h

theorem findK_run (O : Ok cx) {m : Pm} {h : Heap} {w : World} (S : Sim m h w) {kt : Nat} {i : Ty} (hi : cx.ty kt = some i) {k k' : Value} (hk : V m k k') {es es' : List MapEntry} (he : Es m es es')
    {r : Option (Nat × Value)} (hf : findK cx h kt k es = some r) : ∃ r', (Instr.findKey kt k' es').run cx.P w = .ok r' w ∧ FindR m r r' := by
  have hu := O.run_under hi w
  have e1 : ∀ (x : Value) (b : Bool), eqA cx h 60 kt k x = some b → ∀ (x' : Value), V m x x' → (Op.equal kt k' x').run cx.P w = .ok b w :=
    fun x b he x' hx => eqA_run O S 60 kt k x b he k' x' hk hx _ (by unfold Op.maxDepth; omega)
  obtain ⟨D, hD⟩ : ∃ D, Op.maxDepth = D + 1 := ⟨9999, rfl⟩
  unfold findK at hf
  simp only [Instr.findKey, Sem.run_bind, hu, Result.andThen_ok]
  split
  · rename_i r' hn
    refine ⟨r', rfl, findNow_run (fun x b hb x' hx c hc => ?_) es es' 0 r r' he hf hn⟩
    have := e1 x b hb x' hx
    unfold Op.equal at this
    rw [hD] at this
    exact sameNow_eq hu hc this
  · exact findAsking_run e1 es es' 0 r he hf

theorem getMap_run {m : Pm} {h : Heap} {w : World} (S : Sim m h w) {x x' : Value} (hx : V m x x') {es : List MapEntry} (hg : getMap h x = some es) :
    (x = .map none ∧ x' = .map none ∧ es = []) ∨ ∃ r p clock es', x = .map (some r) ∧ x' = .map (some p.blk) ∧ m r = some p ∧ h.get r = some (.map es clock) ∧ w.heap[p.blk]? = some (.map es' clock) ∧ Es m es es'.toList := by
  unfold getMap at hg
  split at hg
  · cases hg; exact .inl ⟨rfl, flat_inv rfl hx, rfl⟩
  · rename_i r
    split at hg
    · rename_i es2 clock hgr
      cases hg
      obtain ⟨p, hp, es', h1, h2⟩ := S.live _ _ hgr
      obtain ⟨r', rfl, _, hm⟩ := map_inv hx
      obtain ⟨q, hq, rfl⟩ := hm _ rfl
      rw [hp] at hq; cases hq
      exact .inr ⟨r, p, clock, es', rfl, rfl, hp, hgr, h1, h2⟩
    · cases hg
  · cases hg

theorem run_getObj_map {P : Program} {w : World} {r : Nat} {es : Array MapEntry} {clock : Nat} (h : w.heap[r]? = some (.map es clock)) : (getObj r).run P w = .ok (.map es clock) w := by
  simp [getObj, Sem.run, h]

theorem Es.isEmpty {m : Pm} {es es' : List MapEntry} (h : Es m es es') : es'.isEmpty = es.isEmpty := by cases h <;> rfl

/-- A look-up. -/
theorem lookupE_run (O : Ok cx) {m : Pm} {h : Heap} {w : World} (S : Sim m h w) {t : Nat} {x x' k k' v : Value} {ok : Bool} (hx : V m x x') (hk : V m k k') (hl : lookupE cx h t x k ok = some v) :
    Rd cx (Instr.lookup t x' k' ok) w m v := by
  unfold lookupE at hl
  split at hl
  · rename_i i hi
    have hu := O.run_under hi w
    split at hl
    · rename_i kt et hd
      rw [hd] at hu
      split at hl
      · rename_i es ei hgm hko het
        have hz := O.run_zero het w
        have hzV := O.zeroV het m
        obtain ⟨ki, hki⟩ : ∃ ki, cx.ty kt = some ki := by
          unfold keyOk at hko
          cases hc : cx.ty kt with
          | none => rw [hc] at hko; cases hko
          | some ki => exact ⟨ki, rfl⟩
        have hchk : ∀ em, (Instr.checkKey em 10000 kt k').run cx.P w = .ok () w := fun em => keyOk_run O 60 kt k k' hko hk 10000 (by omega)
        have fin : ∀ (es' : List MapEntry), Es m es es' → ∃ v', ((Instr.findKey kt k' es').run cx.P w).andThen (fun a w' => Sem.run cx.P (match a with
            | some (_, v) => do
              let x ← (pure (v, true) : Sem (Value × Bool))
              pure (if ok = true then Value.tuple #[x.1, .bool x.2] else x.1)
            | none => do
              let z ← zeroValue et
              let x ← (pure (z, false) : Sem (Value × Bool))
              pure (if ok = true then Value.tuple #[x.1, .bool x.2] else x.1)) w') = .ok v' w ∧ V m v v' := by
          intro es' he
          split at hl
          · rename_i j y hf
            obtain ⟨r', h1, h2⟩ := findK_run O S hki hk he hf
            cases h2 with
            | some hv =>
              simp only [h1, Result.andThen_ok, Sem.run_bind, Sem.run_pure]
              cases ok
              · cases hl; exact ⟨_, rfl, hv⟩
              · cases hl; exact ⟨_, rfl, tuple_iff.2 (.cons hv (.cons (V.bool m true) .nil))⟩
          · rename_i hf
            obtain ⟨r', h1, h2⟩ := findK_run O S hki hk he hf
            cases h2 with
            | none =>
              simp only [h1, Result.andThen_ok, Sem.run_bind, hz, Sem.run_pure]
              cases ok
              · cases hl; exact ⟨_, rfl, hzV⟩
              · cases hl; exact ⟨_, rfl, tuple_iff.2 (.cons hzV (.cons (V.bool m false) .nil))⟩
          · cases hl
        rcases getMap_run S hx hgm with ⟨rfl, rfl, rfl⟩ | ⟨r, p, clock, es', rfl, rfl, hp, hgr, hw, he⟩
        · obtain ⟨v', h1, h2⟩ := fin [] .nil
          refine ⟨v', ?_, h2⟩
          simp only [Instr.lookup, Sem.run_bind, hu, Result.andThen_ok, Sem.run_pure, hchk]
          exact h1
        · obtain ⟨v', h1, h2⟩ := fin es'.toList he
          refine ⟨v', ?_, h2⟩
          simp only [Instr.lookup, Sem.run_bind, hu, Result.andThen_ok, Sem.run_pure, run_getObj_map hw, hchk]
          exact h1
      · cases hl
    · cases hl
  · cases hl

theorem Es.length {m : Pm} {es es' : List MapEntry} (h : Es m es es') : es'.length = es.length := by
  induction h with
  | nil => rfl
  | cons _ _ _ ih => simp [ih]

theorem Es.keyAt {m : Pm} {es es' : List MapEntry} (h : Es m es es') {k k' : Value} (hk : V m k k') : ∀ (i : Nat), V m (keyAt es i k) (((es'[i]?).map (·.key)).getD k') := by
  induction h with
  | nil => intro i; simpa [Em.keyAt] using hk
  | cons h1 _ _ ih =>
    intro i
    cases i with
    | zero => simpa [Em.keyAt] using h1
    | succ i => simpa [Em.keyAt] using ih i

theorem Es.mod {m : Pm} {es es' : List MapEntry} (h : Es m es es') {k k' v v' : Value} (hk : V m k k') (hv : V m v v') : ∀ (i : Nat), Es m (modE es i k v) (es'.modify i fun e => { e with key := k', val := v' }) := by
  induction h with
  | nil => intro i; simpa [modE] using .nil
  | cons h1 h2 h3 ih =>
    intro i
    cases i with
    | zero => simp only [modE, List.modify_zero_cons]; exact .cons hk hv h3
    | succ i => simp only [modE, List.modify_succ_cons]; exact .cons h1 h2 (ih i)

theorem Es.dropE {m : Pm} {es es' : List MapEntry} (h : Es m es es') : ∀ (i : Nat), Es m (Em.dropE es i) (es'.eraseIdx i) := by
  induction h with
  | nil => intro i; simpa [Em.dropE] using .nil
  | cons h1 h2 h3 ih =>
    intro i
    cases i with
    | zero => simpa [Em.dropE] using h3
    | succ i => simp only [Em.dropE, List.eraseIdx_cons_succ]; exact .cons h1 h2 (ih i)

theorem Es.append {m : Pm} {a a' b b' : List MapEntry} (h : Es m a a') (h' : Es m b b') : Es m (a ++ b) (a' ++ b') := by
  induction h with
  | nil => exact h'
  | cons h1 h2 _ ih => exact .cons h1 h2 ih

theorem all_zip {f : Value → Value → Bool} : ∀ (a b : List Value), ((a.zip b).all fun (x, y) => f x y) = true → ∀ (i : Nat) (x y : Value), a[i]? = some x → b[i]? = some y → f x y = true := by
  intro a b h i x y hx hy
  rw [List.all_eq_true] at h
  exact h (x, y) (List.mem_iff_getElem?.2 ⟨i, by simp [List.getElem?_zip_eq_some, hx, hy]⟩)

theorem same_ptr {m : Pm} {a : Option Addr} {a' b' : Value} (h : V m (.pointer a) a') (h' : V m (.pointer a) b') : ∃ x, a' = .pointer x ∧ b' = .pointer x := by
  cases a with
  | none => exact ⟨_, flat_inv rfl h, flat_inv rfl h'⟩
  | some a =>
    obtain ⟨p, hp, _, rfl⟩ := ptr_inv h
    obtain ⟨q, hq, _, rfl⟩ := ptr_inv h'
    rw [hp] at hq; cases hq
    exact ⟨_, rfl, rfl⟩

theorem chan_inv {m : Pm} {r : Option Nat} {v' : Value} (h : V m (.chan r) v') : ∃ r', v' = .chan r' ∧ r'.isNone = r.isNone ∧ ∀ n, r = some n → ∃ p, m n = some p ∧ r' = some p.blk := by
  cases h with
  | flat h => cases r with
    | none => exact ⟨_, rfl, rfl, fun _ h => by cases h⟩
    | some r => simp [flat] at h
  | chan h => exact ⟨_, rfl, rfl, fun _ e => by cases e; exact ⟨_, h, rfl⟩⟩

theorem same_chan {m : Pm} {a : Option Nat} {a' b' : Value} (h : V m (.chan a) a') (h' : V m (.chan a) b') : ∃ x, a' = .chan x ∧ b' = .chan x := by
  cases a with
  | none => exact ⟨_, flat_inv rfl h, flat_inv rfl h'⟩
  | some a =>
    obtain ⟨r, rfl, _, hr⟩ := chan_inv h
    obtain ⟨s, rfl, _, hs⟩ := chan_inv h'
    obtain ⟨p, hp, rfl⟩ := hr _ rfl
    obtain ⟨q, hq, rfl⟩ := hs _ rfl
    rw [hp] at hq; cases hq
    exact ⟨_, rfl, rfl⟩

theorem sameBits_V {m : Pm} : ∀ (n : Nat) (a b : Value), Instr.sameBits n a b = true → ∀ a' b', V m a a' → V m b b' → Instr.sameBits n a' b' = true := by
  intro n
  induction n with
  | zero =>
    intro a b h a' b' ha hb
    cases a <;> cases b <;> first
      | (simp only [Instr.sameBits] at h; cases h; done)
      | (cases ha <;> cases hb <;> first | exact h | (simp only [Instr.sameBits] at h; cases h; done))
      | (simp only [Instr.sameBits, beq_iff_eq] at h; subst h; obtain ⟨x, rfl, rfl⟩ := same_ptr ha hb; simp [Instr.sameBits]; done)
      | (simp only [Instr.sameBits, beq_iff_eq] at h; subst h; obtain ⟨x, rfl, rfl⟩ := same_chan ha hb; simp [Instr.sameBits]; done)
  | succ n ih =>
    intro a b h a' b' ha hb
    cases a <;> cases b <;> first
      | (simp only [Instr.sameBits] at h; cases h; done)
      | (simp only [Instr.sameBits, beq_iff_eq] at h; subst h; obtain ⟨x, rfl, rfl⟩ := same_ptr ha hb; simp [Instr.sameBits]; done)
      | (simp only [Instr.sameBits, beq_iff_eq] at h; subst h; obtain ⟨x, rfl, rfl⟩ := same_chan ha hb; simp [Instr.sameBits]; done)
      | (simp only [Instr.sameBits, Bool.and_eq_true] at h
         obtain ⟨u, rfl, hu⟩ := iface_inv ha
         obtain ⟨u', rfl, hu'⟩ := iface_inv hb
         simp only [Instr.sameBits, Bool.and_eq_true]
         exact ⟨h.1, ih _ _ h.2 _ _ hu hu'⟩)
      | (simp only [Instr.sameBits, Bool.and_eq_true] at h
         obtain ⟨u, rfl, hu⟩ := agg_inv ha
         obtain ⟨u', rfl, hu'⟩ := agg_inv hb
         simp only [Instr.sameBits, Bool.and_eq_true]
         have l1 := hu.length
         have l2 := hu'.length
         refine ⟨by simp at h l1 l2 ⊢; omega, ?_⟩
         rw [List.all_eq_true]
         rintro ⟨x', y'⟩ hm
         obtain ⟨i, hi⟩ := List.mem_iff_getElem?.1 hm
         obtain ⟨hx', hy'⟩ := List.getElem?_zip_eq_some.1 hi
         have k1 : i < u.toList.length := by rcases Nat.lt_or_ge i u.toList.length with q | q; exact q; rw [List.getElem?_eq_none q] at hx'; cases hx'
         have k2 : i < u'.toList.length := by rcases Nat.lt_or_ge i u'.toList.length with q | q; exact q; rw [List.getElem?_eq_none q] at hy'; cases hy'
         obtain ⟨z, z1, z2⟩ := hu.get i _ (List.getElem?_eq_getElem (by omega))
         obtain ⟨z', z1', z2'⟩ := hu'.get i _ (List.getElem?_eq_getElem (by omega))
         rw [hx'] at z1; cases z1
         rw [hy'] at z1'; cases z1'
         exact ih _ _ (all_zip _ _ h.2 i _ _ (List.getElem?_eq_getElem (by omega)) (List.getElem?_eq_getElem (by omega))) _ _ z2 z2')
      | (cases ha <;> cases hb <;> first | exact h | (simp only [Instr.sameBits] at h; cases h; done))

end
end Go.Em

namespace Go.Em
section
variable {cx : Cx}

theorem run_setObj {P : Program} {w : World} {r : Nat} {o o' : Go.Obj} (h : w.heap[r]? = some o') (hc : ∀ c e f, o' ≠ .cells c e f) :
    (setObj r o).run P w = .ok () { w with heap := w.heap.setIfInBounds r o } := by
  cases o' <;> first
    | exact absurd rfl (hc _ _ _)
    | simp only [setObj, Sem.run, h]

/-- A map is turned. -/
theorem turn_map {m : Pm} {h : Heap} {w : World} (S : Sim m h w) {r : Nat} {es es2 : List MapEntry} {clock clock2 : Nat} {p : Pl} {es' es2' : Array MapEntry} (hg : h.get r = some (.map es clock)) (hp : m r = some p)
    (hw : w.heap[p.blk]? = some (.map es' clock)) (he : Es m es2 es2'.toList) :
    Sim m (h.put r (some (.map es2 clock2))) { w with heap := w.heap.setIfInBounds p.blk (.map es2' clock2) } ∧ Stp m h w m (h.put r (some (.map es2 clock2))) { w with heap := w.heap.setIfInBounds p.blk (.map es2' clock2) } := by
  have hlt : p.blk < w.heap.size := by
    rcases Nat.lt_or_ge p.blk w.heap.size with q | q
    · exact q
    · simp [Array.getElem?_eq_none q] at hw
  refine S.turn hg rfl rfl hp (Heap.get_put _ _ _) rfl ⟨es2', ?_, he⟩ (fun k hk => ?_) (by simp) rfl rfl rfl
  · simp [hlt]
  · simp [Ne.symm hk]

theorem updateE_run (O : Ok cx) {m : Pm} {h h' : Heap} {w : World} (S : Sim m h w) {t : Nat} {x x' k k' v v' : Value} (hx : V m x x') (hk : V m k k') (hv : V m v v') (hu : updateE cx h t x k v = some h') :
    ∃ w', (Instr.mapUpdate t x' k' v').run cx.P w = .ok () w' ∧ Sim m h' w' ∧ Stp m h w m h' w' := by
  unfold updateE at hu
  split at hu
  · rename_i i r hi
    have hun := O.run_under hi w
    split at hu
    · rename_i kt et es clock hd hg
      rw [hd] at hun
      obtain ⟨p, hp, es', hw, he⟩ := S.live _ _ hg
      obtain ⟨r', rfl, _, hm⟩ := map_inv hx
      obtain ⟨q, hq, rfl⟩ := hm _ rfl
      rw [hp] at hq; cases hq
      have keyty : keyOk cx 60 kt k = true → ∃ ki, cx.ty kt = some ki := fun hko => by
        unfold keyOk at hko
        cases hc : cx.ty kt with
        | none => rw [hc] at hko; cases hko
        | some ki => exact ⟨ki, rfl⟩
      split at hu
      · rename_i j y hko hf
        split at hu
        · rename_i hsb
          cases hu
          obtain ⟨ki, hki⟩ := keyty hko
          have hchk := keyOk_run (w := w) (em := false) O 60 kt k k' hko hk 10000 (by omega)
          obtain ⟨r', h1, h2⟩ := findK_run O S hki hk he hf
          cases h2 with
          | some hvv =>
            have hsb' := sameBits_V 10000 _ _ hsb _ _ (he.keyAt hk j) hk
            obtain ⟨h3, h4⟩ := turn_map (clock2 := clock) (es2' := es'.modify j fun e => { e with key := k', val := v' }) S hg hp hw (by rw [Array.toList_modify]; exact he.mod hk hv j)
            refine ⟨_, ?_, h3, h4⟩
            have hsb2 : Instr.sameBits 10000 (((es'[j]?).map (·.key)).getD k') k' = true := by simpa using hsb'
            simp only [Instr.mapUpdate, Sem.run_bind, hun, Result.andThen_ok, run_getObj_map hw, hchk, h1, Instr.keyThatStays, hsb2, if_true, Sem.run_pure]
            exact run_setObj hw (by intro _ _ _ e; cases e)
        · cases hu
      · rename_i hko hf
        cases hu
        obtain ⟨ki, hki⟩ := keyty hko
        have hchk := keyOk_run (w := w) (em := false) O 60 kt k k' hko hk 10000 (by omega)
        obtain ⟨r', h1, h2⟩ := findK_run O S hki hk he hf
        cases h2 with
        | none =>
          obtain ⟨h3, h4⟩ := turn_map (clock2 := clock + 1) (es2' := es'.push { key := k', val := v', born := clock }) S hg hp hw (by simpa using he.append (.cons hk hv .nil))
          refine ⟨_, ?_, h3, h4⟩
          simp only [Instr.mapUpdate, Sem.run_bind, hun, Result.andThen_ok, run_getObj_map hw, hchk, h1]
          exact run_setObj hw (by intro _ _ _ e; cases e)
      · cases hu
    · cases hu
  · cases hu

theorem toList_eraseIdxIfInBounds {α : Type} (a : Array α) (i : Nat) : (a.eraseIdxIfInBounds i).toList = a.toList.eraseIdx i := by
  unfold Array.eraseIdxIfInBounds
  split
  · simp
  · rename_i h
    rw [List.eraseIdx_of_length_le (by simpa using h)]

theorem deleteE_run (O : Ok cx) {m : Pm} {h h' : Heap} {w : World} (S : Sim m h w) {t : Nat} {ts : Array Nat} {x x' k k' : Value} (hts : ts[0]? = some t) (hx : V m x x') (hk : V m k k') (hu : deleteE cx h t x k = some h') (ty : Nat) :
    ∃ w', (Builtin.delete_ ts ty #[x', k']).run cx.P w = .ok (.tuple #[]) w' ∧ Sim m h' w' ∧ Stp m h w m h' w' := by
  unfold deleteE at hu
  split at hu
  · rename_i i r hi
    have hun := O.run_under hi w
    split at hu
    · rename_i kt et es clock hd hg
      rw [hd] at hun
      obtain ⟨p, hp, es', hw, he⟩ := S.live _ _ hg
      obtain ⟨r', rfl, _, hm⟩ := map_inv hx
      obtain ⟨q, hq, rfl⟩ := hm _ rfl
      rw [hp] at hq; cases hq
      have keyty : keyOk cx 60 kt k = true → ∃ ki, cx.ty kt = some ki := fun hko => by
        unfold keyOk at hko
        cases hc : cx.ty kt with
        | none => rw [hc] at hko; cases hko
        | some ki => exact ⟨ki, rfl⟩
      split at hu
      · rename_i j y hko hf
        cases hu
        obtain ⟨ki, hki⟩ := keyty hko
        have hchk := keyOk_run (w := w) (em := es'.isEmpty) O 60 kt k k' hko hk 10000 (by omega)
        obtain ⟨r', h1, h2⟩ := findK_run O S hki hk he hf
        cases h2 with
        | some hvv =>
          obtain ⟨h3, h4⟩ := turn_map (clock2 := clock) (es2' := es'.eraseIdxIfInBounds j) S hg hp hw (by rw [toList_eraseIdxIfInBounds]; exact he.dropE j)
          refine ⟨_, ?_, h3, h4⟩
          have hs := run_setObj (P := cx.P) (o := .map (es'.eraseIdxIfInBounds j) clock) hw (by intro _ _ _ e; cases e)
          simp [Builtin.delete_, hts, hun, run_getObj_map hw, hchk, h1, hs]
      · rename_i hko hf
        cases hu
        obtain ⟨ki, hki⟩ := keyty hko
        have hchk := keyOk_run (w := w) (em := es'.isEmpty) O 60 kt k k' hko hk 10000 (by omega)
        obtain ⟨r', h1, h2⟩ := findK_run O S hki hk he hf
        cases h2 with
        | none =>
          obtain ⟨h3, h4⟩ := turn_map (clock2 := clock) (es2' := es') S hg hp hw he
          refine ⟨_, ?_, h3, h4⟩
          have hs := run_setObj (P := cx.P) (o := .map es' clock) hw (by intro _ _ _ e; cases e)
          simp [Builtin.delete_, hts, hun, run_getObj_map hw, hchk, h1, hs]
      · cases hu
    · cases hu
  · cases hu

theorem lenOp_run (O : Ok cx) {m : Pm} {h : Heap} {w : World} (S : Sim m h w) {t : Nat} {ts : Array Nat} {x x' v : Value} (hts : ts[0]? = some t) (hx : V m x x') (hl : lenOp cx h t x = some v) (ty : Nat) :
    (Builtin.len_ ts ty #[x']).run cx.P w = .ok v w ∧ flat v = true := by
  unfold lenOp at hl
  split at hl
  · cases hl
  · rename_i i hi
    have hun := O.run_under hi w
    generalize i.d = dd at hl hun
    split at hl
    · cases hl
      obtain rfl := string_inv hx
      simp [Builtin.len_, hts, hun, goInt, flat]
    · cases hl
      simp [Builtin.len_, hts, hun, goInt, flat]
    · split at hl
      · rename_i j hj
        have hun2 := O.run_under hj w
        split at hl
        · rename_i hd2
          cases hl; rw [hd2] at hun2
          simp [Builtin.len_, hts, hun, hun2, goInt, flat]
        · cases hl
      · cases hl
    · cases hl
      obtain ⟨b', c', rfl, _⟩ := slice_inv hx
      simp [Builtin.len_, hts, hun, goInt, flat]
    · cases hl
      obtain rfl := flat_inv rfl hx
      simp [Builtin.len_, hts, hun, goInt, flat]
    · rename_i r
      split at hl
      · rename_i es clock hg
        cases hl
        obtain ⟨p, hp, es', hw, he⟩ := S.live _ _ hg
        obtain ⟨r', rfl, _, hm⟩ := map_inv hx
        obtain ⟨q, hq, rfl⟩ := hm _ rfl
        rw [hp] at hq; cases hq
        have := he.length
        simp at this
        simp [Builtin.len_, hts, hun, run_getObj_map hw, goInt, flat, this]
      · cases hl
    · cases hl
      obtain rfl := flat_inv rfl hx
      simp [Builtin.len_, hts, hun, goInt, flat]
    · rename_i r
      split at hl
      · rename_i cap buf hg
        cases hl
        obtain ⟨p, hp, buf', s, r2, hw, he⟩ := S.live _ _ hg
        obtain ⟨r', rfl, _, hm⟩ := chan_inv hx
        obtain ⟨q, hq, rfl⟩ := hm _ rfl
        rw [hp] at hq; cases hq
        have := he.length
        simp at this
        have hget : (getObj p.blk).run cx.P w = .ok (.chan cap buf' false s r2 false) w := by simp [getObj, Sem.run, hw]
        simp [Builtin.len_, hts, hun, hget, goInt, flat, this]
      · cases hl
    · cases hl

theorem repl_length (z : List Value) : ∀ (n : Nat), (repl z n).length = n * z.length
  | 0 => by simp [repl]
  | n + 1 => by simp [repl, repl_length z n, Nat.succ_mul, Nat.add_comm]

theorem repl_get (z : List Value) (hz : 0 < z.length) : ∀ (n i : Nat), i < n * z.length → (repl z n)[i]? = z[i % z.length]?
  | 0, i, h => by simp at h
  | n + 1, i, h => by
    simp only [repl]
    by_cases hi : i < z.length
    · rw [List.getElem?_append_left hi, Nat.mod_eq_of_lt hi]
    · have e : i % z.length = (i - z.length) % z.length := Nat.mod_eq_sub_mod (by omega)
      rw [List.getElem?_append_right (by omega), repl_get z hz n (i - z.length) (by rw [Nat.succ_mul] at h; omega), e]

theorem zeroCells_repl (z : Array Value) (n : Nat) : (Builtin.zeroCells z n).toList = repl z.toList n := by
  apply List.ext_getElem?
  intro i
  by_cases h : i < n * z.size
  · have hz : 0 < z.size := by
      rcases Nat.eq_zero_or_pos z.size with e | e
      · rw [e] at h; simp at h
      · exact e
    have hm := Nat.mod_lt i hz
    rw [repl_get _ (by simpa using hz) _ _ (by simpa using h)]
    simp [Builtin.zeroCells, h, hm]
  · rw [List.getElem?_eq_none (by simp [Builtin.zeroCells]; omega), List.getElem?_eq_none (by rw [repl_length]; simp; omega)]

theorem Vs.repl {m : Pm} {z : List Value} (h : ∀ v ∈ z, flat v = true) : ∀ (n : Nat), Vs m (Em.repl z n) (Em.repl z n)
  | 0 => .nil
  | n + 1 => (Vs.of_flat h).append (Vs.repl h n)

theorem clearE_run (O : Ok cx) {m : Pm} {h h' : Heap} {w : World} (S : Sim m h w) {t : Nat} {ts : Array Nat} {x x' : Value} (hts : ts[0]? = some t) (hx : V m x x') (hl : clearE cx h t x = some h') (ty : Nat) :
    ∃ w', (Builtin.clear_ ts ty #[x']).run cx.P w = .ok (.tuple #[]) w' ∧ Sim m h' w' ∧ Stp m h w m h' w' := by
  unfold clearE at hl
  split at hl
  · cases hl
  · rename_i i hi
    have hun := O.run_under hi w
    generalize i.d = dd at hl hun
    split at hl
    · cases hl
      obtain rfl := flat_inv rfl hx
      refine ⟨w, ?_, S, .refl _ _ _⟩
      simp [Builtin.clear_, hts, hun]
    · rename_i r
      split at hl
      · rename_i es clock hg
        cases hl
        obtain ⟨p, hp, es', hw, he⟩ := S.live _ _ hg
        obtain ⟨r', rfl, _, hm⟩ := map_inv hx
        obtain ⟨q, hq, rfl⟩ := hm _ rfl
        rw [hp] at hq; cases hq
        obtain ⟨h3, h4⟩ := turn_map (clock2 := clock) (es2' := #[]) S hg hp hw .nil
        refine ⟨_, ?_, h3, h4⟩
        have hs := run_setObj (P := cx.P) (o := .map #[] clock) hw (by intro _ _ _ e; cases e)
        simp [Builtin.clear_, hts, hun, run_getObj_map hw, hs]
      · cases hl
    · cases hl
      obtain rfl := flat_inv rfl hx
      refine ⟨w, ?_, S, .refl _ _ _⟩
      simp [Builtin.clear_, hts, hun]
    · cases hl
      obtain ⟨b', c', rfl, _⟩ := slice_inv hx
      refine ⟨w, ?_, S, .refl _ _ _⟩
      cases b' <;> simp [Builtin.clear_, hts, hun]
    · rename_i a n c hne
      split at hl
      · rename_i j hj
        obtain ⟨hz1, _⟩ := O.zero _ _ hj
        obtain ⟨p, hp, hsp, w', hr, h1, h2⟩ := storeN_run (P := cx.P) S (Vs.repl hz1 n) hl
        have : ∃ c', x' = .slice (some ⟨p.blk, p.base + a.off, none⟩) n c' := by
          cases hx with
          | flat h => simp [flat] at h
          | sl hm _ => simp only at hp; rw [hm] at hp; cases hp; exact ⟨_, rfl⟩
          | slu hm _ => simp only at hp; rw [hm] at hp; cases hp; exact ⟨_, rfl⟩
        obtain ⟨c', rfl⟩ := this
        refine ⟨w', ?_, h1, h2⟩
        have hn : n ≠ 0 := fun e => hne e
        rw [← zeroCells_repl] at hr
        obtain ⟨n, rfl⟩ : ∃ k, n = k + 1 := ⟨n - 1, by omega⟩
        simp [Builtin.clear_, hts, hun, O.run_zero hj, hr]
      · cases hl
    · cases hl

end
end Go.Em

namespace Go.Em
section
variable {cx : Cx}

theorem lget_eq : ∀ (l : List Value) (i : Nat), lget l i = l.getD i undef
  | [], _ => by simp [lget]
  | v :: _, 0 => by simp [lget]
  | _ :: l, i + 1 => by simpa [lget] using lget_eq l i

theorem sameInt_eq {a b : Value} (h : sameInt a b = true) : b = a := by
  unfold sameInt at h
  split at h
  · split at h
    · rename_i hk _
      split at h
      · rename_i ha _; subst hk; subst ha; rfl
      · cases h
    · cases h
  · cases h

theorem allSame_get (v : Value) : ∀ (l : List Value), allSame v l = true → ∀ i, i < l.length → lget l i = v
  | [], _, i, h => by simp at h
  | x :: l, h, i, hi => by
    simp only [allSame] at h
    split at h
    · rename_i hx
      cases i with
      | zero => exact sameInt_eq hx
      | succ i => exact allSame_get v l h i (by simpa using hi)
    · cases h

theorem mkRow_spec (cs : List Value) (n elem esz : Nat) (hn : cs.length = n) : ∃ base, mkRow cs n elem esz = .row n base .nil elem esz false ∧ ∀ i, i < n → base i = lget cs i := by
  unfold mkRow
  split
  · exact ⟨_, rfl, fun _ _ => rfl⟩
  · split
    · exact ⟨_, rfl, fun _ _ => rfl⟩
    · rename_i v l
      split
      · rename_i hs
        exact ⟨_, rfl, fun i hi => (allSame_get v _ hs i (by omega)).symm⟩
      · exact ⟨_, rfl, fun _ _ => rfl⟩

theorem rowAt_nil (base : Nat → Value) (i : Nat) : rowAt base .nil i = base i := by simp [rowAt, Tr.get_nil]

/-- A new row of cells. -/
theorem new_row {m : Pm} {h : Heap} {w : World} (S : Sim m h w) {n elem esz e : Nat} {base : Nat → Value} {tr : Tr Value} {c : Array Value} (hn : n ≤ c.size) (hc : ∀ i, i < n → ∃ v', c[i]? = some v' ∧ V m (rowAt base tr i) v') :
    ∃ p, p.blk = w.heap.size ∧ p.base = 0 ∧ p.lim = c.size ∧ p.esz = (if esz = 0 then 1 else esz) ∧
      Sim (m.put h.nx p) (h.add (.row n base tr elem esz false)) (w.alloc (.cells c e (0, 0))) ∧ Stp m h w (m.put h.nx p) (h.add (.row n base tr elem esz false)) (w.alloc (.cells c e (0, 0))) := by
  refine ⟨⟨w.heap.size, 0, c.size, if esz = 0 then 1 else esz⟩, rfl, rfl, rfl, rfl, ?_⟩
  have hle := Pm.le_put (p := ⟨w.heap.size, 0, c.size, if esz = 0 then 1 else esz⟩) (S.fresh _ (Nat.le_refl _))
  refine S.new rfl ⟨c, e, (0, 0), ?_, fun _ => rfl, fun h0 => by simp [h0], hn, by simp, fun i hi => ?_⟩
  · show (w.heap.push _)[w.heap.size]? = _
    simp
  · obtain ⟨v', h1, h2⟩ := hc i hi
    exact ⟨v', by simpa using h1, h2.mono hle⟩

theorem Vs.lget {m : Pm} {l : List Value} {c : Array Value} (h : Vs m l c.toList) (i : Nat) (hi : i < l.length) : ∃ v', c[i]? = some v' ∧ V m (Em.lget l i) v' := by
  obtain ⟨v', h1, h2⟩ := h.get i l[i] (by simp [hi])
  rw [lget_eq]
  exact ⟨v', by simpa using h1, by simpa [hi] using h2⟩

theorem put_self {m : Pm} {n : Nat} {p : Pl} : (m.put n p) n = some p := by simp [Pm.put]

/-- A new row, made of a list. -/
theorem new_mkRow {m : Pm} {h : Heap} {w : World} (S : Sim m h w) {n elem esz e : Nat} {cs : List Value} {c : Array Value} (hn : cs.length = n) (hc : Vs m cs (c.toList.take n)) (hs : n ≤ c.size) :
    ∃ p, p.blk = w.heap.size ∧ p.base = 0 ∧ p.lim = c.size ∧ p.esz = (if esz = 0 then 1 else esz) ∧
      Sim (m.put h.nx p) (h.add (mkRow cs n elem esz)) (w.alloc (.cells c e (0, 0))) ∧ Stp m h w (m.put h.nx p) (h.add (mkRow cs n elem esz)) (w.alloc (.cells c e (0, 0))) := by
  obtain ⟨base, he, hb⟩ := mkRow_spec cs n elem esz hn
  rw [he]
  refine new_row S hs fun i hi => ?_
  rw [rowAt_nil, hb i hi]
  obtain ⟨v', h1, h2⟩ := hc.get i (cs[i]'(by omega)) (by simp)
  rw [lget_eq]
  refine ⟨v', ?_, by simpa [show i < cs.length by omega] using h2⟩
  rw [List.getElem?_take_of_lt hi] at h1
  simpa using h1

theorem lenE_run {P : Program} {m : Pm} {w : World} {x x' : Value} {n : Nat} (hx : V m x x') (h : lenE x = some n) : (Builtin.lenOf x').run P w = .ok n w := by
  unfold lenE at h
  split at h
  · cases h
    obtain ⟨b', c', rfl, _⟩ := slice_inv hx
    rfl
  · cases h
    obtain rfl := string_inv hx
    rfl
  · cases h

theorem slice_some {m : Pm} {a : Addr} {n c : Nat} {x' : Value} (hx : V m (.slice (some a) n c) x') : ∃ p, m a.block = some p ∧ a.spot = none ∧
    ((c ≠ unk ∧ x' = .slice (some ⟨p.blk, p.base + a.off, none⟩) n c) ∨ (c = unk ∧ 0 < p.esz ∧ x' = .slice (some ⟨p.blk, p.base + a.off, none⟩) n ((p.lim - a.off) / p.esz))) := by
  cases hx with
  | flat h => simp [flat] at h
  | sl hm hc => exact ⟨_, hm, rfl, .inl ⟨hc, rfl⟩⟩
  | slu hm hc => exact ⟨_, hm, rfl, .inr ⟨rfl, hc, rfl⟩⟩

theorem firstE_run {P : Program} {m : Pm} {h : Heap} {w : World} (S : Sim m h w) {size n : Nat} {x x' : Value} {l : List Value} (hx : V m x x') (hf : firstE h size n x = some l) :
    ∃ l' : Array Value, (Builtin.firstCells size n x').run P w = .ok l' w ∧ Vs m l l'.toList := by
  unfold firstE at hf
  split at hf
  · rename_i a _ _
    obtain ⟨p, hp, hsp, l', h1, h2⟩ := loadN_run (P := P) S hf
    obtain ⟨q, hq, _, h3⟩ := slice_some hx
    rw [hp] at hq; cases hq
    rcases h3 with ⟨_, rfl⟩ | ⟨_, _, rfl⟩ <;> exact ⟨l', h1, h2⟩
  · cases hf
    obtain rfl := flat_inv rfl hx
    exact ⟨#[], rfl, .nil⟩
  · cases hf
    obtain rfl := string_inv hx
    refine ⟨_, rfl, ?_⟩
    simp only [Array.toList_map]
    exact Vs.of_flat fun v hv => by
      obtain ⟨b, _, rfl⟩ := List.mem_map.1 hv
      rfl
  · cases hf

theorem nextslicecap_le {need cap : Nat} (h : cap < need) : Builtin.nextslicecap need cap ≤ 2 * need + 256 := by
  have key : ∀ (r c : Nat), c < need → Builtin.growBy need r c ≤ 2 * need + 256 := by
    intro r
    induction r with
    | zero => intro c hc; simp only [Builtin.growBy]; omega
    | succ r ih =>
      intro c hc
      simp only [Builtin.growBy]
      rw [if_neg (by omega)]
      by_cases hn : c + (c + 768) / 4 < need
      · exact ih _ hn
      · cases r with
        | zero => simp only [Builtin.growBy]; omega
        | succ r => simp only [Builtin.growBy]; rw [if_pos (by omega)]; omega
  unfold Builtin.nextslicecap
  split
  · omega
  · split
    · omega
    · exact key 4 cap h

/-- A row that is given up and grows in its place. -/
theorem Sim.regrow {m : Pm} {h : Heap} {w w' : World} (S : Sim m h w) {b : Nat} {o o' : Obj} {p q : Pl} (hb : h.get b = some o) (hz : roO o = false) (_ : roO o' = false) (hp : m b = some p) (hq : q.blk = p.blk)
    (ho : ObjR (m.put h.nx q) q w' o') (hw : ∀ k, k ≠ p.blk → w'.heap[k]? = w.heap[k]?) (hs : w'.heap.size = w.heap.size) (ht : w'.tape = w.tape) (hos : w'.os = w.os) (hout : w'.output = w.output) :
    Sim (m.put h.nx q) ((h.put b none).add o') w' ∧ Stp m h w (m.put h.nx q) ((h.put b none).add o') w' := by
  have hle : m.Le (m.put h.nx q) := Pm.le_put (S.fresh _ (Nat.le_refl _))
  have hget : ∀ k, ((h.put b none).add o').get k = if k = h.nx then some o' else if k = b then none else h.get k := fun k => by
    rw [Heap.get_add]
    show (if k = h.nx then some o' else (h.put b none).get k) = _
    rw [Heap.get_put]
  have hput : ∀ i r, (m.put h.nx q) i = some r → i ≠ h.nx → m i = some r := fun i r e hi => by
    unfold Pm.put at e; rwa [if_neg hi] at e
  have hother : ∀ i oi r, h.get i = some oi → m i = some r → i ≠ b → r.blk ≠ p.blk := fun i oi r h1 h2 h3 e => S.inj b i o oi p r hb h1 hp h2 (Ne.symm h3) e.symm
  refine ⟨⟨fun i hi => ?_, fun i oi hi => ?_, fun i j oi oj pi pj hi hj mi mj hne => ?_⟩, ?_⟩
  · have : h.nx + 1 ≤ i := hi
    unfold Pm.put
    rw [if_neg (by omega)]
    exact S.fresh i (by omega)
  · rw [hget] at hi
    split at hi
    · rename_i e; subst e; cases hi; exact ⟨q, put_self, ho⟩
    · split at hi
      · cases hi
      · rename_i e1 e2
        obtain ⟨r, hr1, hr2⟩ := S.live i oi hi
        exact ⟨r, hle _ _ hr1, (hr2.congr (hw _ (hother i oi r hi hr1 e2))).mono hle⟩
  · rw [hget] at hi hj
    split at hi <;> split at hj
    · rename_i e1 e2; exact absurd (e1.trans e2.symm) hne
    · rename_i e1 e2
      split at hj
      · cases hj
      · rename_i e3
        subst e1; rw [put_self] at mi; cases mi
        rw [hq]
        exact fun e => hother j oj pj hj (hput j _ mj e2) e3 e.symm
    · rename_i e1 e2
      split at hi
      · cases hi
      · rename_i e3
        subst e2; rw [put_self] at mj; cases mj
        rw [hq]
        exact hother i oi pi hi (hput i _ mi e1) e3
    · rename_i e1 e2
      split at hi
      · cases hi
      · split at hj
        · cases hj
        · exact S.inj i j oi oj pi pj hi hj (hput i _ mi e1) (hput j _ mj e2) hne
  · refine ⟨hle, fun i q hi e => hput i q e (by omega), Nat.le_succ _, Nat.le_of_eq hs.symm, fun z k hk ⟨i, oi, r, h1, h2, h3, h4⟩ => ?_, fun k _ hk => hw k (fun e => hk ⟨b, o, p, hb, fun _ => hz, hp, e.symm⟩), ht, hos, hout⟩
    rw [hget] at h1
    split at h1
    · rename_i e; subst e; rw [put_self] at h3; cases h3
      exact ⟨b, o, p, hb, fun _ => hz, hp, by rw [← hq]; exact h4⟩
    · split at h1
      · cases h1
      · rename_i e1 e2; exact ⟨i, oi, r, h1, h2, hput i _ h3 e1, h4⟩

/-- A row that is given up, a new one in its stead. -/
theorem Sim.renew {m : Pm} {h : Heap} {w : World} (S : Sim m h w) {b : Nat} {o : Obj} {x : Go.Obj} {p : Pl} (hp : p.blk = w.heap.size) (ho : ObjR (m.put h.nx p) p (w.alloc x) o) :
    Sim (m.put h.nx p) ((h.put b none).add o) (w.alloc x) ∧ Stp m h w (m.put h.nx p) ((h.put b none).add o) (w.alloc x) := by
  obtain ⟨h1, h2⟩ := S.new hp ho
  have hget : ∀ k, ((h.put b none).add o).get k = if k = h.nx then some o else if k = b then none else h.get k := fun k => by
    rw [Heap.get_add]
    show (if k = h.nx then some o else (h.put b none).get k) = _
    rw [Heap.get_put]
  have hsub : ∀ i oi, ((h.put b none).add o).get i = some oi → (h.add o).get i = some oi := fun i oi e => by
    rw [hget] at e
    rw [Heap.get_add]
    split at e
    · rename_i e1; rw [if_pos e1]; exact e
    · split at e
      · cases e
      · rename_i e1 e2; rw [if_neg e1]; exact e
  refine ⟨h1.sub hsub (Nat.le_refl _), ⟨h2.le, h2.ids, h2.nx, h2.size, fun z k hk ⟨i, oi, q, g1, g2, g3, g4⟩ => h2.own z k hk ⟨i, oi, q, hsub i oi g1, g2, g3, g4⟩, h2.keep, rfl, rfl, rfl⟩⟩

end
end Go.Em

namespace Go.Em
section
variable {cx : Cx}

structure AppendCx (P : Program) (ts : Array Nat) (st xt et size n : Nat) (d : TypeDesc) (info : TypeInfo) (zero x' : Value) : Prop where
  t0 : ts[0]? = some st
  t1 : ts[1]? = some xt
  under : ∀ w, (underlying st).run P w = .ok (.slice et) w
  underx : ∀ w, (underlying xt).run P w = .ok d w
  notInt : isIntD d = false
  size : ∀ w, (sizeOf et).run P w = .ok size w
  len : ∀ w, (Builtin.lenOf x').run P w = .ok n w
  info : ∀ w, (typeInfo et).run P w = .ok info w
  zero : ∀ w, (zeroValue et).run P w = .ok zero w

theorem append_fits {P : Program} {ts : Array Nat} {st xt et size n ty : Nat} {d : TypeDesc} {info : TypeInfo} {zero x' : Value} {w : World} (A : AppendCx P ts st xt et size n d info zero x') {b : Option Addr} {l c : Nat} (h : l + n ≤ c) :
    (Builtin.append_ ts ty #[.slice b l c, x']).run P w = ((Builtin.firstCells size n x').run P w).andThen fun new w1 => ((match b with
      | some a => storeCells (a.add (l * size)) new.toList
      | none => pure () : Sem Unit).run P w1).andThen fun _ w2 => .ok (.slice b (l + n) c) w2 := by
  have e0 : (#[Value.slice b l c, x'] : Array Value)[0]? = some (.slice b l c) := rfl
  have e1 : (#[Value.slice b l c, x'] : Array Value)[1]? = some x' := rfl
  have hux := A.underx
  have hni := A.notInt
  cases d <;> first
    | (cases hni; done)
    | (simp only [Builtin.append_, A.t0, A.t1, e0, e1, Sem.run_bind, A.under, hux, A.size, A.len, Result.andThen_ok, Sem.run_pure, Bool.false_eq_true, if_false, Bool.not_false, if_true, if_pos h]
       congr 1
       funext new w1
       cases b <;> simp only [Sem.run_bind, Sem.run_pure, Result.andThen_ok])

theorem append_grows {P : Program} {ts : Array Nat} {st xt et size n ty : Nat} {d : TypeDesc} {info : TypeInfo} {zero x' : Value} {w : World} (A : AppendCx P ts st xt et size n d info zero x') {b : Option Addr} {l c : Nat} (h : ¬ l + n ≤ c)
    (hb : info.bytes ≠ 0) (hs : ¬ Builtin.nextslicecap (l + n) c * info.bytes > 2 ^ 48) : ∃ cap, l + n ≤ cap ∧
    (Builtin.append_ ts ty #[.slice b l c, x']).run P w = ((Builtin.firstCells size l (.slice b l c)).run P w.drew).andThen fun old w1 => ((Builtin.firstCells size n x').run P w1).andThen fun new w2 =>
      .ok (.slice (some ⟨w2.heap.size, 0, none⟩) (l + n) cap) (w2.alloc (.cells (old ++ new ++ Builtin.zeroCells zero.cells (cap - (l + n))) et (0, 0))) := by
  have e0 : (#[Value.slice b l c, x'] : Array Value)[0]? = some (.slice b l c) := rfl
  have e1 : (#[Value.slice b l c, x'] : Array Value)[1]? = some x' := rfl
  have hux := A.underx
  have hni := A.notInt
  refine ⟨(Question.appendCap (l + n) c et).cut (w.tape w.drawn (Question.appendCap (l + n) c et)), by simp [Question.cut], ?_⟩
  have hq : (Question.appendCap (l + n) c et).forced = false := rfl
  cases d <;> first
    | (cases hni; done)
    | (simp only [Builtin.append_, A.t0, A.t1, e0, e1, Sem.run_bind, A.under, hux, A.size, A.len, A.info, A.zero, Result.andThen_ok, Sem.run_pure, Bool.false_eq_true, if_false, Bool.not_false, if_true, if_neg h, hb, or_false, and_false, if_neg hs,
        run_choose, hq, run_askRoom]
       rfl)

theorem Ok.run_info (O : Ok cx) {t : Nat} {i : Ty} (h : cx.ty t = some i) : ∃ x : TypeInfo, (∀ w, (typeInfo t).run cx.P w = .ok x w) ∧ x.bytes = i.bytes := by
  obtain ⟨x, hx, _, h2, _⟩ := O.info t i h
  exact ⟨x, fun w => by simp [typeInfo, hx], h2⟩

theorem Vs.of_append_left {m : Pm} {a a' b' : List Value} (h : Vs m a a') : Vs m a ((a' ++ b').take a.length) := by
  rw [List.take_append_of_le_length (by rw [h.length]; exact Nat.le_refl _), ← h.length, List.take_length]
  exact h

theorem loadN_total {h : Heap} {a : Addr} {size : Nat} {b : Nat → Value} {tr : Tr Value} {el esz : Nat} {ro : Bool} (hs : a.spot = none) (hg : h.get a.block = some (.row size b tr el esz ro)) {n : Nat} (hn : a.off + n ≤ size) :
    loadN h a n = some (cellsFrom b tr a.off n) := by
  unfold loadN
  rw [hs]
  simp only [hg]
  rw [Nat.ble_eq_true_of_le hn]

theorem cellsFrom_get (b : Nat → Value) (tr : Tr Value) : ∀ (n i k : Nat), k < n → (cellsFrom b tr i n)[k]? = some (rowAt b tr (i + k))
  | 0, _, _, h => by omega
  | n + 1, i, 0, _ => by simp [cellsFrom]
  | n + 1, i, k + 1, h => by
    simp only [cellsFrom, List.getElem?_cons_succ]
    rw [cellsFrom_get b tr n (i + 1) k (by omega), show i + 1 + k = i + (k + 1) from by omega]

theorem getD_append_right' {a b : List Value} {i : Nat} {d : Value} (h : a.length ≤ i) : (a ++ b).getD i d = b.getD (i - a.length) d := by
  rw [List.getD_eq_getElem?_getD, List.getElem?_append_right h, List.getD_eq_getElem?_getD]

theorem getD_append_left' {a b : List Value} {i : Nat} {d : Value} (h : i < a.length) : (a ++ b).getD i d = a.getD i d := by
  rw [List.getD_eq_getElem?_getD, List.getElem?_append_left h, List.getD_eq_getElem?_getD]

theorem V.ptr' {m : Pm} {a : Addr} {p : Pl} (hs : a.spot = none) (hp : m a.block = some p) : V m (.pointer (some a)) (.pointer (some ⟨p.blk, p.base + a.off, none⟩)) := by
  obtain ⟨b, o, s⟩ := a
  cases hs
  exact .ptr hp

theorem V.sl' {m : Pm} {a : Addr} {p : Pl} {n c : Nat} (hs : a.spot = none) (hp : m a.block = some p) (hc : c ≠ unk) : V m (.slice (some a) n c) (.slice (some ⟨p.blk, p.base + a.off, none⟩) n c) := by
  obtain ⟨b, o, s⟩ := a
  cases hs
  exact .sl hp hc

theorem V.slu' {m : Pm} {a : Addr} {p : Pl} {n : Nat} (hs : a.spot = none) (hp : m a.block = some p) (hc : 0 < p.esz) : V m (.slice (some a) n unk) (.slice (some ⟨p.blk, p.base + a.off, none⟩) n ((p.lim - a.off) / p.esz)) := by
  obtain ⟨b, o, s⟩ := a
  cases hs
  exact .slu hp hc

theorem zeroCells_size (z : Array Value) (n : Nat) : (Builtin.zeroCells z n).size = n * z.size := by simp [Builtin.zeroCells]

/-- The new row of an append, however it is laid. -/
theorem grow_row {m : Pm} {h : Heap} {w : World} (S : Sim m h w) {old new : List Value} {oldA newA z : Array Value} (ho : Vs m old oldA.toList) (hn : Vs m new newA.toList) {len n cap2 size el et : Nat} {base : Nat → Value} {tr : Tr Value}
    (h1 : old.length = len * size) (h2 : new.length = n * size) (hz : z.size = size) (hsz : size ≠ 0) (hcap : len + n ≤ cap2) (hform : ∀ i, i < (len + n) * size → rowAt base tr i = (old ++ new).getD i undef) :
    ∃ m', Sim m' (h.add (.row ((len + n) * size) base tr el size false)) (w.alloc (.cells (oldA ++ newA ++ Builtin.zeroCells z (cap2 - (len + n))) et (0, 0))) ∧
      Stp m h w m' (h.add (.row ((len + n) * size) base tr el size false)) (w.alloc (.cells (oldA ++ newA ++ Builtin.zeroCells z (cap2 - (len + n))) et (0, 0))) ∧
      V m' (.slice (some ⟨h.nx, 0, none⟩) (len + n) unk) (.slice (some ⟨w.heap.size, 0, none⟩) (len + n) cap2) := by
  have l1 := ho.length
  have l2 := hn.length
  simp only [Array.length_toList] at l1 l2
  have hsize : (oldA ++ newA ++ Builtin.zeroCells z (cap2 - (len + n))).size = cap2 * size := by
    simp only [Array.size_append, zeroCells_size, hz, l1, l2, h1, h2]
    rw [← Nat.add_mul, ← Nat.add_mul, Nat.add_sub_cancel' hcap]
  have hlen : (old ++ new).length = (len + n) * size := by simp [h1, h2, Nat.add_mul]
  obtain ⟨p, e1, e2, e3, e4, S', T'⟩ := new_row (w := w) (elem := el) (esz := size) (e := et) (base := base) (tr := tr) (c := oldA ++ newA ++ Builtin.zeroCells z (cap2 - (len + n))) S (by rw [hsize]; exact Nat.mul_le_mul_right _ hcap) (fun i hi => by
    rw [hform i hi]
    have hi' : i < (old ++ new).length := by rw [hlen]; exact hi
    obtain ⟨v', g1, g2⟩ := (ho.append hn).get i ((old ++ new)[i]) (by simp)
    refine ⟨v', ?_, by rw [List.getD_eq_getElem?_getD, List.getElem?_eq_getElem hi']; exact g2⟩
    have hlt : i < (oldA ++ newA).size := by simp only [Array.size_append, l1, l2, h1, h2]; rw [← Nat.add_mul]; exact hi
    rw [Array.getElem?_append_left hlt]
    rw [← Array.getElem?_toList, Array.toList_append]
    exact g1)
  refine ⟨_, S', T', ?_⟩
  have hp : 0 < p.esz := by rw [e4, if_neg hsz]; omega
  have := V.slu' (m := m.put h.nx p) (a := ⟨h.nx, 0, none⟩) (p := p) (n := len + n) rfl put_self hp
  have hc : (p.lim - 0) / p.esz = cap2 := by
    rw [e3, e4, if_neg hsz, hsize, Nat.sub_zero, Nat.mul_div_cancel _ (by omega)]
  rw [e1, e2] at this
  simp only [Nat.zero_add] at this
  rw [hc] at this
  exact this

/-- The new row of an append. -/
theorem grow_new {m : Pm} {h : Heap} {w : World} (S : Sim m h w) {old new : List Value} {oldA newA z : Array Value} (ho : Vs m old oldA.toList) (hn : Vs m new newA.toList) {len n cap2 size el et : Nat}
    (h1 : old.length = len * size) (h2 : new.length = n * size) (hz : z.size = size) (hsz : size ≠ 0) (hcap : len + n ≤ cap2) :
    ∃ m', Sim m' (h.add (mkRow (old ++ new) ((len + n) * size) el size)) (w.alloc (.cells (oldA ++ newA ++ Builtin.zeroCells z (cap2 - (len + n))) et (0, 0))) ∧
      Stp m h w m' (h.add (mkRow (old ++ new) ((len + n) * size) el size)) (w.alloc (.cells (oldA ++ newA ++ Builtin.zeroCells z (cap2 - (len + n))) et (0, 0))) ∧
      V m' (.slice (some ⟨h.nx, 0, none⟩) (len + n) unk) (.slice (some ⟨w.heap.size, 0, none⟩) (len + n) cap2) := by
  obtain ⟨base, he, hb⟩ := mkRow_spec (old ++ new) ((len + n) * size) el size (by simp [h1, h2, Nat.add_mul])
  rw [he]
  exact grow_row S ho hn h1 h2 hz hsz hcap fun i hi => by rw [rowAt_nil, hb i hi, lget_eq]

/-- The same where the row was given up. -/
theorem drop_first {m m' : Pm} {h : Heap} {o : Obj} {w w' : World} (h1 : Sim m' (h.add o) w') (h2 : Stp m h w m' (h.add o) w') (b : Nat) : Sim m' ((h.put b none).add o) w' ∧ Stp m h w m' ((h.put b none).add o) w' := by
  have hget : ∀ k, ((h.put b none).add o).get k = if k = h.nx then some o else if k = b then none else h.get k := fun k => by
    rw [Heap.get_add]
    show (if k = h.nx then some o else (h.put b none).get k) = _
    rw [Heap.get_put]
  have hsub : ∀ i oi, ((h.put b none).add o).get i = some oi → (h.add o).get i = some oi := fun i oi e => by
    rw [hget] at e
    rw [Heap.get_add]
    split at e
    · rename_i e1; rw [if_pos e1]; exact e
    · split at e
      · cases e
      · rename_i e1 e2; rw [if_neg e1]; exact e
  exact ⟨h1.sub hsub (Nat.le_refl _), ⟨h2.le, h2.ids, h2.nx, h2.size, fun z k hk ⟨i, oi, q, g1, g2, g3, g4⟩ => h2.own z k hk ⟨i, oi, q, hsub i oi g1, g2, g3, g4⟩, h2.keep, h2.tape, h2.os, h2.output⟩⟩

theorem Stp.draw {m m' : Pm} {h h' : Heap} {w w' : World} (T : Stp m h w.drew m' h' w') : Stp m h w m' h' w' :=
  ⟨T.le, T.ids, T.nx, T.size, T.own, T.keep, T.tape, T.os, T.output⟩

/-- append. -/
theorem appendE_run (O : Ok cx) {m : Pm} {h h' : Heap} {w : World} (S : Sim m h w) {ts : Array Nat} {s x s' x' v : Value} (hs : V m s s') (hx : V m x x') (ha : appendE cx h ts.toList s x = some (v, h')) (ty : Nat) :
    ∃ m' w' v', (Builtin.append_ ts ty #[s', x']).run cx.P w = .ok v' w' ∧ Sim m' h' w' ∧ Stp m h w m' h' w' ∧ V m' v v' := by
  unfold appendE at ha
  split at ha
  · rename_i st xt base len cap hts
    have t0 : ts[0]? = some st := by rw [← Array.getElem?_toList, hts]; rfl
    have t1 : ts[1]? = some xt := by rw [← Array.getElem?_toList, hts]; rfl
    split at ha
    · rename_i i xi hi hxi
      split at ha
      · rename_i et hd hni
        split at ha
        · rename_i e n he hn
          split at ha
          · rename_i new hnew hbig hb0 hsz
            obtain ⟨info, hinfo, hib⟩ := O.run_info he
            have A : AppendCx cx.P ts st xt et e.size n xi.d info e.zero x' :=
              ⟨t0, t1, fun w => hd ▸ O.run_under hi w, O.run_under hxi, hni, O.run_size he, fun w => lenE_run hx hn, hinfo, O.run_zero he⟩
            have hsz' : e.size ≠ 0 := fun e0 => by rw [e0] at hsz; cases hsz
            have hb0' : e.bytes ≠ 0 := fun e0 => by rw [e0] at hb0; cases hb0
            have hbig' := Nat.le_of_ble_eq_true hbig
            have hcapok : ∀ c, c < len + n → ¬ Builtin.nextslicecap (len + n) c * info.bytes > 2 ^ 48 := fun c hc => by
              have h1 := nextslicecap_le hc
              have h2 := Nat.mul_le_mul_right info.bytes h1
              rw [hib] at h2 ⊢
              omega
            split at ha
            · cases ha
            · rename_i hlen hcap
              have newLen := Nat.eq_of_beq_eq_true hlen
              have hcap' : cap ≠ unk := fun e0 => by rw [e0] at hcap; simp at hcap
              split at ha
              · rename_i hfit
                have hfit' := Nat.le_of_ble_eq_true hfit
                split at ha
                · rename_i a
                  split at ha
                  · rename_i h2 hst
                    cases ha
                    obtain ⟨p, hp, hsp, hc⟩ := slice_some hs
                    rcases hc with ⟨_, rfl⟩ | ⟨e0, _⟩
                    · obtain ⟨new', hr1, hV1⟩ := firstE_run (P := cx.P) S hx hnew
                      obtain ⟨q, hq, _, w', hr2, S2, T2⟩ := storeN_run (P := cx.P) S hV1 hst
                      have hq' : m a.block = some q := hq
                      rw [hp] at hq'; cases hq'
                      refine ⟨m, w', _, ?_, S2, T2, .sl' hsp hp hcap'⟩
                      rw [append_fits A hfit', hr1]
                      simp only [Result.andThen_ok, addr_add]
                      have : (⟨p.blk, p.base + (addOff a (len * e.size)).off, none⟩ : Addr) = ⟨p.blk, p.base + a.off + len * e.size, none⟩ := by simp [addOff, Nat.add_assoc]
                      rw [this] at hr2
                      rw [hr2]
                      simp only [Result.andThen_ok]
                    · exact absurd e0 hcap'
                  · cases ha
                · cases ha
                  obtain rfl := flat_inv rfl hs
                  obtain ⟨new', hr1, hV1⟩ := firstE_run (P := cx.P) S hx hnew
                  refine ⟨m, w, _, ?_, S, .refl _ _ _, .flat rfl⟩
                  rw [append_fits A hfit', hr1]
                  simp only [Result.andThen_ok, Sem.run_pure]
              · rename_i hfit
                have hfit' : ¬ len + n ≤ cap := fun e0 => by rw [Nat.ble_eq_true_of_le e0] at hfit; cases hfit
                split at ha
                · rename_i old hold
                  split at ha
                  · rename_i holdlen
                    have holdlen' := Nat.eq_of_beq_eq_true holdlen
                    cases ha
                    have : ∃ bb, s' = .slice bb len cap := by
                      cases base with
                      | none => exact ⟨none, flat_inv rfl hs⟩
                      | some a =>
                        obtain ⟨p, hp, hsp, hc⟩ := slice_some hs
                        rcases hc with ⟨_, e0⟩ | ⟨e0, _⟩
                        · exact ⟨_, e0⟩
                        · exact absurd e0 hcap'
                    obtain ⟨bb, rfl⟩ := this
                    obtain ⟨oldA, hr1, hV1⟩ := firstE_run (P := cx.P) S.drew hs hold
                    obtain ⟨newA, hr2, hV2⟩ := firstE_run (P := cx.P) S.drew hx hnew
                    obtain ⟨cap2, hc2, hrun⟩ := append_grows (ty := ty) (w := w) (b := bb) A hfit' (by rw [hib]; exact hb0') (hcapok cap (by omega))
                    rw [hr1] at hrun
                    simp only [Result.andThen_ok] at hrun
                    rw [hr2] at hrun
                    simp only [Result.andThen_ok] at hrun
                    obtain ⟨m', S', T', V'⟩ := grow_new (el := et) (et := et) (z := e.zero.cells) S.drew hV1 hV2 holdlen' newLen (O.zsize _ _ he) hsz' hc2
                    exact ⟨m', _, _, hrun, S', T'.draw, V'⟩
                  · cases ha
                · cases ha
            · rename_i hlen hcap
              have newLen := Nat.eq_of_beq_eq_true hlen
              have hcap' : cap = unk := Nat.eq_of_beq_eq_true hcap
              subst hcap'
              split at ha
              · cases ha
              · rename_i a
                obtain ⟨p, hp, hsp, hc⟩ := slice_some hs
                rcases hc with ⟨e0, _⟩ | ⟨_, hesz, rfl⟩
                · exact absurd rfl e0
                · split at ha
                  · rename_i size b tr el esz _ hg
                    obtain ⟨p', hp', hr⟩ := S.live _ _ hg
                    rw [hp] at hp'; cases hp'
                    have hr0 := hr
                    obtain ⟨c, ce, fz, k1, k2, k3, k4, k5, k6⟩ := hr
                    obtain rfl := k2 rfl
                    split at ha
                    · -- there is room among the cells that are known
                      rename_i g1 g2 g3
                      have g1' : esz = e.size := Nat.eq_of_beq_eq_true g1
                      have g2' := Nat.le_of_ble_eq_true g2
                      cases ha
                      have hpe : p.esz = e.size := by rw [← g1']; exact k3 (by rw [g1']; exact hsz')
                      have hfit : len + n ≤ (p.lim - a.off) / p.esz := by
                        rw [hpe, Nat.le_div_iff_mul_le (by omega)]
                        omega
                      obtain ⟨newA, hr1, hV1⟩ := firstE_run (P := cx.P) S hx hnew
                      obtain ⟨w', hrun, ho, hoth, hsize, ht, hos, hout⟩ := row_write (P := cx.P) hr0 hV1 g3 (a.off + len * e.size) (by rw [newLen]; rw [Nat.add_mul] at g2'; omega)
                      obtain ⟨S2, T2⟩ := S.turn hg rfl rfl hp (Heap.get_putAt _ _ _ _ _) rfl ho hoth hsize ht hos hout
                      refine ⟨m, w', _, ?_, S2, T2, .slu' hsp hp hesz⟩
                      rw [append_fits A hfit, hr1]
                      simp only [Result.andThen_ok, addr_add]
                      rw [show p.base + a.off + len * e.size = p.base + (a.off + len * e.size) from by omega, hrun]
                      simp only [Result.andThen_ok]
                    · -- the row is given up
                      rename_i g1 g2 g3 g4
                      have g1' : esz = e.size := Nat.eq_of_beq_eq_true g1
                      have g4' := Nat.le_of_ble_eq_true g4
                      have hpe : p.esz = e.size := by rw [← g1']; exact k3 (by rw [g1']; exact hsz')
                      have hold : firstE h e.size len (.slice (some a) len unk) = some (cellsFrom b tr a.off (len * e.size)) := loadN_total hsp hg g4'
                      have oldlen : (cellsFrom b tr a.off (len * e.size)).length = len * e.size := cellsFrom_length _ _ _ _
                      -- the two forms of the row behind it
                      have form : ∃ base2 tr2, ((h.put a.block none).add (.row ((len + n) * e.size) base2 tr2 el esz false)) = h' ∧ v = .slice (some ⟨h.nx, 0, none⟩) (len + n) unk ∧
                          ∀ i, i < (len + n) * e.size → rowAt base2 tr2 i = (cellsFrom b tr a.off (len * e.size) ++ new).getD i undef := by
                        split at ha
                        · rename_i hz
                          have hz' : a.off = 0 := Nat.eq_of_beq_eq_true hz
                          cases ha
                          refine ⟨b, _, rfl, rfl, fun i hi => ?_⟩
                          rw [rowAt_setCells]
                          by_cases hin : len * e.size ≤ i ∧ i < len * e.size + new.length
                          · rw [if_pos hin, getD_append_right' (by rw [oldlen]; exact hin.1), oldlen]
                          · rw [if_neg hin]
                            have hlt : i < len * e.size := by rw [newLen] at hin; rw [Nat.add_mul] at hi; omega
                            rw [getD_append_left' (by rw [oldlen]; exact hlt)]
                            rw [List.getD_eq_getElem?_getD, cellsFrom_get b tr _ _ _ hlt, hz', Nat.zero_add]
                            rfl
                        · cases ha
                          obtain ⟨base2, he2, hb2⟩ := mkRow_spec (cellsFrom b tr a.off (len * e.size) ++ new) ((len + n) * e.size) el esz (by simp [oldlen, newLen, Nat.add_mul])
                          rw [he2]
                          exact ⟨base2, .nil, rfl, rfl, fun i hi => by rw [rowAt_nil, hb2 i hi, lget_eq]⟩
                      obtain ⟨base2, tr2, rfl, rfl, hform⟩ := form
                      by_cases hfit : len + n ≤ (p.lim - a.off) / p.esz
                      · -- it grows in its place
                        obtain ⟨newA, hr1, hV1⟩ := firstE_run (P := cx.P) S hx hnew
                        have nl := hV1.length
                        have hfit' : (len + n) * e.size ≤ p.lim - a.off := by rw [hpe, Nat.le_div_iff_mul_le (by omega)] at hfit; exact hfit
                        have hin : a.off + len * e.size + n * e.size ≤ p.lim := by
                          rw [Nat.add_mul] at hfit'
                          omega
                        obtain ⟨w', hrun, ⟨c', kc1, kc2, kc3⟩, hoth, hsize, ht, hos, hout⟩ := storeCells_run (P := cx.P) newA.toList 0 w p.blk (p.base + (a.off + len * e.size)) c ce k1 (hV1.allCells ▸ g3) (by rw [nl, newLen]; omega)
                        have hle : m.Le (m.put h.nx ⟨p.blk, p.base + a.off, p.lim - a.off, p.esz⟩) := Pm.le_put (S.fresh _ (Nat.le_refl _))
                        obtain ⟨S2, T2⟩ := S.regrow (w' := w') (o' := .row ((len + n) * e.size) base2 tr2 el esz false) (q := ⟨p.blk, p.base + a.off, p.lim - a.off, p.esz⟩) hg rfl rfl hp rfl
                          ⟨c', ce, (0, 0), kc1, fun _ => rfl, k3, hfit', by simp only; omega, fun i hi => by
                            rw [hform i hi]
                            simp only
                            rw [kc3]
                            by_cases hi2 : len * e.size ≤ i
                            · rw [if_pos (by rw [nl, newLen]; rw [Nat.add_mul] at hi; omega), getD_append_right' (by rw [oldlen]; exact hi2), oldlen]
                              have hlt : i - len * e.size < new.length := by rw [newLen]; rw [Nat.add_mul] at hi; omega
                              obtain ⟨v', q1, q2⟩ := hV1.get (i - len * e.size) new[i - len * e.size] (by simp [hlt])
                              refine ⟨v', ?_, ?_⟩
                              · rw [show p.base + a.off + i - (p.base + (a.off + len * e.size) + 0) = i - len * e.size from by omega]; exact q1
                              · rw [List.getD_eq_getElem?_getD, List.getElem?_eq_getElem hlt]; exact q2.mono hle
                            · have hlt : i < len * e.size := by omega
                              rw [if_neg (by omega), getD_append_left' (by rw [oldlen]; exact hlt)]
                              obtain ⟨v', q1, q2⟩ := k6 (a.off + i) (by omega)
                              refine ⟨v', by rw [show p.base + a.off + i = p.base + (a.off + i) from by omega]; exact q1, ?_⟩
                              rw [List.getD_eq_getElem?_getD, cellsFrom_get b tr _ _ _ hlt]
                              exact q2.mono hle⟩ hoth hsize ht hos hout
                        have hV := @V.slu (m.put h.nx ⟨p.blk, p.base + a.off, p.lim - a.off, p.esz⟩) h.nx 0 (len + n) ⟨p.blk, p.base + a.off, p.lim - a.off, p.esz⟩ put_self hesz
                        simp only [Nat.add_zero, Nat.sub_zero] at hV
                        refine ⟨_, w', .slice (some ⟨p.blk, p.base + a.off, none⟩) (len + n) ((p.lim - a.off) / p.esz), ?_, S2, T2, hV⟩
                        · rw [append_fits A hfit, hr1]
                          simp only [Result.andThen_ok, addr_add]
                          rw [show p.base + a.off + len * e.size = p.base + (a.off + len * e.size) from by omega, hrun]
                          simp
                      · obtain ⟨oldA, hr1, hV1⟩ := firstE_run (P := cx.P) S.drew hs hold
                        obtain ⟨newA, hr2, hV2⟩ := firstE_run (P := cx.P) S.drew hx hnew
                        obtain ⟨cap2, hc2, hrun⟩ := append_grows (ty := ty) (w := w) (b := some ⟨p.blk, p.base + a.off, none⟩) A hfit (by rw [hib]; exact hb0') (hcapok _ (by omega))
                        rw [hr1] at hrun
                        simp only [Result.andThen_ok] at hrun
                        rw [hr2] at hrun
                        simp only [Result.andThen_ok] at hrun
                        subst g1'
                        obtain ⟨m', S', T', V'⟩ := grow_row (el := el) (et := et) (z := e.zero.cells) S.drew hV1 hV2 oldlen newLen (O.zsize _ _ he) hsz' hc2 hform
                        obtain ⟨S2, T2⟩ := drop_first S' T' a.block
                        exact ⟨m', _, _, hrun, S2, T2.draw, V'⟩
                    · cases ha
                  · cases ha
          · cases ha
        · cases ha
      · cases ha
    · cases ha
  · cases ha

end
end Go.Em
