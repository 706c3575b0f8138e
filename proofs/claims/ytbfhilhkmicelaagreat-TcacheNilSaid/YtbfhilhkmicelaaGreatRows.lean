/-
  No cell of these rows narrows 'for every input' (looked for: loops, veiled, ifaces, maps, wideKeys, modest, calm, conditions, laid).
  DERIVED. THE GIVEN ROWS OF THIS SEAT. 6 by the template 'for every input the law returns true; each argument reads behind the call as it read before'; 0 by the template 'total and deterministic' (their statements: YtbfhilhkmicelaaGreatTotals.lean).
  GIVEN WITH THE SEED: the statements are not yours to turn. If you find one false, say at which input.
  Laid BY PROGRAM, IN A SANDBOX (cutbox-rows.mjs): the forced cells as the released guide's own fill.sh prints them over the translation 7992b2f3d9a191bb… (all of the seat's roots in one cut). By AI agents, Wed Nov 11 2026. No macro, syntax, notation, axiom, sorry.
-/
import Derived.Test.YtbfhilhkmicelaaGreatChecked
import GoSem.Claim
import GoSem.ClaimJoined
import GoSem.ClaimMapViews
import Derived.JoinedTies
import Derived.KernelRfl
namespace Go.Proofs.YtbfhilhkmicelaaGreat
/- THE CELL 'sum', in the pinned program and in every row, IS THE sha256 OF THE DUMP (.gsa) THAT YtbfhilhkmicelaaGreatProg.lean LOADS. Nothing in Lean hashes anything: it is a label: what it is worth is what the hold of that sum in a sandbox is worth. -/
noncomputable def Tryz.pinned : Pinned := { name := "ytbfhilhkmicelaagreat", sum := "7992b2f3d9a191bb2aa997d5c78cbca1a83e8cb7b01a4021517bb7d41d6cd0d2", checked := Tryz.checked }
namespace Rows
def none {H : Type} : Left H := { results := [], args := [] }

/-- 'drawloomlaw20.TransNames': WHATEVER THE INPUT: true; the input reads as it did. -/
def transNamesSpec : ChangeSpec := { name := "transNames", fn := fun _ => fun
  | [] => { results := [.lit (.bool true)], args := [] }
  | _ => none }
def transNamesRow : OpenClaim := { program := "ytbfhilhkmicelaagreat", sum := "7992b2f3d9a191bb2aa997d5c78cbca1a83e8cb7b01a4021517bb7d41d6cd0d2", func := "drawloom/drawloomlaw20.TransNames", spec := "transNames", unfollowed := true, recurses := true, plainKeys := false, apart := false }
def TransNamesSaid : Prop := transNamesRow.holds Tryz.pinned (OpenSpec.ofChange transNamesSpec)

/-- ITS FALSE NEIGHBOUR: 'it returns false'. Refute it at one input. -/
def transNamesWrong : ChangeSpec := { name := "transNames", fn := fun _ => fun
  | [] => { results := [.lit (.bool false)], args := [] }
  | _ => none }
def TransNamesWrongFalsely : Prop := transNamesRow.holds Tryz.pinned (OpenSpec.ofChange transNamesWrong)

/-- 'drawloomlaw20.TransNil': WHATEVER THE INPUT: true; the input reads as it did. -/
def transNilSpec : ChangeSpec := { name := "transNil", fn := fun _ => fun
  | [d1, d2] => { results := [.lit (.bool true)], args := [d1, d2] }
  | _ => none }
def transNilRow : OpenClaim := { program := "ytbfhilhkmicelaagreat", sum := "7992b2f3d9a191bb2aa997d5c78cbca1a83e8cb7b01a4021517bb7d41d6cd0d2", func := "drawloom/drawloomlaw20.TransNil", spec := "transNil", unfollowed := true, recurses := true, plainKeys := false, apart := false }
def TransNilSaid : Prop := transNilRow.holds Tryz.pinned (OpenSpec.ofChange transNilSpec)

/-- ITS FALSE NEIGHBOUR: 'it returns false'. Refute it at one input. -/
def transNilWrong : ChangeSpec := { name := "transNil", fn := fun _ => fun
  | [d1, d2] => { results := [.lit (.bool false)], args := [d1, d2] }
  | _ => none }
def TransNilWrongFalsely : Prop := transNilRow.holds Tryz.pinned (OpenSpec.ofChange transNilWrong)

/-- 'drawloomlaw21.TcacheNames': WHATEVER THE INPUT: true; the input reads as it did. -/
def tcacheNamesSpec : ChangeSpec := { name := "tcacheNames", fn := fun _ => fun
  | [] => { results := [.lit (.bool true)], args := [] }
  | _ => none }
def tcacheNamesRow : OpenClaim := { program := "ytbfhilhkmicelaagreat", sum := "7992b2f3d9a191bb2aa997d5c78cbca1a83e8cb7b01a4021517bb7d41d6cd0d2", func := "drawloom/drawloomlaw21.TcacheNames", spec := "tcacheNames", unfollowed := true, recurses := true, plainKeys := false, apart := false }
def TcacheNamesSaid : Prop := tcacheNamesRow.holds Tryz.pinned (OpenSpec.ofChange tcacheNamesSpec)

/-- ITS FALSE NEIGHBOUR: 'it returns false'. Refute it at one input. -/
def tcacheNamesWrong : ChangeSpec := { name := "tcacheNames", fn := fun _ => fun
  | [] => { results := [.lit (.bool false)], args := [] }
  | _ => none }
def TcacheNamesWrongFalsely : Prop := tcacheNamesRow.holds Tryz.pinned (OpenSpec.ofChange tcacheNamesWrong)

/-- 'drawloomlaw21.TcacheNil': WHATEVER THE INPUT: true; the input reads as it did. -/
def tcacheNilSpec : ChangeSpec := { name := "tcacheNil", fn := fun _ => fun
  | [d1, d2] => { results := [.lit (.bool true)], args := [d1, d2] }
  | _ => none }
def tcacheNilRow : OpenClaim := { program := "ytbfhilhkmicelaagreat", sum := "7992b2f3d9a191bb2aa997d5c78cbca1a83e8cb7b01a4021517bb7d41d6cd0d2", func := "drawloom/drawloomlaw21.TcacheNil", spec := "tcacheNil", unfollowed := true, recurses := true, plainKeys := false, apart := false }
def TcacheNilSaid : Prop := tcacheNilRow.holds Tryz.pinned (OpenSpec.ofChange tcacheNilSpec)

/-- ITS FALSE NEIGHBOUR: 'it returns false'. Refute it at one input. -/
def tcacheNilWrong : ChangeSpec := { name := "tcacheNil", fn := fun _ => fun
  | [d1, d2] => { results := [.lit (.bool false)], args := [d1, d2] }
  | _ => none }
def TcacheNilWrongFalsely : Prop := tcacheNilRow.holds Tryz.pinned (OpenSpec.ofChange tcacheNilWrong)

/-- 'drawloomlaw22.MachineNames': WHATEVER THE INPUT: true; the input reads as it did. -/
def machineNamesSpec : ChangeSpec := { name := "machineNames", fn := fun _ => fun
  | [] => { results := [.lit (.bool true)], args := [] }
  | _ => none }
def machineNamesRow : OpenClaim := { program := "ytbfhilhkmicelaagreat", sum := "7992b2f3d9a191bb2aa997d5c78cbca1a83e8cb7b01a4021517bb7d41d6cd0d2", func := "drawloom/drawloomlaw22.MachineNames", spec := "machineNames", unfollowed := true, recurses := true, plainKeys := false, apart := false }
def MachineNamesSaid : Prop := machineNamesRow.holds Tryz.pinned (OpenSpec.ofChange machineNamesSpec)

/-- ITS FALSE NEIGHBOUR: 'it returns false'. Refute it at one input. -/
def machineNamesWrong : ChangeSpec := { name := "machineNames", fn := fun _ => fun
  | [] => { results := [.lit (.bool false)], args := [] }
  | _ => none }
def MachineNamesWrongFalsely : Prop := machineNamesRow.holds Tryz.pinned (OpenSpec.ofChange machineNamesWrong)

/-- 'drawloomlaw22.MachineNil': WHATEVER THE INPUT: true; the input reads as it did. -/
def machineNilSpec : ChangeSpec := { name := "machineNil", fn := fun _ => fun
  | [d1, d2] => { results := [.lit (.bool true)], args := [d1, d2] }
  | _ => none }
def machineNilRow : OpenClaim := { program := "ytbfhilhkmicelaagreat", sum := "7992b2f3d9a191bb2aa997d5c78cbca1a83e8cb7b01a4021517bb7d41d6cd0d2", func := "drawloom/drawloomlaw22.MachineNil", spec := "machineNil", unfollowed := true, recurses := true, plainKeys := false, apart := false }
def MachineNilSaid : Prop := machineNilRow.holds Tryz.pinned (OpenSpec.ofChange machineNilSpec)

/-- ITS FALSE NEIGHBOUR: 'it returns false'. Refute it at one input. -/
def machineNilWrong : ChangeSpec := { name := "machineNil", fn := fun _ => fun
  | [d1, d2] => { results := [.lit (.bool false)], args := [d1, d2] }
  | _ => none }
def MachineNilWrongFalsely : Prop := machineNilRow.holds Tryz.pinned (OpenSpec.ofChange machineNilWrong)

/- THE SECOND FORM. 'bulk': how many values and letters a reading holds, each counted each time it is reached (what is shared counts as often as it is met; a slice's spare places count too). A statement '..UptoSaid' is the law's where the arguments, and the package variables that the reading takes, are together of bulk at most 1048576: NARROWER than '..Said'. Prove '..Said' where nothing that the law and all that it calls make is longer than what came in: it says more and counts as full. Else prove '..UptoSaid'. A law counts once. -/
mutual
def uptoBulk {H : Type} : DataW H → Nat
  | .lit (.string bytes) => bytes.length + 1
  | .lit _ => 1
  | .nil => 1
  | .ptr d => uptoBulk d + 1
  | .slice elems spare => uptoBulkAll elems + uptoBulkAll spare + 1
  | .agg parts => uptoBulkAll parts + 1
  | .iface _ d => uptoBulk d + 1
  | .map entries => uptoBulkEntries entries + 1
  | .held _ => 1
def uptoBulkAll {H : Type} : List (DataW H) → Nat
  | [] => 0
  | d :: r => uptoBulk d + uptoBulkAll r
def uptoBulkEntries {H : Type} : List (Lit × DataW H) → Nat
  | [] => 0
  | x :: r => uptoBulkEntry x + uptoBulkEntries r
def uptoBulkEntry {H : Type} : Lit × DataW H → Nat
  | (.string bytes, d) => bytes.length + uptoBulk d + 1
  | (_, d) => uptoBulk d + 1
 end
def uptoSmall : (H : Type) → List (DataW H) → Bool := fun _ ds => decide (uptoBulkAll ds ≤ 1048576)
def OpenSpec.upto (s : _root_.Go.ChangeSpec) : _root_.Go.OpenSpec := { _root_.Go.OpenSpec.ofChange s with cond := some uptoSmall }

/-- 'drawloomlaw20.TransNames', WHERE WHAT IT READS IS OF BULK AT MOST 1048576: true; the input reads as it did. -/
def transNamesUptoRow : OpenClaim := { program := "ytbfhilhkmicelaagreat", sum := "7992b2f3d9a191bb2aa997d5c78cbca1a83e8cb7b01a4021517bb7d41d6cd0d2", func := "drawloom/drawloomlaw20.TransNames", spec := "transNames", unfollowed := true, recurses := true, plainKeys := false, apart := false, narrowed := true }
def TransNamesUptoSaid : Prop := transNamesUptoRow.holds Tryz.pinned (OpenSpec.upto transNamesSpec)

/-- 'drawloomlaw20.TransNil', WHERE WHAT IT READS IS OF BULK AT MOST 1048576: true; the input reads as it did. -/
def transNilUptoRow : OpenClaim := { program := "ytbfhilhkmicelaagreat", sum := "7992b2f3d9a191bb2aa997d5c78cbca1a83e8cb7b01a4021517bb7d41d6cd0d2", func := "drawloom/drawloomlaw20.TransNil", spec := "transNil", unfollowed := true, recurses := true, plainKeys := false, apart := false, narrowed := true }
def TransNilUptoSaid : Prop := transNilUptoRow.holds Tryz.pinned (OpenSpec.upto transNilSpec)

/-- 'drawloomlaw21.TcacheNames', WHERE WHAT IT READS IS OF BULK AT MOST 1048576: true; the input reads as it did. -/
def tcacheNamesUptoRow : OpenClaim := { program := "ytbfhilhkmicelaagreat", sum := "7992b2f3d9a191bb2aa997d5c78cbca1a83e8cb7b01a4021517bb7d41d6cd0d2", func := "drawloom/drawloomlaw21.TcacheNames", spec := "tcacheNames", unfollowed := true, recurses := true, plainKeys := false, apart := false, narrowed := true }
def TcacheNamesUptoSaid : Prop := tcacheNamesUptoRow.holds Tryz.pinned (OpenSpec.upto tcacheNamesSpec)

/-- 'drawloomlaw21.TcacheNil', WHERE WHAT IT READS IS OF BULK AT MOST 1048576: true; the input reads as it did. -/
def tcacheNilUptoRow : OpenClaim := { program := "ytbfhilhkmicelaagreat", sum := "7992b2f3d9a191bb2aa997d5c78cbca1a83e8cb7b01a4021517bb7d41d6cd0d2", func := "drawloom/drawloomlaw21.TcacheNil", spec := "tcacheNil", unfollowed := true, recurses := true, plainKeys := false, apart := false, narrowed := true }
def TcacheNilUptoSaid : Prop := tcacheNilUptoRow.holds Tryz.pinned (OpenSpec.upto tcacheNilSpec)

/-- 'drawloomlaw22.MachineNames', WHERE WHAT IT READS IS OF BULK AT MOST 1048576: true; the input reads as it did. -/
def machineNamesUptoRow : OpenClaim := { program := "ytbfhilhkmicelaagreat", sum := "7992b2f3d9a191bb2aa997d5c78cbca1a83e8cb7b01a4021517bb7d41d6cd0d2", func := "drawloom/drawloomlaw22.MachineNames", spec := "machineNames", unfollowed := true, recurses := true, plainKeys := false, apart := false, narrowed := true }
def MachineNamesUptoSaid : Prop := machineNamesUptoRow.holds Tryz.pinned (OpenSpec.upto machineNamesSpec)

/-- 'drawloomlaw22.MachineNil', WHERE WHAT IT READS IS OF BULK AT MOST 1048576: true; the input reads as it did. -/
def machineNilUptoRow : OpenClaim := { program := "ytbfhilhkmicelaagreat", sum := "7992b2f3d9a191bb2aa997d5c78cbca1a83e8cb7b01a4021517bb7d41d6cd0d2", func := "drawloom/drawloomlaw22.MachineNil", spec := "machineNil", unfollowed := true, recurses := true, plainKeys := false, apart := false, narrowed := true }
def MachineNilUptoSaid : Prop := machineNilUptoRow.holds Tryz.pinned (OpenSpec.upto machineNilSpec)

end Rows
end Go.Proofs.YtbfhilhkmicelaaGreat
