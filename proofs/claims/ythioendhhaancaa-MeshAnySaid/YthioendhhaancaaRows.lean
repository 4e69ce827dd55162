/-
  No cell of these rows narrows 'for every input' (looked for: loops, veiled, ifaces, maps, wideKeys, modest, calm, conditions, laid).
  DERIVED. THE GIVEN ROWS OF THIS SEAT. 4 by the template 'for every input the law returns true; each argument reads behind the call as it read before'; 0 by the template 'total and deterministic' (their statements: YthioendhhaancaaTotals.lean).
  GIVEN WITH THE SEED: the statements are not yours to turn. If you find one false, say at which input.
  Laid BY PROGRAM, IN A SANDBOX (cutbox-rows.mjs): the forced cells as the released guide's own fill.sh prints them over the translation 91c00ca4939e8db2… (all of the seat's roots in one cut). By AI agents, Wed Nov 11 2026. No macro, syntax, notation, axiom, sorry.
-/
import Derived.Test.YthioendhhaancaaChecked
import GoSem.Claim
import GoSem.ClaimJoined
import GoSem.ClaimMapViews
import Derived.JoinedTies
import Derived.KernelRfl
namespace Go.Proofs.Ythioendhhaancaa
/- THE CELL 'sum', in the pinned program and in every row, IS THE sha256 OF THE DUMP (.gsa) THAT YthioendhhaancaaProg.lean LOADS. Nothing in Lean hashes anything: it is a label: what it is worth is what the hold of that sum in a sandbox is worth. -/
noncomputable def Try.pinned : Pinned := { name := "ythioendhhaancaa", sum := "91c00ca4939e8db2eed3c7e3edba4a3faeb72d5ebc5bb9ce0c53929aeb57ac88", checked := Try.checked }
namespace Rows
def none {H : Type} : Left H := { results := [], args := [] }

/-- 'interregnumlaw25.MeshAny': WHATEVER THE INPUT: true; the input reads as it did. -/
def meshAnySpec : ChangeSpec := { name := "meshAny", fn := fun _ => fun
  | [d1, d2] => { results := [.lit (.bool true)], args := [d1, d2] }
  | _ => none }
def meshAnyRow : OpenClaim := { program := "ythioendhhaancaa", sum := "91c00ca4939e8db2eed3c7e3edba4a3faeb72d5ebc5bb9ce0c53929aeb57ac88", func := "interregnum/interregnumlaw25.MeshAny", spec := "meshAny", apart := false }
def MeshAnySaid : Prop := meshAnyRow.holds Try.pinned (OpenSpec.ofChange meshAnySpec)

/-- ITS FALSE NEIGHBOUR: 'it returns false'. Refute it at one input. -/
def meshAnyWrong : ChangeSpec := { name := "meshAny", fn := fun _ => fun
  | [d1, d2] => { results := [.lit (.bool false)], args := [d1, d2] }
  | _ => none }
def MeshAnyWrongFalsely : Prop := meshAnyRow.holds Try.pinned (OpenSpec.ofChange meshAnyWrong)

/-- 'interregnumlaw25.MeshOnce': WHATEVER THE INPUT: true; the input reads as it did. -/
def meshOnceSpec : ChangeSpec := { name := "meshOnce", fn := fun _ => fun
  | [d1, d2] => { results := [.lit (.bool true)], args := [d1, d2] }
  | _ => none }
def meshOnceRow : OpenClaim := { program := "ythioendhhaancaa", sum := "91c00ca4939e8db2eed3c7e3edba4a3faeb72d5ebc5bb9ce0c53929aeb57ac88", func := "interregnum/interregnumlaw25.MeshOnce", spec := "meshOnce", apart := false }
def MeshOnceSaid : Prop := meshOnceRow.holds Try.pinned (OpenSpec.ofChange meshOnceSpec)

/-- ITS FALSE NEIGHBOUR: 'it returns false'. Refute it at one input. -/
def meshOnceWrong : ChangeSpec := { name := "meshOnce", fn := fun _ => fun
  | [d1, d2] => { results := [.lit (.bool false)], args := [d1, d2] }
  | _ => none }
def MeshOnceWrongFalsely : Prop := meshOnceRow.holds Try.pinned (OpenSpec.ofChange meshOnceWrong)

/-- 'interregnumlaw25.MeshPlays': WHATEVER THE INPUT: true; the input reads as it did. -/
def meshPlaysSpec : ChangeSpec := { name := "meshPlays", fn := fun _ => fun
  | [d1, d2] => { results := [.lit (.bool true)], args := [d1, d2] }
  | _ => none }
def meshPlaysRow : OpenClaim := { program := "ythioendhhaancaa", sum := "91c00ca4939e8db2eed3c7e3edba4a3faeb72d5ebc5bb9ce0c53929aeb57ac88", func := "interregnum/interregnumlaw25.MeshPlays", spec := "meshPlays", apart := false }
def MeshPlaysSaid : Prop := meshPlaysRow.holds Try.pinned (OpenSpec.ofChange meshPlaysSpec)

/-- ITS FALSE NEIGHBOUR: 'it returns false'. Refute it at one input. -/
def meshPlaysWrong : ChangeSpec := { name := "meshPlays", fn := fun _ => fun
  | [d1, d2] => { results := [.lit (.bool false)], args := [d1, d2] }
  | _ => none }
def MeshPlaysWrongFalsely : Prop := meshPlaysRow.holds Try.pinned (OpenSpec.ofChange meshPlaysWrong)

/-- 'interregnumlaw25.MeshNil': WHATEVER THE INPUT: true; the input reads as it did. -/
def meshNilSpec : ChangeSpec := { name := "meshNil", fn := fun _ => fun
  | [d1, d2] => { results := [.lit (.bool true)], args := [d1, d2] }
  | _ => none }
def meshNilRow : OpenClaim := { program := "ythioendhhaancaa", sum := "91c00ca4939e8db2eed3c7e3edba4a3faeb72d5ebc5bb9ce0c53929aeb57ac88", func := "interregnum/interregnumlaw25.MeshNil", spec := "meshNil", apart := false }
def MeshNilSaid : Prop := meshNilRow.holds Try.pinned (OpenSpec.ofChange meshNilSpec)

/-- ITS FALSE NEIGHBOUR: 'it returns false'. Refute it at one input. -/
def meshNilWrong : ChangeSpec := { name := "meshNil", fn := fun _ => fun
  | [d1, d2] => { results := [.lit (.bool false)], args := [d1, d2] }
  | _ => none }
def MeshNilWrongFalsely : Prop := meshNilRow.holds Try.pinned (OpenSpec.ofChange meshNilWrong)

/- THE SECOND FORM. 'bulk': how many values and letters a reading holds, each counted each time it is reached (what is shared counts as often as it is met; a slice's spare places count too). A statement '..UptoSaid' is the law's where the arguments, and the package variables that the reading takes, are together of bulk at most 1048576: NARROWER than '..Said'. Prove '..Said' where nothing that the law and all that it calls make is longer than what came in: it says more and counts as full. Else prove '..UptoSaid'. A law counts once. -/
mutual
def uptoBulk {H : Type} : DataW H → Nat
  | .lit (.string bytes) => bytes.length + 1
  | .lit _ => 1
  | .nil => 1
  | .ptr d => uptoBulk d + 1
  | .slice elems spare => uptoBulkAll elems + uptoBulkAll spare + 1
  | .agg parts => uptoBulkAll parts + 1
  | .iface _ d => uptoBulk d + 1
  | .map entries => uptoBulkEntries entries + 1
  | .held _ => 1
def uptoBulkAll {H : Type} : List (DataW H) → Nat
  | [] => 0
  | d :: r => uptoBulk d + uptoBulkAll r
def uptoBulkEntries {H : Type} : List (Lit × DataW H) → Nat
  | [] => 0
  | x :: r => uptoBulkEntry x + uptoBulkEntries r
def uptoBulkEntry {H : Type} : Lit × DataW H → Nat
  | (.string bytes, d) => bytes.length + uptoBulk d + 1
  | (_, d) => uptoBulk d + 1
 end
def uptoSmall : (H : Type) → List (DataW H) → Bool := fun _ ds => decide (uptoBulkAll ds ≤ 1048576)
def OpenSpec.upto (s : _root_.Go.ChangeSpec) : _root_.Go.OpenSpec := { _root_.Go.OpenSpec.ofChange s with cond := some uptoSmall }

/-- 'interregnumlaw25.MeshAny', WHERE WHAT IT READS IS OF BULK AT MOST 1048576: true; the input reads as it did. -/
def meshAnyUptoRow : OpenClaim := { program := "ythioendhhaancaa", sum := "91c00ca4939e8db2eed3c7e3edba4a3faeb72d5ebc5bb9ce0c53929aeb57ac88", func := "interregnum/interregnumlaw25.MeshAny", spec := "meshAny", apart := false, narrowed := true }
def MeshAnyUptoSaid : Prop := meshAnyUptoRow.holds Try.pinned (OpenSpec.upto meshAnySpec)

/-- 'interregnumlaw25.MeshOnce', WHERE WHAT IT READS IS OF BULK AT MOST 1048576: true; the input reads as it did. -/
def meshOnceUptoRow : OpenClaim := { program := "ythioendhhaancaa", sum := "91c00ca4939e8db2eed3c7e3edba4a3faeb72d5ebc5bb9ce0c53929aeb57ac88", func := "interregnum/interregnumlaw25.MeshOnce", spec := "meshOnce", apart := false, narrowed := true }
def MeshOnceUptoSaid : Prop := meshOnceUptoRow.holds Try.pinned (OpenSpec.upto meshOnceSpec)

/-- 'interregnumlaw25.MeshPlays', WHERE WHAT IT READS IS OF BULK AT MOST 1048576: true; the input reads as it did. -/
def meshPlaysUptoRow : OpenClaim := { program := "ythioendhhaancaa", sum := "91c00ca4939e8db2eed3c7e3edba4a3faeb72d5ebc5bb9ce0c53929aeb57ac88", func := "interregnum/interregnumlaw25.MeshPlays", spec := "meshPlays", apart := false, narrowed := true }
def MeshPlaysUptoSaid : Prop := meshPlaysUptoRow.holds Try.pinned (OpenSpec.upto meshPlaysSpec)

/-- 'interregnumlaw25.MeshNil', WHERE WHAT IT READS IS OF BULK AT MOST 1048576: true; the input reads as it did. -/
def meshNilUptoRow : OpenClaim := { program := "ythioendhhaancaa", sum := "91c00ca4939e8db2eed3c7e3edba4a3faeb72d5ebc5bb9ce0c53929aeb57ac88", func := "interregnum/interregnumlaw25.MeshNil", spec := "meshNil", apart := false, narrowed := true }
def MeshNilUptoSaid : Prop := meshNilUptoRow.holds Try.pinned (OpenSpec.upto meshNilSpec)

end Rows
end Go.Proofs.Ythioendhhaancaa
