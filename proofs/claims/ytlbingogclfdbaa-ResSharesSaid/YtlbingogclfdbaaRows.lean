/-
  No cell of these rows narrows 'for every input' (looked for: loops, veiled, ifaces, maps, wideKeys, modest, calm, conditions, laid).
  DERIVED. THE GIVEN ROWS OF THIS SEAT. 6 by the template 'for every input the law returns true; each argument reads behind the call as it read before'; 0 by the template 'total and deterministic' (their statements: YtlbingogclfdbaaTotals.lean).
  GIVEN WITH THE SEED: the statements are not yours to turn. If you find one false, say at which input.
  Laid BY PROGRAM, IN A SANDBOX (cutbox-rows.mjs): the forced cells as the released guide's own fill.sh prints them over the translation f67bec67978b9118… (all of the seat's roots in one cut). By AI agents, Wed Nov 11 2026. No macro, syntax, notation, axiom, sorry.
-/
import Derived.Test.YtlbingogclfdbaaChecked
import GoSem.Claim
import GoSem.ClaimJoined
import GoSem.ClaimMapViews
import Derived.JoinedTies
import Derived.KernelRfl
namespace Go.Proofs.Ytlbingogclfdbaa
/- THE CELL 'sum', in the pinned program and in every row, IS THE sha256 OF THE DUMP (.gsa) THAT YtlbingogclfdbaaProg.lean LOADS. Nothing in Lean hashes anything: it is a label: what it is worth is what the hold of that sum in a sandbox is worth. -/
noncomputable def Try.pinned : Pinned := { name := "ytlbingogclfdbaa", sum := "f67bec67978b91182f85a5be613e017d7ed4ed6b07c6600223d34641f4582cfa", checked := Try.checked }
namespace Rows
def none {H : Type} : Left H := { results := [], args := [] }

/-- 'interregnumlaw03.ResFits': WHATEVER THE INPUT: true; the input reads as it did. -/
def resFitsSpec : ChangeSpec := { name := "resFits", fn := fun _ => fun
  | [d1, d2, d3] => { results := [.lit (.bool true)], args := [d1, d2, d3] }
  | _ => none }
def resFitsRow : OpenClaim := { program := "ytlbingogclfdbaa", sum := "f67bec67978b91182f85a5be613e017d7ed4ed6b07c6600223d34641f4582cfa", func := "interregnum/interregnumlaw03.ResFits", spec := "resFits", apart := false }
def ResFitsSaid : Prop := resFitsRow.holds Try.pinned (OpenSpec.ofChange resFitsSpec)

/-- ITS FALSE NEIGHBOUR: 'it returns false'. Refute it at one input. -/
def resFitsWrong : ChangeSpec := { name := "resFits", fn := fun _ => fun
  | [d1, d2, d3] => { results := [.lit (.bool false)], args := [d1, d2, d3] }
  | _ => none }
def ResFitsWrongFalsely : Prop := resFitsRow.holds Try.pinned (OpenSpec.ofChange resFitsWrong)

/-- 'interregnumlaw03.ResBack': WHATEVER THE INPUT: true; the input reads as it did. -/
def resBackSpec : ChangeSpec := { name := "resBack", fn := fun _ => fun
  | [d1, d2] => { results := [.lit (.bool true)], args := [d1, d2] }
  | _ => none }
def resBackRow : OpenClaim := { program := "ytlbingogclfdbaa", sum := "f67bec67978b91182f85a5be613e017d7ed4ed6b07c6600223d34641f4582cfa", func := "interregnum/interregnumlaw03.ResBack", spec := "resBack", apart := false }
def ResBackSaid : Prop := resBackRow.holds Try.pinned (OpenSpec.ofChange resBackSpec)

/-- ITS FALSE NEIGHBOUR: 'it returns false'. Refute it at one input. -/
def resBackWrong : ChangeSpec := { name := "resBack", fn := fun _ => fun
  | [d1, d2] => { results := [.lit (.bool false)], args := [d1, d2] }
  | _ => none }
def ResBackWrongFalsely : Prop := resBackRow.holds Try.pinned (OpenSpec.ofChange resBackWrong)

/-- 'interregnumlaw03.ResSums': WHATEVER THE INPUT: true; the input reads as it did. -/
def resSumsSpec : ChangeSpec := { name := "resSums", fn := fun _ => fun
  | [d] => { results := [.lit (.bool true)], args := [d] }
  | _ => none }
def resSumsRow : OpenClaim := { program := "ytlbingogclfdbaa", sum := "f67bec67978b91182f85a5be613e017d7ed4ed6b07c6600223d34641f4582cfa", func := "interregnum/interregnumlaw03.ResSums", spec := "resSums", apart := false }
def ResSumsSaid : Prop := resSumsRow.holds Try.pinned (OpenSpec.ofChange resSumsSpec)

/-- ITS FALSE NEIGHBOUR: 'it returns false'. Refute it at one input. -/
def resSumsWrong : ChangeSpec := { name := "resSums", fn := fun _ => fun
  | [d] => { results := [.lit (.bool false)], args := [d] }
  | _ => none }
def ResSumsWrongFalsely : Prop := resSumsRow.holds Try.pinned (OpenSpec.ofChange resSumsWrong)

/-- 'interregnumlaw03.ResOrder': WHATEVER THE INPUT: true; the input reads as it did. -/
def resOrderSpec : ChangeSpec := { name := "resOrder", fn := fun _ => fun
  | [d1, d2, d3] => { results := [.lit (.bool true)], args := [d1, d2, d3] }
  | _ => none }
def resOrderRow : OpenClaim := { program := "ytlbingogclfdbaa", sum := "f67bec67978b91182f85a5be613e017d7ed4ed6b07c6600223d34641f4582cfa", func := "interregnum/interregnumlaw03.ResOrder", spec := "resOrder", apart := false }
def ResOrderSaid : Prop := resOrderRow.holds Try.pinned (OpenSpec.ofChange resOrderSpec)

/-- ITS FALSE NEIGHBOUR: 'it returns false'. Refute it at one input. -/
def resOrderWrong : ChangeSpec := { name := "resOrder", fn := fun _ => fun
  | [d1, d2, d3] => { results := [.lit (.bool false)], args := [d1, d2, d3] }
  | _ => none }
def ResOrderWrongFalsely : Prop := resOrderRow.holds Try.pinned (OpenSpec.ofChange resOrderWrong)

/-- 'interregnumlaw03.ResShares': WHATEVER THE INPUT: true; the input reads as it did. -/
def resSharesSpec : ChangeSpec := { name := "resShares", fn := fun _ => fun
  | [d1, d2, d3] => { results := [.lit (.bool true)], args := [d1, d2, d3] }
  | _ => none }
def resSharesRow : OpenClaim := { program := "ytlbingogclfdbaa", sum := "f67bec67978b91182f85a5be613e017d7ed4ed6b07c6600223d34641f4582cfa", func := "interregnum/interregnumlaw03.ResShares", spec := "resShares", apart := false }
def ResSharesSaid : Prop := resSharesRow.holds Try.pinned (OpenSpec.ofChange resSharesSpec)

/-- ITS FALSE NEIGHBOUR: 'it returns false'. Refute it at one input. -/
def resSharesWrong : ChangeSpec := { name := "resShares", fn := fun _ => fun
  | [d1, d2, d3] => { results := [.lit (.bool false)], args := [d1, d2, d3] }
  | _ => none }
def ResSharesWrongFalsely : Prop := resSharesRow.holds Try.pinned (OpenSpec.ofChange resSharesWrong)

/-- 'interregnumlaw03.ResTells': WHATEVER THE INPUT: true; the input reads as it did. -/
def resTellsSpec : ChangeSpec := { name := "resTells", fn := fun _ => fun
  | [d1, d2] => { results := [.lit (.bool true)], args := [d1, d2] }
  | _ => none }
def resTellsRow : OpenClaim := { program := "ytlbingogclfdbaa", sum := "f67bec67978b91182f85a5be613e017d7ed4ed6b07c6600223d34641f4582cfa", func := "interregnum/interregnumlaw03.ResTells", spec := "resTells", apart := false }
def ResTellsSaid : Prop := resTellsRow.holds Try.pinned (OpenSpec.ofChange resTellsSpec)

/-- ITS FALSE NEIGHBOUR: 'it returns false'. Refute it at one input. -/
def resTellsWrong : ChangeSpec := { name := "resTells", fn := fun _ => fun
  | [d1, d2] => { results := [.lit (.bool false)], args := [d1, d2] }
  | _ => none }
def ResTellsWrongFalsely : Prop := resTellsRow.holds Try.pinned (OpenSpec.ofChange resTellsWrong)

/- THE SECOND FORM. 'bulk': how many values and letters a reading holds, each counted each time it is reached (what is shared counts as often as it is met; a slice's spare places count too). A statement '..UptoSaid' is the law's where the arguments, and the package variables that the reading takes, are together of bulk at most 1048576: NARROWER than '..Said'. Prove '..Said' where nothing that the law and all that it calls make is longer than what came in: it says more and counts as full. Else prove '..UptoSaid'. A law counts once. -/
mutual
def uptoBulk {H : Type} : DataW H → Nat
  | .lit (.string bytes) => bytes.length + 1
  | .lit _ => 1
  | .nil => 1
  | .ptr d => uptoBulk d + 1
  | .slice elems spare => uptoBulkAll elems + uptoBulkAll spare + 1
  | .agg parts => uptoBulkAll parts + 1
  | .iface _ d => uptoBulk d + 1
  | .map entries => uptoBulkEntries entries + 1
  | .held _ => 1
def uptoBulkAll {H : Type} : List (DataW H) → Nat
  | [] => 0
  | d :: r => uptoBulk d + uptoBulkAll r
def uptoBulkEntries {H : Type} : List (Lit × DataW H) → Nat
  | [] => 0
  | x :: r => uptoBulkEntry x + uptoBulkEntries r
def uptoBulkEntry {H : Type} : Lit × DataW H → Nat
  | (.string bytes, d) => bytes.length + uptoBulk d + 1
  | (_, d) => uptoBulk d + 1
 end
def uptoSmall : (H : Type) → List (DataW H) → Bool := fun _ ds => decide (uptoBulkAll ds ≤ 1048576)
def OpenSpec.upto (s : _root_.Go.ChangeSpec) : _root_.Go.OpenSpec := { _root_.Go.OpenSpec.ofChange s with cond := some uptoSmall }

/-- 'interregnumlaw03.ResFits', WHERE WHAT IT READS IS OF BULK AT MOST 1048576: true; the input reads as it did. -/
def resFitsUptoRow : OpenClaim := { program := "ytlbingogclfdbaa", sum := "f67bec67978b91182f85a5be613e017d7ed4ed6b07c6600223d34641f4582cfa", func := "interregnum/interregnumlaw03.ResFits", spec := "resFits", apart := false, narrowed := true }
def ResFitsUptoSaid : Prop := resFitsUptoRow.holds Try.pinned (OpenSpec.upto resFitsSpec)

/-- 'interregnumlaw03.ResBack', WHERE WHAT IT READS IS OF BULK AT MOST 1048576: true; the input reads as it did. -/
def resBackUptoRow : OpenClaim := { program := "ytlbingogclfdbaa", sum := "f67bec67978b91182f85a5be613e017d7ed4ed6b07c6600223d34641f4582cfa", func := "interregnum/interregnumlaw03.ResBack", spec := "resBack", apart := false, narrowed := true }
def ResBackUptoSaid : Prop := resBackUptoRow.holds Try.pinned (OpenSpec.upto resBackSpec)

/-- 'interregnumlaw03.ResSums', WHERE WHAT IT READS IS OF BULK AT MOST 1048576: true; the input reads as it did. -/
def resSumsUptoRow : OpenClaim := { program := "ytlbingogclfdbaa", sum := "f67bec67978b91182f85a5be613e017d7ed4ed6b07c6600223d34641f4582cfa", func := "interregnum/interregnumlaw03.ResSums", spec := "resSums", apart := false, narrowed := true }
def ResSumsUptoSaid : Prop := resSumsUptoRow.holds Try.pinned (OpenSpec.upto resSumsSpec)

/-- 'interregnumlaw03.ResOrder', WHERE WHAT IT READS IS OF BULK AT MOST 1048576: true; the input reads as it did. -/
def resOrderUptoRow : OpenClaim := { program := "ytlbingogclfdbaa", sum := "f67bec67978b91182f85a5be613e017d7ed4ed6b07c6600223d34641f4582cfa", func := "interregnum/interregnumlaw03.ResOrder", spec := "resOrder", apart := false, narrowed := true }
def ResOrderUptoSaid : Prop := resOrderUptoRow.holds Try.pinned (OpenSpec.upto resOrderSpec)

/-- 'interregnumlaw03.ResShares', WHERE WHAT IT READS IS OF BULK AT MOST 1048576: true; the input reads as it did. -/
def resSharesUptoRow : OpenClaim := { program := "ytlbingogclfdbaa", sum := "f67bec67978b91182f85a5be613e017d7ed4ed6b07c6600223d34641f4582cfa", func := "interregnum/interregnumlaw03.ResShares", spec := "resShares", apart := false, narrowed := true }
def ResSharesUptoSaid : Prop := resSharesUptoRow.holds Try.pinned (OpenSpec.upto resSharesSpec)

/-- 'interregnumlaw03.ResTells', WHERE WHAT IT READS IS OF BULK AT MOST 1048576: true; the input reads as it did. -/
def resTellsUptoRow : OpenClaim := { program := "ytlbingogclfdbaa", sum := "f67bec67978b91182f85a5be613e017d7ed4ed6b07c6600223d34641f4582cfa", func := "interregnum/interregnumlaw03.ResTells", spec := "resTells", apart := false, narrowed := true }
def ResTellsUptoSaid : Prop := resTellsUptoRow.holds Try.pinned (OpenSpec.upto resTellsSpec)

end Rows
end Go.Proofs.Ytlbingogclfdbaa
