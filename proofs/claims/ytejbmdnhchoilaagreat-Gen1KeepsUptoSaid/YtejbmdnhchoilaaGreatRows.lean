/-
  No cell of these rows narrows 'for every input' (looked for: loops, veiled, ifaces, maps, wideKeys, modest, calm, conditions, laid).
  DERIVED. THE GIVEN ROWS OF THIS SEAT. 9 by the template 'for every input the law returns true; each argument reads behind the call as it read before'; 0 by the template 'total and deterministic' (their statements: YtejbmdnhchoilaaGreatTotals.lean).
  GIVEN WITH THE SEED: the statements are not yours to turn. If you find one false, say at which input.
  Laid BY PROGRAM, IN A SANDBOX (cutbox-rows.mjs): the forced cells as the released guide's own fill.sh prints them over the translation 2053cfc5235f22e3… (all of the seat's roots in one cut). By AI agents, Wed Nov 11 2026. No macro, syntax, notation, axiom, sorry.
-/
import Derived.Test.YtejbmdnhchoilaaGreatChecked
import GoSem.Claim
import GoSem.ClaimJoined
import GoSem.ClaimMapViews
import Derived.JoinedTies
import Derived.KernelRfl
namespace Go.Proofs.YtejbmdnhchoilaaGreat
/- THE CELL 'sum', in the pinned program and in every row, IS THE sha256 OF THE DUMP (.gsa) THAT YtejbmdnhchoilaaGreatProg.lean LOADS. Nothing in Lean hashes anything: it is a label: what it is worth is what the hold of that sum in a sandbox is worth. -/
noncomputable def Tryz.pinned : Pinned := { name := "ytejbmdnhchoilaagreat", sum := "2053cfc5235f22e34b6b01b000aee36cb34091608df9b66fb78b2852a39a95ac", checked := Tryz.checked }
namespace Rows
def none {H : Type} : Left H := { results := [], args := [] }

/-- 'interregnumlaw15.Gen1Plays': WHATEVER THE INPUT: true; the input reads as it did. -/
def gen1PlaysSpec : ChangeSpec := { name := "gen1Plays", fn := fun _ => fun
  | [d] => { results := [.lit (.bool true)], args := [d] }
  | _ => none }
def gen1PlaysRow : OpenClaim := { program := "ytejbmdnhchoilaagreat", sum := "2053cfc5235f22e34b6b01b000aee36cb34091608df9b66fb78b2852a39a95ac", func := "interregnum/interregnumlaw15.Gen1Plays", spec := "gen1Plays", inPlace := ["internal/bytealg.IndexByteString", "internal/bytealg.IndexString", "slices.overlaps[interregnum/api.Machine]", "slices.overlaps[interregnum/api.Queue]"], unfollowed := true, recurses := true, named := ["internal/bytealg.MaxLen"], apart := false }
def Gen1PlaysSaid : Prop := gen1PlaysRow.holds Tryz.pinned (OpenSpec.ofChange gen1PlaysSpec)

/-- ITS FALSE NEIGHBOUR: 'it returns false'. Refute it at one input. -/
def gen1PlaysWrong : ChangeSpec := { name := "gen1Plays", fn := fun _ => fun
  | [d] => { results := [.lit (.bool false)], args := [d] }
  | _ => none }
def Gen1PlaysWrongFalsely : Prop := gen1PlaysRow.holds Tryz.pinned (OpenSpec.ofChange gen1PlaysWrong)

/-- 'interregnumlaw15.Gen1Stands': WHATEVER THE INPUT: true; the input reads as it did. -/
def gen1StandsSpec : ChangeSpec := { name := "gen1Stands", fn := fun _ => fun
  | [d] => { results := [.lit (.bool true)], args := [d] }
  | _ => none }
def gen1StandsRow : OpenClaim := { program := "ytejbmdnhchoilaagreat", sum := "2053cfc5235f22e34b6b01b000aee36cb34091608df9b66fb78b2852a39a95ac", func := "interregnum/interregnumlaw15.Gen1Stands", spec := "gen1Stands", inPlace := ["internal/bytealg.IndexByteString", "internal/bytealg.IndexString", "slices.overlaps[interregnum/api.Machine]", "slices.overlaps[interregnum/api.Queue]"], unfollowed := true, recurses := true, named := ["internal/bytealg.MaxLen"], apart := false }
def Gen1StandsSaid : Prop := gen1StandsRow.holds Tryz.pinned (OpenSpec.ofChange gen1StandsSpec)

/-- ITS FALSE NEIGHBOUR: 'it returns false'. Refute it at one input. -/
def gen1StandsWrong : ChangeSpec := { name := "gen1Stands", fn := fun _ => fun
  | [d] => { results := [.lit (.bool false)], args := [d] }
  | _ => none }
def Gen1StandsWrongFalsely : Prop := gen1StandsRow.holds Tryz.pinned (OpenSpec.ofChange gen1StandsWrong)

/-- 'interregnumlaw15.Gen1Acts': WHATEVER THE INPUT: true; the input reads as it did. -/
def gen1ActsSpec : ChangeSpec := { name := "gen1Acts", fn := fun _ => fun
  | [d] => { results := [.lit (.bool true)], args := [d] }
  | _ => none }
def gen1ActsRow : OpenClaim := { program := "ytejbmdnhchoilaagreat", sum := "2053cfc5235f22e34b6b01b000aee36cb34091608df9b66fb78b2852a39a95ac", func := "interregnum/interregnumlaw15.Gen1Acts", spec := "gen1Acts", inPlace := ["internal/bytealg.IndexByteString", "internal/bytealg.IndexString", "slices.overlaps[interregnum/api.Machine]", "slices.overlaps[interregnum/api.Queue]"], unfollowed := true, recurses := true, named := ["internal/bytealg.MaxLen"], apart := false }
def Gen1ActsSaid : Prop := gen1ActsRow.holds Tryz.pinned (OpenSpec.ofChange gen1ActsSpec)

/-- ITS FALSE NEIGHBOUR: 'it returns false'. Refute it at one input. -/
def gen1ActsWrong : ChangeSpec := { name := "gen1Acts", fn := fun _ => fun
  | [d] => { results := [.lit (.bool false)], args := [d] }
  | _ => none }
def Gen1ActsWrongFalsely : Prop := gen1ActsRow.holds Tryz.pinned (OpenSpec.ofChange gen1ActsWrong)

/-- 'interregnumlaw15.Gen1Keeps': WHATEVER THE INPUT: true; the input reads as it did. -/
def gen1KeepsSpec : ChangeSpec := { name := "gen1Keeps", fn := fun _ => fun
  | [d] => { results := [.lit (.bool true)], args := [d] }
  | _ => none }
def gen1KeepsRow : OpenClaim := { program := "ytejbmdnhchoilaagreat", sum := "2053cfc5235f22e34b6b01b000aee36cb34091608df9b66fb78b2852a39a95ac", func := "interregnum/interregnumlaw15.Gen1Keeps", spec := "gen1Keeps", inPlace := ["internal/bytealg.IndexByteString", "internal/bytealg.IndexString", "slices.overlaps[interregnum/api.Machine]", "slices.overlaps[interregnum/api.Queue]"], unfollowed := true, recurses := true, named := ["internal/bytealg.MaxLen"], apart := false }
def Gen1KeepsSaid : Prop := gen1KeepsRow.holds Tryz.pinned (OpenSpec.ofChange gen1KeepsSpec)

/-- ITS FALSE NEIGHBOUR: 'it returns false'. Refute it at one input. -/
def gen1KeepsWrong : ChangeSpec := { name := "gen1Keeps", fn := fun _ => fun
  | [d] => { results := [.lit (.bool false)], args := [d] }
  | _ => none }
def Gen1KeepsWrongFalsely : Prop := gen1KeepsRow.holds Tryz.pinned (OpenSpec.ofChange gen1KeepsWrong)

/-- 'interregnumlaw15.Gen1Nil': WHATEVER THE INPUT: true; the input reads as it did. -/
def gen1NilSpec : ChangeSpec := { name := "gen1Nil", fn := fun _ => fun
  | [d] => { results := [.lit (.bool true)], args := [d] }
  | _ => none }
def gen1NilRow : OpenClaim := { program := "ytejbmdnhchoilaagreat", sum := "2053cfc5235f22e34b6b01b000aee36cb34091608df9b66fb78b2852a39a95ac", func := "interregnum/interregnumlaw15.Gen1Nil", spec := "gen1Nil", inPlace := ["internal/bytealg.IndexByteString", "internal/bytealg.IndexString", "slices.overlaps[interregnum/api.Machine]", "slices.overlaps[interregnum/api.Queue]"], unfollowed := true, recurses := true, named := ["internal/bytealg.MaxLen"], apart := false }
def Gen1NilSaid : Prop := gen1NilRow.holds Tryz.pinned (OpenSpec.ofChange gen1NilSpec)

/-- ITS FALSE NEIGHBOUR: 'it returns false'. Refute it at one input. -/
def gen1NilWrong : ChangeSpec := { name := "gen1Nil", fn := fun _ => fun
  | [d] => { results := [.lit (.bool false)], args := [d] }
  | _ => none }
def Gen1NilWrongFalsely : Prop := gen1NilRow.holds Tryz.pinned (OpenSpec.ofChange gen1NilWrong)

/-- 'interregnumlaw15.Gen1Copies': WHATEVER THE INPUT: true; the input reads as it did. -/
def gen1CopiesSpec : ChangeSpec := { name := "gen1Copies", fn := fun _ => fun
  | [d] => { results := [.lit (.bool true)], args := [d] }
  | _ => none }
def gen1CopiesRow : OpenClaim := { program := "ytejbmdnhchoilaagreat", sum := "2053cfc5235f22e34b6b01b000aee36cb34091608df9b66fb78b2852a39a95ac", func := "interregnum/interregnumlaw15.Gen1Copies", spec := "gen1Copies", inPlace := ["internal/bytealg.IndexByteString", "internal/bytealg.IndexString", "slices.overlaps[interregnum/api.Machine]", "slices.overlaps[interregnum/api.Queue]"], unfollowed := true, recurses := true, named := ["internal/bytealg.MaxLen"], apart := false }
def Gen1CopiesSaid : Prop := gen1CopiesRow.holds Tryz.pinned (OpenSpec.ofChange gen1CopiesSpec)

/-- ITS FALSE NEIGHBOUR: 'it returns false'. Refute it at one input. -/
def gen1CopiesWrong : ChangeSpec := { name := "gen1Copies", fn := fun _ => fun
  | [d] => { results := [.lit (.bool false)], args := [d] }
  | _ => none }
def Gen1CopiesWrongFalsely : Prop := gen1CopiesRow.holds Tryz.pinned (OpenSpec.ofChange gen1CopiesWrong)

/-- 'interregnumlaw15.Gen1Loads': WHATEVER THE INPUT: true; the input reads as it did. -/
def gen1LoadsSpec : ChangeSpec := { name := "gen1Loads", fn := fun _ => fun
  | [d1, d2] => { results := [.lit (.bool true)], args := [d1, d2] }
  | _ => none }
def gen1LoadsRow : OpenClaim := { program := "ytejbmdnhchoilaagreat", sum := "2053cfc5235f22e34b6b01b000aee36cb34091608df9b66fb78b2852a39a95ac", func := "interregnum/interregnumlaw15.Gen1Loads", spec := "gen1Loads", inPlace := ["internal/bytealg.IndexByteString", "internal/bytealg.IndexString", "slices.overlaps[interregnum/api.Machine]", "slices.overlaps[interregnum/api.Queue]"], unfollowed := true, recurses := true, named := ["internal/bytealg.MaxLen"], apart := false }
def Gen1LoadsSaid : Prop := gen1LoadsRow.holds Tryz.pinned (OpenSpec.ofChange gen1LoadsSpec)

/-- ITS FALSE NEIGHBOUR: 'it returns false'. Refute it at one input. -/
def gen1LoadsWrong : ChangeSpec := { name := "gen1Loads", fn := fun _ => fun
  | [d1, d2] => { results := [.lit (.bool false)], args := [d1, d2] }
  | _ => none }
def Gen1LoadsWrongFalsely : Prop := gen1LoadsRow.holds Tryz.pinned (OpenSpec.ofChange gen1LoadsWrong)

/-- 'interregnumlaw15.Gen1Same': WHATEVER THE INPUT: true; the input reads as it did. -/
def gen1SameSpec : ChangeSpec := { name := "gen1Same", fn := fun _ => fun
  | [d1, d2] => { results := [.lit (.bool true)], args := [d1, d2] }
  | _ => none }
def gen1SameRow : OpenClaim := { program := "ytejbmdnhchoilaagreat", sum := "2053cfc5235f22e34b6b01b000aee36cb34091608df9b66fb78b2852a39a95ac", func := "interregnum/interregnumlaw15.Gen1Same", spec := "gen1Same", inPlace := ["internal/bytealg.IndexByteString", "internal/bytealg.IndexString", "slices.overlaps[interregnum/api.Machine]", "slices.overlaps[interregnum/api.Queue]"], unfollowed := true, recurses := true, named := ["internal/bytealg.MaxLen"], apart := false }
def Gen1SameSaid : Prop := gen1SameRow.holds Tryz.pinned (OpenSpec.ofChange gen1SameSpec)

/-- ITS FALSE NEIGHBOUR: 'it returns false'. Refute it at one input. -/
def gen1SameWrong : ChangeSpec := { name := "gen1Same", fn := fun _ => fun
  | [d1, d2] => { results := [.lit (.bool false)], args := [d1, d2] }
  | _ => none }
def Gen1SameWrongFalsely : Prop := gen1SameRow.holds Tryz.pinned (OpenSpec.ofChange gen1SameWrong)

/-- 'interregnumlaw15.Gen1Leaves': WHATEVER THE INPUT: true; the input reads as it did. -/
def gen1LeavesSpec : ChangeSpec := { name := "gen1Leaves", fn := fun _ => fun
  | [d] => { results := [.lit (.bool true)], args := [d] }
  | _ => none }
def gen1LeavesRow : OpenClaim := { program := "ytejbmdnhchoilaagreat", sum := "2053cfc5235f22e34b6b01b000aee36cb34091608df9b66fb78b2852a39a95ac", func := "interregnum/interregnumlaw15.Gen1Leaves", spec := "gen1Leaves", inPlace := ["internal/bytealg.IndexByteString", "internal/bytealg.IndexString", "slices.overlaps[interregnum/api.Machine]", "slices.overlaps[interregnum/api.Queue]"], unfollowed := true, recurses := true, named := ["internal/bytealg.MaxLen"], apart := false }
def Gen1LeavesSaid : Prop := gen1LeavesRow.holds Tryz.pinned (OpenSpec.ofChange gen1LeavesSpec)

/-- ITS FALSE NEIGHBOUR: 'it returns false'. Refute it at one input. -/
def gen1LeavesWrong : ChangeSpec := { name := "gen1Leaves", fn := fun _ => fun
  | [d] => { results := [.lit (.bool false)], args := [d] }
  | _ => none }
def Gen1LeavesWrongFalsely : Prop := gen1LeavesRow.holds Tryz.pinned (OpenSpec.ofChange gen1LeavesWrong)

/- THE SECOND FORM. 'bulk': how many values and letters a reading holds, each counted each time it is reached (what is shared counts as often as it is met; a slice's spare places count too). A statement '..UptoSaid' is the law's where the arguments, and the package variables that the reading takes, are together of bulk at most 1048576: NARROWER than '..Said'. Prove '..Said' where nothing that the law and all that it calls make is longer than what came in: it says more and counts as full. Else prove '..UptoSaid'. A law counts once. -/
mutual
def uptoBulk {H : Type} : DataW H → Nat
  | .lit (.string bytes) => bytes.length + 1
  | .lit _ => 1
  | .nil => 1
  | .ptr d => uptoBulk d + 1
  | .slice elems spare => uptoBulkAll elems + uptoBulkAll spare + 1
  | .agg parts => uptoBulkAll parts + 1
  | .iface _ d => uptoBulk d + 1
  | .map entries => uptoBulkEntries entries + 1
  | .held _ => 1
def uptoBulkAll {H : Type} : List (DataW H) → Nat
  | [] => 0
  | d :: r => uptoBulk d + uptoBulkAll r
def uptoBulkEntries {H : Type} : List (Lit × DataW H) → Nat
  | [] => 0
  | x :: r => uptoBulkEntry x + uptoBulkEntries r
def uptoBulkEntry {H : Type} : Lit × DataW H → Nat
  | (.string bytes, d) => bytes.length + uptoBulk d + 1
  | (_, d) => uptoBulk d + 1
 end
def uptoSmall : (H : Type) → List (DataW H) → Bool := fun _ ds => decide (uptoBulkAll ds ≤ 1048576)
def OpenSpec.upto (s : _root_.Go.ChangeSpec) : _root_.Go.OpenSpec := { _root_.Go.OpenSpec.ofChange s with cond := some uptoSmall }

/-- 'interregnumlaw15.Gen1Plays', WHERE WHAT IT READS IS OF BULK AT MOST 1048576: true; the input reads as it did. -/
def gen1PlaysUptoRow : OpenClaim := { program := "ytejbmdnhchoilaagreat", sum := "2053cfc5235f22e34b6b01b000aee36cb34091608df9b66fb78b2852a39a95ac", func := "interregnum/interregnumlaw15.Gen1Plays", spec := "gen1Plays", inPlace := ["internal/bytealg.IndexByteString", "internal/bytealg.IndexString", "slices.overlaps[interregnum/api.Machine]", "slices.overlaps[interregnum/api.Queue]"], unfollowed := true, recurses := true, named := ["internal/bytealg.MaxLen"], apart := false, narrowed := true }
def Gen1PlaysUptoSaid : Prop := gen1PlaysUptoRow.holds Tryz.pinned (OpenSpec.upto gen1PlaysSpec)

/-- 'interregnumlaw15.Gen1Stands', WHERE WHAT IT READS IS OF BULK AT MOST 1048576: true; the input reads as it did. -/
def gen1StandsUptoRow : OpenClaim := { program := "ytejbmdnhchoilaagreat", sum := "2053cfc5235f22e34b6b01b000aee36cb34091608df9b66fb78b2852a39a95ac", func := "interregnum/interregnumlaw15.Gen1Stands", spec := "gen1Stands", inPlace := ["internal/bytealg.IndexByteString", "internal/bytealg.IndexString", "slices.overlaps[interregnum/api.Machine]", "slices.overlaps[interregnum/api.Queue]"], unfollowed := true, recurses := true, named := ["internal/bytealg.MaxLen"], apart := false, narrowed := true }
def Gen1StandsUptoSaid : Prop := gen1StandsUptoRow.holds Tryz.pinned (OpenSpec.upto gen1StandsSpec)

/-- 'interregnumlaw15.Gen1Acts', WHERE WHAT IT READS IS OF BULK AT MOST 1048576: true; the input reads as it did. -/
def gen1ActsUptoRow : OpenClaim := { program := "ytejbmdnhchoilaagreat", sum := "2053cfc5235f22e34b6b01b000aee36cb34091608df9b66fb78b2852a39a95ac", func := "interregnum/interregnumlaw15.Gen1Acts", spec := "gen1Acts", inPlace := ["internal/bytealg.IndexByteString", "internal/bytealg.IndexString", "slices.overlaps[interregnum/api.Machine]", "slices.overlaps[interregnum/api.Queue]"], unfollowed := true, recurses := true, named := ["internal/bytealg.MaxLen"], apart := false, narrowed := true }
def Gen1ActsUptoSaid : Prop := gen1ActsUptoRow.holds Tryz.pinned (OpenSpec.upto gen1ActsSpec)

/-- 'interregnumlaw15.Gen1Keeps', WHERE WHAT IT READS IS OF BULK AT MOST 1048576: true; the input reads as it did. -/
def gen1KeepsUptoRow : OpenClaim := { program := "ytejbmdnhchoilaagreat", sum := "2053cfc5235f22e34b6b01b000aee36cb34091608df9b66fb78b2852a39a95ac", func := "interregnum/interregnumlaw15.Gen1Keeps", spec := "gen1Keeps", inPlace := ["internal/bytealg.IndexByteString", "internal/bytealg.IndexString", "slices.overlaps[interregnum/api.Machine]", "slices.overlaps[interregnum/api.Queue]"], unfollowed := true, recurses := true, named := ["internal/bytealg.MaxLen"], apart := false, narrowed := true }
def Gen1KeepsUptoSaid : Prop := gen1KeepsUptoRow.holds Tryz.pinned (OpenSpec.upto gen1KeepsSpec)

/-- 'interregnumlaw15.Gen1Nil', WHERE WHAT IT READS IS OF BULK AT MOST 1048576: true; the input reads as it did. -/
def gen1NilUptoRow : OpenClaim := { program := "ytejbmdnhchoilaagreat", sum := "2053cfc5235f22e34b6b01b000aee36cb34091608df9b66fb78b2852a39a95ac", func := "interregnum/interregnumlaw15.Gen1Nil", spec := "gen1Nil", inPlace := ["internal/bytealg.IndexByteString", "internal/bytealg.IndexString", "slices.overlaps[interregnum/api.Machine]", "slices.overlaps[interregnum/api.Queue]"], unfollowed := true, recurses := true, named := ["internal/bytealg.MaxLen"], apart := false, narrowed := true }
def Gen1NilUptoSaid : Prop := gen1NilUptoRow.holds Tryz.pinned (OpenSpec.upto gen1NilSpec)

/-- 'interregnumlaw15.Gen1Copies', WHERE WHAT IT READS IS OF BULK AT MOST 1048576: true; the input reads as it did. -/
def gen1CopiesUptoRow : OpenClaim := { program := "ytejbmdnhchoilaagreat", sum := "2053cfc5235f22e34b6b01b000aee36cb34091608df9b66fb78b2852a39a95ac", func := "interregnum/interregnumlaw15.Gen1Copies", spec := "gen1Copies", inPlace := ["internal/bytealg.IndexByteString", "internal/bytealg.IndexString", "slices.overlaps[interregnum/api.Machine]", "slices.overlaps[interregnum/api.Queue]"], unfollowed := true, recurses := true, named := ["internal/bytealg.MaxLen"], apart := false, narrowed := true }
def Gen1CopiesUptoSaid : Prop := gen1CopiesUptoRow.holds Tryz.pinned (OpenSpec.upto gen1CopiesSpec)

/-- 'interregnumlaw15.Gen1Loads', WHERE WHAT IT READS IS OF BULK AT MOST 1048576: true; the input reads as it did. -/
def gen1LoadsUptoRow : OpenClaim := { program := "ytejbmdnhchoilaagreat", sum := "2053cfc5235f22e34b6b01b000aee36cb34091608df9b66fb78b2852a39a95ac", func := "interregnum/interregnumlaw15.Gen1Loads", spec := "gen1Loads", inPlace := ["internal/bytealg.IndexByteString", "internal/bytealg.IndexString", "slices.overlaps[interregnum/api.Machine]", "slices.overlaps[interregnum/api.Queue]"], unfollowed := true, recurses := true, named := ["internal/bytealg.MaxLen"], apart := false, narrowed := true }
def Gen1LoadsUptoSaid : Prop := gen1LoadsUptoRow.holds Tryz.pinned (OpenSpec.upto gen1LoadsSpec)

/-- 'interregnumlaw15.Gen1Same', WHERE WHAT IT READS IS OF BULK AT MOST 1048576: true; the input reads as it did. -/
def gen1SameUptoRow : OpenClaim := { program := "ytejbmdnhchoilaagreat", sum := "2053cfc5235f22e34b6b01b000aee36cb34091608df9b66fb78b2852a39a95ac", func := "interregnum/interregnumlaw15.Gen1Same", spec := "gen1Same", inPlace := ["internal/bytealg.IndexByteString", "internal/bytealg.IndexString", "slices.overlaps[interregnum/api.Machine]", "slices.overlaps[interregnum/api.Queue]"], unfollowed := true, recurses := true, named := ["internal/bytealg.MaxLen"], apart := false, narrowed := true }
def Gen1SameUptoSaid : Prop := gen1SameUptoRow.holds Tryz.pinned (OpenSpec.upto gen1SameSpec)

/-- 'interregnumlaw15.Gen1Leaves', WHERE WHAT IT READS IS OF BULK AT MOST 1048576: true; the input reads as it did. -/
def gen1LeavesUptoRow : OpenClaim := { program := "ytejbmdnhchoilaagreat", sum := "2053cfc5235f22e34b6b01b000aee36cb34091608df9b66fb78b2852a39a95ac", func := "interregnum/interregnumlaw15.Gen1Leaves", spec := "gen1Leaves", inPlace := ["internal/bytealg.IndexByteString", "internal/bytealg.IndexString", "slices.overlaps[interregnum/api.Machine]", "slices.overlaps[interregnum/api.Queue]"], unfollowed := true, recurses := true, named := ["internal/bytealg.MaxLen"], apart := false, narrowed := true }
def Gen1LeavesUptoSaid : Prop := gen1LeavesUptoRow.holds Tryz.pinned (OpenSpec.upto gen1LeavesSpec)

end Rows
end Go.Proofs.YtejbmdnhchoilaaGreat
