/- The heap's laws' beginning, walked; the law of a nil heap. No conditions. -/
import Derived.Test.YtkhnfceedbmkcaaHeapPQ
import Derived.Test.YtkhnfceedbmkcaaHeapT
set_option linter.unusedVariables false
set_option linter.unusedSimpArgs false
set_option maxRecDepth 100000
open Go Go.Am Go.Proofs Go.Am.Heap
namespace Go.Am.HeapP
/-- A heap that has moved: its things are object j. -/
abbrev HMA (j : Nat) (less : AV) (n : Nat) (its : List (It X)) (seq : Int) : AHeap := [some (hpO less (.slc j 0 n none) seq), none, some (.rows 62 3 (its.map irow))]
theorem lessLess : Less (AV.fn (.func 10) [] []) ltX := ⟨by simp, .inr ⟨rfl, rfl⟩⟩
theorem awake_ok : AC PR 8 [] [] (.bool true) [] := by
  apply A8
  conv => whnf
  refine call_fr [] [] (HL (AV.fn (.func 10) [] []) 0 [] 0) (new_ok lessLess) ?_
  conv => whnf
  refine call_fr [0, 1] [] (HMA 2 (AV.fn (.func 10) [] []) 1 [⟨⟨3, 0⟩, 0⟩] 1) (push_ok lessLess 0 [] 0 ⟨3, 0⟩ (by simp) (by omega) (by omega)) ?_
  conv => whnf
  refine call_fr [0, 2] [] (HMA 3 (AV.fn (.func 10) [] []) 2 (upF ltX 1 (putAt 1 [⟨⟨3, 0⟩, 0⟩] ⟨⟨1, 0⟩, 1⟩) 1) 2) (push_ok lessLess 1 [⟨⟨3, 0⟩, 0⟩] 1 ⟨1, 0⟩ (by simp) (by omega) (by omega)) ?_
  conv => whnf
  refine call_fr [0, 3] [] (HA 3 (AV.fn (.func 10) [] []) 1 (popL ltX zIt 2 (upF ltX 1 (putAt 1 [⟨⟨3, 0⟩, 0⟩] ⟨⟨1, 0⟩, 1⟩) 1)) 2) (pop_ok lessLess 2 (upF ltX 1 (putAt 1 [⟨⟨3, 0⟩, 0⟩] ⟨⟨1, 0⟩, 1⟩) 1) 2 ⟨⟨1, 0⟩, 1⟩ rfl (by omega) (by simp [putAt]) (by omega)) ?_
  conv => whnf
  refine call_fr [0, 3] [] (HA 3 (AV.fn (.func 10) [] []) 1 (popL ltX zIt 2 (upF ltX 1 (putAt 1 [⟨⟨3, 0⟩, 0⟩] ⟨⟨1, 0⟩, 1⟩) 1)) 2) (len_ok (AV.fn (.func 10) [] []) lessLess.bel 1 _ 2) ?_
  conv => whnf
  exact at_end []
theorem remove_nil (f : Nat) : AC PR 24 [.nilptr, .fn (.func f) [] []] [] (.int .i64 0) [] := by
  apply A24
  conv => whnf
  refine call_fr [] [] [] len_nil ?_
  conv => whnf
  exact at_end []
theorem nil_law (p : X) : AC PR 7 [av p] [] (.bool true) [] := by
  apply A7
  conv => whnf
  refine call_closed awake_ok ?_
  conv => whnf
  refine call_closed (push_nil p) ?_
  conv => whnf
  refine call_closed pop_nil ?_
  conv => whnf
  refine call_closed top_nil ?_
  conv => whnf
  refine call_closed len_nil ?_
  conv => whnf
  refine call_closed sorted_nil ?_
  conv => whnf
  refine call_closed (remove_nil 28) ?_
  conv => whnf
  exact at_end []
end Go.Am.HeapP
