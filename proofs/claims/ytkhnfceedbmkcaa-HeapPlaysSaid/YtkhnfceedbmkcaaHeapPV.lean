/- The heap, walked on: of pairs. No conditions. -/
import Derived.Test.YtkhnfceedbmkcaaHeapPW
set_option linter.unusedVariables false
set_option linter.unusedSimpArgs false
set_option maxRecDepth 100000
open Go Go.Am Go.Proofs Go.Am.Heap
namespace Go.Am.HeapP
abbrev HA (j : Nat) (less : AV) (n : Nat) (its : List (It X)) (seq : Int) : AHeap := [some (hpO less (.slc j 0 n none) seq), some (.rows 62 3 (its.map irow))]
abbrev HM (less : AV) (n : Nat) (its : List (It X)) (seq : Int) : AHeap := [some (hpO less (.slc 2 0 n none) seq), none, some (.rows 62 3 (its.map irow))]
/-- What lies behind a thing that was put in. -/
def putAt (n : Nat) (its : List (It X)) (a : It X) : List (It X) := its.take n ++ [a] ++ its.drop (n + 1)
theorem push_ok {less : AV} {lt : X → X → Bool} (hl : Less less lt) (n : Nat) (its : List (It X)) (seq : Int) (x : X) (hn : n ≤ its.length) (hb : (n : Int) ≤ 100000) (hs : 0 ≤ seq ∧ seq ≤ 1000000000) :
    AC PR 11 [.ptr 0 0 0, av x] (HL less n its seq) (.tuple []) (HM less (n + 1) (upF lt n (putAt n its ⟨x, seq⟩) n) (seq + 1)) := by
  have hbel := hl.bel
  apply A11
  conv => whnf
  refine app_map (f := irow) (l := its) (new := [⟨x, seq⟩]) rfl rfl hn (by simp [roomBound]; omega) (fun h => ?_) (fun h => ⟨by simp; omega, ?_⟩)
  · have e : putAt n its ⟨x, seq⟩ = its ++ [⟨x, seq⟩] := by simp [putAt, h, List.drop_eq_nil_of_le]
    rw [e]
    conv => whnf
    refine w_i64 (by omega) ?_
    conv => whnf
    refine w_as (n : Int) (by simp) (by omega) ?_
    conv => whnf
    refine call_fr [0, 4] [] (HA 4 less (n + 1) (upF lt n (its ++ [⟨x, seq⟩]) n) (seq + 1)) (up_ok hl (n + 1) (its ++ [⟨x, seq⟩]) (seq + 1) n (by omega) (by simp; omega) (by omega)) ?_
    conv => whnf
    exact at_end [some 0, some 1, some 4]
  · have e : putAt n its ⟨x, seq⟩ = its.take n ++ [⟨x, seq⟩] ++ its.drop (n + 1) := rfl
    rw [e]
    conv => whnf
    refine w_i64 (by omega) ?_
    conv => whnf
    refine w_as (n : Int) (by simp) (by omega) ?_
    conv => whnf
    refine call_fr [0, 1] [] (HL less (n + 1) (upF lt n (its.take n ++ [⟨x, seq⟩] ++ its.drop (n + 1)) n) (seq + 1)) (up_ok hl (n + 1) (its.take n ++ [⟨x, seq⟩] ++ its.drop (n + 1)) (seq + 1) n (by omega) (by simp; omega) (by omega)) ?_
    conv => whnf
    exact at_end [some 0, some 1, some 1]
theorem push_nil (x : X) : AC PR 11 [.nilptr, av x] [] (.tuple []) [] := by
  apply A11
  conv => whnf
  exact at_end []
theorem top_ok {less : AV} (hb : Bel 0 less) (n : Nat) (its : List (It X)) (seq : Int) (a : It X) (hi : its[0]? = some a) (hn : 0 < n) : AC PR 23 [.ptr 0 0 0] (HL less n its seq) (.tuple [av a.x, .bool true]) (HL less n its seq) := by
  apply A23
  conv => whnf
  refine call_fr [0, 1] [] (HL less n its seq) (len_ok less hb n its seq) ?_
  conv => whnf
  generalize hq : decide ((n : Int) = 0) = q
  cases q
  · conv => whnf
    refine k_idx ?_ _ rfl (by omega) (by omega)
    conv => whnf
    refine k_row (get_map (f := irow) (i := 0) hi) ?_
    conv => whnf
    exact at_end [some 0, some 1]
  · have := of_decide_eq_true hq; omega
theorem top_none {less : AV} (hb : Bel 0 less) (its : List (It X)) (seq : Int) : AC PR 23 [.ptr 0 0 0] (HL less 0 its seq) (.tuple [zX, .bool false]) (HL less 0 its seq) := by
  apply A23
  conv => whnf
  refine call_fr [0, 1] [] (HL less 0 its seq) (len_ok less hb 0 its seq) ?_
  conv => whnf
  exact at_end [some 0, some 1]
theorem top_nil : AC PR 23 [.nilptr] [] (.tuple [zX, .bool false]) [] := by
  apply A23
  conv => whnf
  refine call_fr [] [] [] len_nil ?_
  conv => whnf
  exact at_end []
