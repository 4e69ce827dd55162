/- Amounts, walked. No conditions. -/
import Derived.Test.YtddncgnjakhclaaDoorScY
set_option linter.unusedVariables false
set_option linter.unusedSimpArgs false
set_option maxRecDepth 100000
open Go Go.Am Go.Proofs
namespace Go.Am.Scr
/-- So many bytes are read. -/
def after : Nat → Rd → Rd
  | 0, r => r
  | n + 1, r => after n (one r).2
abbrev at' (k : Nat) (r : Rd) : Nat := (one (after k r)).1
def amF (k : Nat) (r : Rd) : AV :=
  match k with
  | 0 => .agg [.int .i64 0, .int .i64 0, .int .i64 0]
  | 1 => .agg [.int .i64 (at' 0 r), .int .i64 0, .int .i64 0]
  | 2 => .agg [.int .i64 (at' 0 r), .int .i64 (at' 1 r), .int .i64 0]
  | _ => .agg [.int .i64 (at' 0 r), .int .i64 (at' 1 r), .int .i64 (at' 2 r)]
abbrev AE (k : Nat) : Ev := [(0, .ptr 0 0 0), (2, .ptr 1 0 0), (3, .ptr 2 0 0), (5, .int .i64 k)]
abbrev AH (k : Nat) (r : Rd) : AHeap := RH (after k r) ++ [some (.rows 30 3 [.agg [.int .i64 0, .int .i64 0, .int .i64 0]]), some (.rows 30 3 [amF k r])]
theorem amount_ok (r : Rd) : AC PR 41 [.ptr 0 0 0] (RH r) (amF 3 r) (RH (after 3 r)) := by
  apply A41
  conv => whnf
  refine loop_to 3 (fun k e H => e = AE k ∧ H = AH k r) ?_ ?_
  · rintro k e H hk ⟨rfl, rfl⟩
    obtain rfl | rfl | rfl | rfl : k = 0 ∨ k = 1 ∨ k = 2 ∨ k = 3 := by omega
    · conv => whnf
      refine call_fr [0] [] (RH (after 1 r)) (one_ok (after 0 r)) ?_
      conv => whnf
      refine w_as ((1 : Nat) : Int) (by omega) (by omega) ?_
      conv => whnf
      exact at_head [some 0, some 1, some 2] (AH 1 r) (AE 1) ⟨by omega, rfl, rfl⟩
    · conv => whnf
      refine call_fr [0] [] (RH (after 2 r)) (one_ok (after 1 r)) ?_
      conv => whnf
      refine w_as ((2 : Nat) : Int) (by omega) (by omega) ?_
      conv => whnf
      exact at_head [some 0, some 1, some 2] (AH 2 r) (AE 2) ⟨by omega, rfl, rfl⟩
    · conv => whnf
      refine call_fr [0] [] (RH (after 3 r)) (one_ok (after 2 r)) ?_
      conv => whnf
      refine w_as ((3 : Nat) : Int) (by omega) (by omega) ?_
      conv => whnf
      exact at_head [some 0, some 1, some 2] (AH 3 r) (AE 3) ⟨by omega, rfl, rfl⟩
    · conv => whnf
      exact at_end [some 0]
  · conv => whnf
    exact at_head [some 0, some 1, some 2] (AH 0 r) (AE 0) ⟨rfl, rfl⟩
