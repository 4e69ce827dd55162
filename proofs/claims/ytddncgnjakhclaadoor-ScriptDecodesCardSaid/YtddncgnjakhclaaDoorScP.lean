/- Operations, read. No conditions. -/
import Derived.Test.YtddncgnjakhclaaDoorScT2
set_option linter.unusedVariables false
set_option linter.unusedSimpArgs false
set_option maxRecDepth 100000
open Go Go.Am Go.Proofs
namespace Go.Am.Scr
def e0 : ByteArray := ⟨#[]⟩
def nd0 : Nd := ⟨⟨#[]⟩, ⟨0, 0, 0⟩, []⟩
def qu0 : Qu := ⟨⟨#[]⟩, ⟨0, 0, 0⟩⟩
def tk0 : Tk := ⟨⟨#[]⟩, ⟨#[]⟩, 0, ⟨0, 0, 0⟩, [], ⟨#[]⟩, ⟨#[]⟩, 0⟩
def kindF (r : Rd) : Nat := at' 0 r % 9 + 1
/-- The operation that is read, and how many bytes it takes. -/
def opF (r : Rd) : Op' × Nat :=
  match at' 0 r % 9 with
  | 0 => (⟨1, ⟨nameS sN 8 (after 1 r), amR (after 2 r), labF (at' 5 r)⟩, qu0, tk0, e0⟩, 6)
  | 1 => (⟨2, nd0, qu0, tk0, nameS sN 8 (after 1 r)⟩, 2)
  | 2 => (⟨3, nd0, ⟨nameS sQ 4 (after 1 r), amR (after 2 r)⟩, tk0, e0⟩, 5)
  | 3 => (⟨4, nd0, qu0, tk0, nameS sQ 4 (after 1 r)⟩, 2)
  | 4 => (⟨5, nd0, qu0, taskF (after 1 r), e0⟩, 9)
  | 5 => (⟨6, nd0, qu0, tk0, nameS sT 32 (after 1 r)⟩, 2)
  | 6 => (⟨7, nd0, qu0, tk0, nameS sT 32 (after 1 r)⟩, 2)
  | 7 => (⟨8, nd0, qu0, tk0, nameS sN 8 (after 1 r)⟩, 2)
  | _ => (⟨9, nd0, qu0, tk0, e0⟩, 1)
theorem tm9 (n : Nat) : (n : Int).tmod 9 = ((n % 9 : Nat) : Int) := by rw [Int.tmod_eq_emod_of_nonneg (by omega)]; rfl
theorem op_ok (r : Rd) : AC PR 31 [.ptr 0 0 0] (RH r) (opA (opF r).1) (RH (after (opF r).2 r)) := by
  have l0 := one_lt r
  have hm : at' 0 r % 9 < 9 := Nat.mod_lt _ (by omega)
  have hq : (((one r).1 : Nat) : Int).tmod 9 = ((at' 0 r % 9 : Nat) : Int) := tm9 _
  unfold opF
  generalize at' 0 r % 9 = m at hm hq
  apply A31
  conv => whnf
  refine call_fr [0] [] (RH (after 1 r)) (one_ok r) ?_
  conv => whnf
  rw [hq]
  obtain rfl | rfl | rfl | rfl | rfl | rfl | rfl | rfl | rfl : m = 0 ∨ m = 1 ∨ m = 2 ∨ m = 3 ∨ m = 4 ∨ m = 5 ∨ m = 6 ∨ m = 7 ∨ m = 8 := by omega
  · refine w_as 1 (by omega) (by omega) ?_
    conv => whnf
    refine call_fr [0] [] (RH (after 2 r)) (name_ok sN (by decide) 8 (by omega) (by omega) (after 1 r)) ?_
    conv => whnf
    refine call_fr [0] [] (RH (after 5 r)) (amount_ok' (after 2 r)) ?_
    conv => whnf
    refine call_fr [0] [] (RH (after 6 r)) (one_ok (after 5 r)) ?_
    conv => whnf
    refine call_closed (labels_ok (at' 5 r) (one_lt _)) ?_
    conv => whnf
    exact at_end [some 0]
  · refine w_as 2 (by omega) (by omega) ?_
    conv => whnf
    refine call_fr [0] [] (RH (after 2 r)) (name_ok sN (by decide) 8 (by omega) (by omega) (after 1 r)) ?_
    conv => whnf
    exact at_end [some 0]
  · refine w_as 3 (by omega) (by omega) ?_
    conv => whnf
    refine call_fr [0] [] (RH (after 2 r)) (name_ok sQ (by decide) 4 (by omega) (by omega) (after 1 r)) ?_
    conv => whnf
    refine call_fr [0] [] (RH (after 5 r)) (amount_ok' (after 2 r)) ?_
    conv => whnf
    exact at_end [some 0]
  · refine w_as 4 (by omega) (by omega) ?_
    conv => whnf
    refine call_fr [0] [] (RH (after 2 r)) (name_ok sQ (by decide) 4 (by omega) (by omega) (after 1 r)) ?_
    conv => whnf
    exact at_end [some 0]
  · refine w_as 5 (by omega) (by omega) ?_
    conv => whnf
    refine call_fr [0] [] (RH (after 9 r)) (task_ok (after 1 r)) ?_
    conv => whnf
    exact at_end [some 0]
  · refine w_as 6 (by omega) (by omega) ?_
    conv => whnf
    refine call_fr [0] [] (RH (after 2 r)) (name_ok sT (by decide) 32 (by omega) (by omega) (after 1 r)) ?_
    conv => whnf
    exact at_end [some 0]
  · refine w_as 7 (by omega) (by omega) ?_
    conv => whnf
    refine call_fr [0] [] (RH (after 2 r)) (name_ok sT (by decide) 32 (by omega) (by omega) (after 1 r)) ?_
    conv => whnf
    exact at_end [some 0]
  · refine w_as 8 (by omega) (by omega) ?_
    conv => whnf
    refine call_fr [0] [] (RH (after 2 r)) (name_ok sN (by decide) 8 (by omega) (by omega) (after 1 r)) ?_
    conv => whnf
    exact at_end [some 0]
  · refine w_as 9 (by omega) (by omega) ?_
    conv => whnf
    exact at_end [some 0]
end Go.Am.Scr
