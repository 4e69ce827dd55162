/- Labels and groups, walked. No conditions. -/
import Derived.Test.YtddncgnjakhclaaDoorScZ
set_option linter.unusedVariables false
set_option linter.unusedSimpArgs false
set_option maxRecDepth 100000
open Go Go.Am Go.Proofs
namespace Go.Am.Scr
theorem and3F : ∀ n : _root_.Fin 256, IntKind.i64.wrap ((BitVec.ofInt IntKind.i64.bits ((n.val : Nat) : Int) &&& BitVec.ofInt IntKind.i64.bits 3).toNat : Int) = ((n.val % 4 : Nat) : Int) := by decide +kernel
theorem and1F : ∀ n : _root_.Fin 256, IntKind.i64.wrap ((BitVec.ofInt IntKind.i64.bits ((n.val : Nat) : Int) &&& BitVec.ofInt IntKind.i64.bits 1).toNat : Int) = ((n.val % 2 : Nat) : Int) := by decide +kernel
theorem and3 (n : Nat) (h : n < 256) : IntKind.i64.wrap ((BitVec.ofInt IntKind.i64.bits (n : Int) &&& BitVec.ofInt IntKind.i64.bits 3).toNat : Int) = ((n % 4 : Nat) : Int) := and3F ⟨n, h⟩
theorem and1 (n : Nat) (h : n < 256) : IntKind.i64.wrap ((BitVec.ofInt IntKind.i64.bits (n : Int) &&& BitVec.ofInt IntKind.i64.bits 1).toNat : Int) = ((n % 2 : Nat) : Int) := and1F ⟨n, h⟩
theorem rem1 (n : Nat) : (n : Int).tmod 2 = ((n % 2 : Nat) : Int) := by rw [Int.tmod_eq_emod_of_nonneg (by omega)]; rfl
theorem group_ok (n : Nat) (hn : n < 256) (a b : ByteArray) : AC PR 49 [.int .i64 n, .str a, .str b] [] (.str (if n % 4 = 1 then a else if n % 4 = 2 then b else ⟨#[]⟩)) [] := by
  have h3 := and3 n hn
  apply A49
  conv => whnf
  generalize IntKind.i64.wrap ((BitVec.ofInt IntKind.i64.bits (n : Int) &&& BitVec.ofInt IntKind.i64.bits 3).toNat : Int) = m at h3
  subst h3
  refine cond_b (fun h => ?_) (fun h => ?_)
  · have h1 : n % 4 = 1 := by have := of_decide_eq_true h; omega
    rw [if_pos h1]
    conv => whnf
    exact at_end []
  have h1 : ¬ n % 4 = 1 := by have := of_decide_eq_false h; omega
  rw [if_neg h1]
  conv => whnf
  refine cond_b (fun h => ?_) (fun h => ?_)
  · have h2 : n % 4 = 2 := by have := of_decide_eq_true h; omega
    rw [if_pos h2]
    conv => whnf
    exact at_end []
  have h2 : ¬ n % 4 = 2 := by have := of_decide_eq_false h; omega
  rw [if_neg h2]
  conv => whnf
  exact at_end []
end Go.Am.Scr
