/- Reading bytes, walked: the program's reader. No conditions. -/
import Derived.Test.YtddncgnjakhclaaDoorScN
set_option linter.unusedVariables false
set_option linter.unusedSimpArgs false
set_option maxRecDepth 100000
open Go Go.Am Go.Proofs
namespace Go.Am.Scr
abbrev bv (b : UInt8) : AV := .int .u8 b.toNat
abbrev RdH (l : List UInt8) (over : Bool) : AHeap := [some (.rows 57 2 [.agg [.lst 1 (l.map bv) none, .bool over]])]
theorem one_nil (over : Bool) : AC PR 13 [.ptr 0 0 0] (RdH [] over) (.int .i64 0) (RdH [] true) := by
  apply A13
  conv => whnf
  exact at_end [some 0]
theorem one_cons (b : UInt8) (l : List UInt8) (over : Bool) : AC PR 13 [.ptr 0 0 0] (RdH (b :: l) over) (.int .i64 b.toNat) (RdH l over) := by
  have hb := b.toNat_lt
  apply A13
  conv => whnf
  generalize hq : decide ((((b :: l).map bv).length : Int) = 0) = q
  cases q
  case true => have := of_decide_eq_true hq; simp at this; omega
  conv => whnf
  refine w_i64 (by omega) ?_
  conv => whnf
  refine k_eq (v := .lst 1 (l.map bv) none) (sl_lstlo (f := bv) (l := b :: l) (by omega) (by simp; omega)) ?_
  conv => whnf
  exact at_end [some 0]
/-- What one reads, and what is left. -/
structure Rd where
  rest : List UInt8
  over : Bool
def one (r : Rd) : Nat × Rd :=
  match r.rest with
  | [] => (0, ⟨[], true⟩)
  | b :: l => (b.toNat, ⟨l, r.over⟩)
abbrev RH (r : Rd) : AHeap := RdH r.rest r.over
theorem one_lt (r : Rd) : (one r).1 < 256 := by
  unfold one
  split
  · omega
  · rename_i b l _; have := b.toNat_lt; omega
theorem one_ok (r : Rd) : AC PR 13 [.ptr 0 0 0] (RH r) (.int .i64 (one r).1) (RH (one r).2) := by
  obtain ⟨rest, over⟩ := r
  cases rest with
  | nil => exact one_nil over
  | cons b l => exact one_cons b l over
/-- A name: a letter and a number. -/
def nameS (of : ByteArray) (many : Nat) (r : Rd) : ByteArray := of ++ num ((one r).1 % many)
theorem num_size (n : Nat) : (num n).size ≤ 2 := by
  unfold num; split <;> simp [ByteArray.size]
theorem name_ok (of : ByteArray) (hof : of.size ≤ 100) (many : Nat) (h0 : 0 < many) (hm : many ≤ 100) (r : Rd) : AC PR 32 [.ptr 0 0 0, .str of, .int .i64 many] (RH r) (.str (nameS of many r)) (RH (one r).2) := by
  have hlt := one_lt r
  have hmod : (one r).1 % many < many := Nat.mod_lt _ h0
  have hns := num_size ((one r).1 % many)
  apply A32
  conv => whnf
  refine call_fr [0] [] (RH (one r).2) (one_ok r) ?_
  conv => whnf
  refine k_eq (v := .int .i64 (((one r).1 % many : Nat) : Int)) ((rem_eq (by omega)).trans (by rw [Int.tmod_eq_emod_of_nonneg (by omega)]; rfl)) ?_
  conv => whnf
  refine call_closed (itoa_ok ((one r).1 % many) (by omega)) ?_
  conv => whnf
  refine cat_ok (c := nameS of many r) (by omega) rfl ?_
  conv => whnf
  exact at_end [some 0]
