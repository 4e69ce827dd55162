/- Tasks, read. No conditions. -/
import Derived.Test.YtddncgnjakhclaaDoorScL3
set_option linter.unusedVariables false
set_option linter.unusedSimpArgs false
set_option maxRecDepth 100000
open Go Go.Am Go.Proofs
namespace Go.Am.Scr
abbrev amR (r : Rd) : Rs := ⟨at' 0 r, at' 1 r, at' 2 r⟩
theorem amount_ok' (r : Rd) : AC PR 41 [.ptr 0 0 0] (RH r) (rsA (amR r)) (RH (after 3 r)) := amount_ok r
abbrev pickS (n : Nat) (a b : ByteArray) : ByteArray := if n % 4 = 1 then a else if n % 4 = 2 then b else ⟨#[]⟩
def sT : ByteArray := ⟨#[116]⟩
def sQ : ByteArray := ⟨#[113]⟩
def sN : ByteArray := ⟨#[110]⟩
def sX : ByteArray := ⟨#[120]⟩
def sY : ByteArray := ⟨#[121]⟩
def sG : ByteArray := ⟨#[103]⟩
def sH : ByteArray := ⟨#[104]⟩
def gangF (r : Rd) : ByteArray := pickS (at' 6 r / 16) sG sH
def taskF (r : Rd) : Tk where
  name := nameS sT 32 r
  queue := nameS sQ 4 (after 1 r)
  prio := ((at' 2 r % 10 : Nat) : Int)
  need := amR (after 3 r)
  wants := labF (at' 6 r)
  apart := pickS (at' 6 r / 4) sX sY
  gang := gangF r
  size := if gangF r = ⟨#[]⟩ then 0 else ((2 + at' 7 r % 3 : Nat) : Int)
theorem fd4 (n : Nat) : (n : Int).fdiv (2 ^ min (Int.toNat 2) IntKind.i64.bits) = ((n / 4 : Nat) : Int) := by
  rw [show min (Int.toNat 2) IntKind.i64.bits = 2 from rfl, Int.fdiv_eq_ediv_of_nonneg _ (by omega)]; simp
theorem fd16 (n : Nat) : (n : Int).fdiv (2 ^ min (Int.toNat 4) IntKind.i64.bits) = ((n / 16 : Nat) : Int) := by
  rw [show min (Int.toNat 4) IntKind.i64.bits = 4 from rfl, Int.fdiv_eq_ediv_of_nonneg _ (by omega)]; simp
theorem tm3 (n : Nat) : (n : Int).tmod 3 = ((n % 3 : Nat) : Int) := by rw [Int.tmod_eq_emod_of_nonneg (by omega)]; rfl
theorem tm10 (n : Nat) : (n : Int).tmod 10 = ((n % 10 : Nat) : Int) := by rw [Int.tmod_eq_emod_of_nonneg (by omega)]; rfl
theorem task_ok (r : Rd) : AC PR 43 [.ptr 0 0 0] (RH r) (tkA (taskF r)) (RH (after 8 r)) := by
  have l2 := one_lt (after 2 r)
  have l6 := one_lt (after 6 r)
  have l7 := one_lt (after 7 r)
  have e6 : (one (after 6 r)).1 = at' 6 r := rfl
  have e7 : (one (after 7 r)).1 = at' 7 r := rfl
  apply A43
  conv => whnf
  refine call_fr [0] [] (RH (after 1 r)) (name_ok sT (by decide) 32 (by omega) (by omega) r) ?_
  conv => whnf
  refine call_fr [0] [] (RH (after 2 r)) (name_ok sQ (by decide) 4 (by omega) (by omega) (after 1 r)) ?_
  conv => whnf
  refine call_fr [0] [] (RH (after 3 r)) (one_ok (after 2 r)) ?_
  conv => whnf
  rw [show ((at' 2 r : Nat) : Int).tmod 10 = ((at' 2 r % 10 : Nat) : Int) by rw [Int.tmod_eq_emod_of_nonneg (by omega)]; rfl]
  refine call_fr [0] [] (RH (after 6 r)) (amount_ok' (after 3 r)) ?_
  conv => whnf
  refine call_fr [0] [] (RH (after 7 r)) (one_ok (after 6 r)) ?_
  conv => whnf
  refine call_fr [0] [] (RH (after 8 r)) (one_ok (after 7 r)) ?_
  conv => whnf
  refine call_closed (labels_ok (at' 6 r) l6) ?_
  conv => whnf
  rw [fd4]
  refine call_closed (group_ok (at' 6 r / 4) (by omega) sX sY) ?_
  conv => whnf
  rw [fd16]
  refine call_closed (group_ok (at' 6 r / 16) (by omega) sG sH) ?_
  conv => whnf
  refine cond_nb (fun h => ?_) (fun h => ?_)
  · have hg : ¬ gangF r = ⟨#[]⟩ := of_decide_eq_false h
    conv => whnf
    rw [tm3]
    refine w_as ((2 + at' 7 r % 3 : Nat) : Int) (by omega) (by omega) ?_
    conv => whnf
    rw [show tkA (taskF r) = tkA { taskF r with size := ((2 + at' 7 r % 3 : Nat) : Int) } by simp [taskF, hg]]
    exact at_end [some 0]
  · have hg : gangF r = ⟨#[]⟩ := of_decide_eq_true h
    conv => whnf
    rw [show tkA (taskF r) = tkA { taskF r with size := 0 } by simp [taskF, hg]]
    exact at_end [some 0]
end Go.Am.Scr
