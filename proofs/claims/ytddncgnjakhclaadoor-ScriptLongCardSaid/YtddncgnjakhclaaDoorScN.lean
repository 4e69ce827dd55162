/- Small numbers as texts, walked. No conditions. -/
import Derived.Test.YtddncgnjakhclaaDoorS3
set_option linter.unusedVariables false
set_option linter.unusedSimpArgs false
set_option maxRecDepth 100000
open Go Go.Am Go.Proofs
namespace Go.Am.Scr
/-- A number below a hundred, in decimal digits. -/
def num (n : Nat) : ByteArray := if n < 10 then ⟨#[UInt8.ofNat (48 + n)]⟩ else ⟨#[UInt8.ofNat (48 + n / 10), UInt8.ofNat (48 + n % 10)]⟩
def tbl : ByteArray := ⟨#[48, 48, 48, 49, 48, 50, 48, 51, 48, 52, 48, 53, 48, 54, 48, 55, 48, 56, 48, 57, 49, 48, 49, 49, 49, 50, 49, 51, 49, 52, 49, 53, 49, 54, 49, 55, 49, 56, 49, 57, 50, 48, 50, 49, 50, 50, 50, 51, 50, 52, 50, 53, 50, 54, 50, 55, 50, 56, 50, 57, 51, 48, 51, 49, 51, 50, 51, 51, 51, 52, 51, 53, 51, 54, 51, 55, 51, 56, 51, 57, 52, 48, 52, 49, 52, 50, 52, 51, 52, 52, 52, 53, 52, 54, 52, 55, 52, 56, 52, 57, 53, 48, 53, 49, 53, 50, 53, 51, 53, 52, 53, 53, 53, 54, 53, 55, 53, 56, 53, 57, 54, 48, 54, 49, 54, 50, 54, 51, 54, 52, 54, 53, 54, 54, 54, 55, 54, 56, 54, 57, 55, 48, 55, 49, 55, 50, 55, 51, 55, 52, 55, 53, 55, 54, 55, 55, 55, 56, 55, 57, 56, 48, 56, 49, 56, 50, 56, 51, 56, 52, 56, 53, 56, 54, 56, 55, 56, 56, 56, 57, 57, 48, 57, 49, 57, 50, 57, 51, 57, 52, 57, 53, 57, 54, 57, 55, 57, 56, 57, 57]⟩
def dig : ByteArray := ⟨#[48, 49, 50, 51, 52, 53, 54, 55, 56, 57, 97, 98, 99, 100, 101, 102, 103, 104, 105, 106, 107, 108, 109, 110, 111, 112, 113, 114, 115, 116, 117, 118, 119, 120, 121, 122]⟩
theorem tbl_at : ∀ i : _root_.Fin 100, 10 ≤ i.val → tbl.extract (2 * i.val) (2 * i.val + 2) = num i.val := by decide +kernel
theorem dig_at : ∀ i : _root_.Fin 10, dig.extract i.val (i.val + 1) = num i.val := by decide +kernel
theorem slice_str {s : ByteArray} {a b : Nat} (h : a ≤ b) (hb : b ≤ s.size) : aSliceStr (.str s) (some (.int .i64 (a : Int))) (some (.int .i64 (b : Int))) = some (.str (s.extract a b)) := by
  simp [aSliceStr, aBounds, AV.natOf, h, hb]
theorem small_ok (n : Nat) (h : n < 100) : AC PR 50 [.int .i64 n] [] (.str (num n)) [] := by
  apply A50
  conv => whnf
  generalize hq : decide ((n : Int) < 10) = q
  cases q
  · have h1 := of_decide_eq_false hq
    conv => whnf
    refine w_as ((2 * n : Nat) : Int) (by omega) (by omega) ?_
    conv => whnf
    refine w_as ((2 * n : Nat) : Int) (by omega) (by omega) ?_
    conv => whnf
    refine w_as ((2 * n + 2 : Nat) : Int) (by omega) (by omega) ?_
    conv => whnf
    refine k_eq (v := .str (num n)) ((slice_str (s := tbl) (a := 2 * n) (b := 2 * n + 2) (by omega) (by show 2 * n + 2 ≤ 200; omega)).trans (by rw [tbl_at ⟨n, h⟩ (by show 10 ≤ n; omega)])) ?_
    conv => whnf
    exact at_end []
  · have h1 := of_decide_eq_true hq
    conv => whnf
    refine w_as ((n + 1 : Nat) : Int) (by omega) (by omega) ?_
    conv => whnf
    refine k_eq (v := .str (num n)) ((slice_str (s := dig) (a := n) (b := n + 1) (by omega) (by show n + 1 ≤ 36; omega)).trans (by rw [dig_at ⟨n, by omega⟩])) ?_
    conv => whnf
    exact at_end []
theorem format_ok (n : Nat) (h : n < 100) : AC PR 48 [.int .i64 n, .int .i64 10] [] (.str (num n)) [] := by
  apply A48
  conv => whnf
  generalize hq : decide ((0 : Int) ≤ (n : Int)) = q
  cases q
  case false => have := of_decide_eq_false hq; omega
  conv => whnf
  generalize hq2 : decide ((n : Int) < 100) = q2
  cases q2
  case false => have := of_decide_eq_false hq2; omega
  conv => whnf
  refine call_closed (small_ok n h) ?_
  conv => whnf
  exact at_end []
theorem itoa0_ok (n : Nat) (h : n < 100) : AC PR 39 [.int .i64 n] [] (.str (num n)) [] := by
  apply A39
  conv => whnf
  refine call_closed (format_ok n h) ?_
  conv => whnf
  exact at_end []
theorem itoa_ok (n : Nat) (h : n < 100) : AC PR 26 [.int .i64 n] [] (.str (num n)) [] := by
  apply A26
  conv => whnf
  refine call_closed (itoa0_ok n h) ?_
  conv => whnf
  exact at_end []
