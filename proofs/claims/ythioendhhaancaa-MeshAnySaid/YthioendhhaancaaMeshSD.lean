/- The mesh's Double, walked: of texts. No conditions. -/
import Derived.Test.YthioendhhaancaaMeshSW
set_option linter.unusedVariables false
set_option linter.unusedSimpArgs false
set_option maxRecDepth 100000
open Go Go.Am Go.Proofs
namespace Go.Am.MeshS
theorem double_none (n : Nat) (its : List X) (room : Int) (i : Int) (h : ¬ (0 ≤ i ∧ i < n)) : AC PR 15 [.ptr 0 0 0, .int .i64 i] (MH n its room) (.bool false) (MH n its room) := by
  have ht := there_ok n its room i
  rw [decide_eq_false h] at ht
  apply A15
  conv => whnf
  refine call_fr [0, 1] [] (MH n its room) ht ?_
  conv => whnf
  exact at_end [some 0, some 1]
theorem double_full (n : Nat) (its : List X) (room : Int) (i : Nat) (x : X) (hi : i < n) (hx : its[i]? = some x) (h : room ≤ n) : AC PR 15 [.ptr 0 0 0, .int .i64 i] (MH n its room) (.bool false) (MH n its room) := by
  have ht := there_ok n its room i
  rw [decide_eq_true (by omega)] at ht
  apply A15
  conv => whnf
  refine call_fr [0, 1] [] (MH n its room) ht ?_
  conv => whnf
  refine k_idx ?_ _ rfl (by omega) (by omega)
  conv => whnf
  refine k_cell (get_map (i := (i : Int)) hx) ?_
  conv => whnf
  refine call_fr [0, 1] [] (MH n its room) (send_full n its room x h) ?_
  conv => whnf
  exact at_end [some 0, some 1]
theorem double_ok (n : Nat) (its : List X) (room : Int) (i : Nat) (x : X) (hi : i < n) (hn : n ≤ its.length) (hb : (n : Int) ≤ 100000) (hx : its[i]? = some x) (h : (n : Int) < room) : AC PR 15 [.ptr 0 0 0, .int .i64 i] (MH n its room) (.bool true) (MM 2 (n + 1) (putAt n its x) room) := by
  have ht := there_ok n its room i
  rw [decide_eq_true (by omega)] at ht
  apply A15
  conv => whnf
  refine call_fr [0, 1] [] (MH n its room) ht ?_
  conv => whnf
  refine k_idx ?_ _ rfl (by omega) (by omega)
  conv => whnf
  refine k_cell (get_map (i := (i : Int)) hx) ?_
  conv => whnf
  refine call_fr [0, 1] [] (MM 2 (n + 1) (putAt n its x) room) (send_ok n its room x hn hb h) ?_
  conv => whnf
  exact at_end [some 0, some 1, some 2]
theorem putAt_len (n : Nat) (its : List X) (x : X) (hn : n ≤ its.length) : n + 1 ≤ (putAt n its x).length := by simp [putAt]; omega
theorem putAt_old {n : Nat} {its : List X} {x : X} (hn : n ≤ its.length) {j : Nat} (hj : j < n) : (putAt n its x)[j]? = its[j]? := by
  unfold putAt
  rw [List.append_assoc, List.getElem?_append_left (by simp; omega), List.getElem?_take, if_pos hj]
theorem putAt_new {n : Nat} {its : List X} {x : X} (hn : n ≤ its.length) : (putAt n its x)[n]? = some x := by
  unfold putAt
  rw [List.append_assoc, List.getElem?_append_right (by simp; omega)]
  have : n - (its.take n).length = 0 := by simp; omega
  rw [this]; rfl
theorem delAt_get {n i : Nat} {its : List X} (hi : i < n) (hn : n ≤ its.length) {j : Nat} (hj : j < n - 1) : (delAt n its i)[j]? = if j < i then its[j]? else its[j + 1]? := by
  unfold delAt
  split
  · rename_i h
    rw [List.getElem?_append_left (by simp; omega), List.getElem?_take, if_pos h]
  · rename_i h
    have h1 : (its.take i).length = i := by simp; omega
    rw [List.getElem?_append_right (by omega), h1, List.append_assoc, List.getElem?_append_left (by simp; omega), List.getElem?_take, if_pos (by omega), List.getElem?_drop]
    congr 1; omega
