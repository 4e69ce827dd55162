/- The mesh's functions, walked: of texts. No conditions. -/
import Derived.Test.YthioendhhaancaaM3
import Derived.Test.YthioendhhaancaaHeapD
set_option linter.unusedVariables false
set_option linter.unusedSimpArgs false
set_option maxRecDepth 100000
open Go Go.Am Go.Proofs
namespace Go.Am.MeshS
abbrev X := ByteArray
abbrev av (a : X) : AV := .str a
abbrev zX : X := (⟨#[]⟩ : ByteArray)
abbrev mO (sl : AV) (room : Int) : AObj := .rows 54 2 [.agg [sl, .int .i64 room]]
abbrev MH (n : Nat) (its : List X) (room : Int) : AHeap := [some (mO (.slc 1 0 n none) room), some (.rows 9 1 (its.map av))]
abbrev MA (j : Nat) (n : Nat) (its : List X) (room : Int) : AHeap := [some (mO (.slc j 0 n none) room), some (.rows 9 1 (its.map av))]
abbrev MM (j : Nat) (n : Nat) (its : List X) (room : Int) : AHeap := [some (mO (.slc j 0 n none) room), none, some (.rows 9 1 (its.map av))]
def putAt (n : Nat) (its : List X) (a : X) : List X := its.take n ++ [a] ++ its.drop (n + 1)
def delAt (n : Nat) (its : List X) (i : Nat) : List X := its.take i ++ ((its.drop (i + 1)).take (n - (i + 1)) ++ [zX] ++ its.drop n)
theorem delAt_len {n : Nat} {its : List X} {i : Nat} (hi : i < n) (hn : n ≤ its.length) : (delAt n its i).length = its.length := by simp [delAt]; omega
theorem new_ok (r : Int) : AC PR 9 [.int .i64 r] [] (.ptr 0 0 0) (MH 0 [] (max 0 (min r 65536))) := by
  apply A9
  conv => whnf
  have e : (if (0 : Int) < (if (65536 : Int) < r then 65536 else r) then (if (65536 : Int) < r then 65536 else r) else 0) = max 0 (min r 65536) := by split <;> split <;> omega
  refine at_end [some 0, none] (hr := ?_) (hN := ?_) <;> first | exact .ptr _ _ _ _ rfl | skip
  refine ⟨⟨_, rfl, .rowsL ⟨.aggL ⟨.nil _ rfl (Nat.zero_le _), .int e, trivial⟩, trivial⟩⟩, by decide, trivial⟩
theorem len_ok (n : Nat) (its : List X) (room : Int) : AC PR 17 [.ptr 0 0 0] (MH n its room) (.int .i64 n) (MH n its room) := by
  apply A17
  conv => whnf
  exact at_end [some 0, some 1]
theorem send_full (n : Nat) (its : List X) (room : Int) (x : X) (h : room ≤ n) : AC PR 11 [.ptr 0 0 0, av x] (MH n its room) (.bool false) (MH n its room) := by
  apply A11
  conv => whnf
  generalize hq : decide (room ≤ (n : Int)) = q
  cases q
  · have := of_decide_eq_false hq; omega
  conv => whnf
  exact at_end [some 0, some 1]
theorem send_ok (n : Nat) (its : List X) (room : Int) (x : X) (hn : n ≤ its.length) (hb : (n : Int) ≤ 100000) (h : (n : Int) < room) : AC PR 11 [.ptr 0 0 0, av x] (MH n its room) (.bool true) (MM 2 (n + 1) (putAt n its x) room) := by
  apply A11
  conv => whnf
  generalize hq : decide (room ≤ (n : Int)) = q
  cases q
  case true => have := of_decide_eq_true hq; omega
  conv => whnf
  refine app_map (f := av) (l := its) (new := [x]) rfl rfl hn (by simp [roomBound]; omega) (fun h => ?_) (fun h => ⟨by simp; omega, ?_⟩)
  · have e : putAt n its x = its ++ [x] := by simp [putAt, h, List.drop_eq_nil_of_le]
    rw [e]
    conv => whnf
    exact at_end [some 0, some 1, some 3]
  · have e : putAt n its x = its.take n ++ [x] ++ its.drop (n + 1) := rfl
    rw [e]
    conv => whnf
    exact at_end [some 0, some 1, some 1]
theorem there_ok (n : Nat) (its : List X) (room : Int) (i : Int) : AC PR 26 [.ptr 0 0 0, .int .i64 i] (MH n its room) (.bool (decide (0 ≤ i ∧ i < n))) (MH n its room) := by
  apply A26
  conv => whnf
  generalize hq : decide ((0 : Int) ≤ i) = q
  cases q
  · have h := of_decide_eq_false hq
    have : ¬ (0 ≤ i ∧ i < n) := by omega
    rw [decide_eq_false this]
    conv => whnf
    exact at_end [some 0, some 1]
  · have h := of_decide_eq_true hq
    conv => whnf
    refine call_fr [0, 1] [] (MH n its room) (len_ok n its room) ?_
    conv => whnf
    have : decide (0 ≤ i ∧ i < n) = decide (i < (n : Int)) := by simp [h]
    rw [this]
    exact at_end [some 0, some 1]
theorem delete_ok (n : Nat) (its : List X) (i : Nat) (hi : i < n) (hn : n ≤ its.length) (hb : (n : Int) ≤ 1000000) :
    AC PR 27 [.slc 0 0 n none, .int .i64 i, .int .i64 ((i + 1 : Nat) : Int)] [some (.rows 9 1 (its.map av))] (.slc 0 0 (n - 1) none) [some (.rows 9 1 ((delAt n its i).map av))] := by
  apply A27
  conv => whnf
  refine k_eq (sl_3_eq rfl (by omega) (by omega) (by omega) (by simp; omega)) ?_
  conv => whnf
  generalize hq : decide ((i : Int) = ((i + 1 : Nat) : Int)) = q
  cases q
  case true => have := of_decide_eq_true hq; omega
  conv => whnf
  refine k_eq (sl_hi_eq rfl (by omega) (by simp; omega)) ?_
  conv => whnf
  refine k_eq (sl_lo_eq rfl (by omega) (by omega) (by simp; omega)) ?_
  conv => whnf
  refine app_map (f := av) (l := its) (new := (its.drop (i + 1)).take (n - (i + 1))) rfl ?_ (by simp; omega) (by simp [roomBound]; omega) (fun h => by simp at h; omega) (fun h => ⟨by simp; omega, ?_⟩)
  · simp [srcOf, view, rowsOf, List.map_drop]
    omega
  have e1 : (i : Int).toNat + ((its.drop (i + 1)).take (n - (i + 1))).length = n - 1 := by simp; omega
  rw [e1]
  conv => whnf
  refine k_eq (sl_lohi_eq rfl (by omega) (by omega) (by simp; omega)) ?_
  conv => whnf
  refine clr_map (f := av) zX rfl (by simp; omega) rfl rfl ?_
  conv => whnf
  have e2 : ∀ A : List X, A.length = n - 1 → (A ++ its.drop (n - 1)).take ((n - 1 : Nat) : Int).toNat ++ List.replicate ((n : Int).toNat - ((n - 1 : Nat) : Int).toNat) zX ++ (A ++ its.drop (n - 1)).drop (((n - 1 : Nat) : Int).toNat + ((n : Int).toNat - ((n - 1 : Nat) : Int).toNat)) = A ++ ([zX] ++ its.drop n) := fun A hA => by
    have h1 : (n : Int).toNat - ((n - 1 : Nat) : Int).toNat = 1 := by omega
    have h2 : ((n - 1 : Nat) : Int).toNat = n - 1 := by omega
    rw [h1, h2, List.take_append_of_le_length (by omega), List.take_of_length_le (by omega), List.drop_append, List.drop_eq_nil_of_le (by omega), List.drop_drop, hA]
    simp only [List.replicate, List.nil_append, List.append_assoc]
    congr 3; omega
  rw [e2 _ (by simp; omega)]
  have e3 : delAt n its i = its.take i ++ (its.drop (i + 1)).take (n - (i + 1)) ++ ([zX] ++ its.drop n) := by simp [delAt]
  rw [e3]
  exact at_end [some 0]
theorem take_none (n : Nat) (its : List X) (room : Int) (i : Int) (h : ¬ (0 ≤ i ∧ i < n)) : AC PR 13 [.ptr 0 0 0, .int .i64 i] (MH n its room) (.tuple [av zX, .bool false]) (MH n its room) := by
  have ht := there_ok n its room i
  rw [decide_eq_false h] at ht
  apply A13
  conv => whnf
  refine call_fr [0, 1] [] (MH n its room) ht ?_
  conv => whnf
  exact at_end [some 0, some 1]
theorem take_ok (n : Nat) (its : List X) (room : Int) (i : Nat) (x : X) (hi : i < n) (hn : n ≤ its.length) (hb : (n : Int) ≤ 100000) (hx : its[i]? = some x) : AC PR 13 [.ptr 0 0 0, .int .i64 i] (MH n its room) (.tuple [av x, .bool true]) (MH (n - 1) (delAt n its i) room) := by
  have ht := there_ok n its room i
  rw [decide_eq_true (by omega)] at ht
  apply A13
  conv => whnf
  refine call_fr [0, 1] [] (MH n its room) ht ?_
  conv => whnf
  refine k_idx ?_ _ rfl (by omega) (by omega)
  conv => whnf
  refine k_cell (get_map (i := (i : Int)) hx) ?_
  conv => whnf
  refine w_as ((i + 1 : Nat) : Int) (by omega) (by omega) ?_
  conv => whnf
  refine call_fr [1] [] [some (.rows 9 1 ((delAt n its i).map av))] (delete_ok n its i hi hn (by omega)) ?_
  conv => whnf
  exact at_end [some 0, some 1]
