/- The heap, walked on: of pairs. No conditions. -/
import Derived.Test.YtkhnfceedbmkcaaHeapPV
set_option linter.unusedVariables false
set_option linter.unusedSimpArgs false
set_option maxRecDepth 100000
open Go Go.Am Go.Proofs Go.Am.Heap
namespace Go.Am.HeapP
abbrev zIt : It X := ⟨⟨0, 0⟩, 0⟩
theorem delete_ok (n : Nat) (its : List (It X)) (i : Nat) (hi : i < n) (hn : n ≤ its.length) (hb : (n : Int) ≤ 1000000) :
    AC PR 32 [.slc 0 0 n none, .int .i64 i, .int .i64 ((i + 1 : Nat) : Int)] [some (.rows 62 3 (its.map irow))] (.slc 0 0 (n - 1) none) [some (.rows 62 3 ((delAt zIt n its i).map irow))] := by
  apply A32
  conv => whnf
  refine k_eq (sl_3_eq rfl (by omega) (by omega) (by omega) (by simp; omega)) ?_
  conv => whnf
  generalize hq : decide ((i : Int) = ((i + 1 : Nat) : Int)) = q
  cases q
  case true => have := of_decide_eq_true hq; omega
  conv => whnf
  refine k_eq (sl_hi_eq rfl (by omega) (by simp; omega)) ?_
  conv => whnf
  refine k_eq (sl_lo_eq rfl (by omega) (by omega) (by simp; omega)) ?_
  conv => whnf
  refine app_map (f := irow) (l := its) (new := (its.drop (i + 1)).take (n - (i + 1))) rfl ?_ (by simp; omega) (by simp [roomBound]; omega) (fun h => by simp at h; omega) (fun h => ⟨by simp; omega, ?_⟩)
  · simp [srcOf, view, rowsOf, List.map_drop]
    omega
  have e1 : (i : Int).toNat + ((its.drop (i + 1)).take (n - (i + 1))).length = n - 1 := by simp; omega
  rw [e1]
  conv => whnf
  refine k_eq (sl_lohi_eq rfl (by omega) (by omega) (by simp; omega)) ?_
  conv => whnf
  refine clr_map (f := irow) zIt rfl (by simp; omega) rfl rfl ?_
  conv => whnf
  have e2 : ∀ A : List (It X), A.length = n - 1 → (A ++ its.drop (n - 1)).take ((n - 1 : Nat) : Int).toNat ++ List.replicate ((n : Int).toNat - ((n - 1 : Nat) : Int).toNat) zIt ++ (A ++ its.drop (n - 1)).drop (((n - 1 : Nat) : Int).toNat + ((n : Int).toNat - ((n - 1 : Nat) : Int).toNat)) = A ++ ([zIt] ++ its.drop n) := fun A hA => by
    have h1 : (n : Int).toNat - ((n - 1 : Nat) : Int).toNat = 1 := by omega
    have h2 : ((n - 1 : Nat) : Int).toNat = n - 1 := by omega
    rw [h1, h2, List.take_append_of_le_length (by omega), List.take_of_length_le (by omega), List.drop_append, List.drop_eq_nil_of_le (by omega), List.drop_drop, hA]
    simp only [List.replicate, List.nil_append, List.append_assoc]
    congr 3; omega
  rw [e2 _ (by simp; omega)]
  have e3 : delAt zIt n its i = its.take i ++ (its.drop (i + 1)).take (n - (i + 1)) ++ ([zIt] ++ its.drop n) := by simp [delAt]
  rw [e3]
  exact at_end [some 0]
theorem pop_ok {less : AV} {lt : X → X → Bool} (hl : Less less lt) (n : Nat) (its : List (It X)) (seq : Int) (a : It X) (hi : its[0]? = some a) (h0 : 0 < n) (hn : n ≤ its.length) (hb : (n : Int) ≤ 100000) :
    AC PR 14 [.ptr 0 0 0] (HL less n its seq) (.tuple [av a.x, .bool true]) (HL less (n - 1) (popL lt zIt n its) seq) := by
  have hbel := hl.bel
  obtain ⟨b, hb2⟩ : ∃ b, its[n - 1]? = some b := ⟨_, List.getElem?_eq_getElem (by omega)⟩
  apply A14
  conv => whnf
  refine call_fr [0, 1] [] (HL less n its seq) (top_ok hbel n its seq a hi h0) ?_
  conv => whnf
  refine w_as ((n - 1 : Nat) : Int) (by omega) (by omega) ?_
  conv => whnf
  refine call_fr [0, 1] [] (HL less n (swapL its 0 (n - 1)) seq) (swap_ok hbel n its seq 0 ((n - 1 : Nat) : Int) a b (by omega) (by omega) (by omega) (by omega) hi hb2) ?_
  conv => whnf
  refine w_as ((n - 1 + 1 : Nat) : Int) (by omega) (by omega) ?_
  conv => whnf
  refine call_fr [1] [] [some (.rows 62 3 ((delAt zIt n (swapL its 0 (n - 1)) (n - 1)).map irow))] (delete_ok n (swapL its 0 (n - 1)) (n - 1) (by omega) (by simpa using hn) (by omega)) ?_
  conv => whnf
  refine call_fr [0, 1] [] (HL less (n - 1) (downF lt (n - 1) (n - 1) (delAt zIt n (swapL its 0 (n - 1)) (n - 1)) 0) seq) (down_ok hl (n - 1) (delAt zIt n (swapL its 0 (n - 1)) (n - 1)) seq 0 (by rw [delAt_len (by omega) (by simpa using hn)]; simp; omega) (by omega) (by omega)) ?_
  conv => whnf
  exact at_end [some 0, some 1]
theorem pop_none {less : AV} (hb : Bel 0 less) (its : List (It X)) (seq : Int) : AC PR 14 [.ptr 0 0 0] (HL less 0 its seq) (.tuple [zX, .bool false]) (HL less 0 its seq) := by
  apply A14
  conv => whnf
  refine call_fr [0, 1] [] (HL less 0 its seq) (top_none hb its seq) ?_
  conv => whnf
  exact at_end [some 0, some 1]
theorem pop_nil : AC PR 14 [.nilptr] [] (.tuple [zX, .bool false]) [] := by
  apply A14
  conv => whnf
  refine call_fr [] [] [] top_nil ?_
  conv => whnf
  exact at_end []
theorem clone_ok (n : Nat) (its : List (It X)) (hn : n ≤ its.length) (hb : (n : Int) ≤ 100000) : AC PR 30 [.slc 0 0 n none] [some (.rows 62 3 (its.map irow))] (.slc 1 0 n none) [some (.rows 62 3 (its.map irow)), some (.rows 62 3 ((its.take n).map irow))] := by
  apply A30
  conv => whnf
  rcases n with _ | n
  · refine nil_both rfl (fun b => ?_)
    cases b
    · conv => whnf
      refine app_map (f := irow) (l := []) (new := []) rfl rfl (by simp) (by simp [roomBound]) (fun _ => ?_) (fun h => absurd h (by simp))
      conv => whnf
      exact at_end [some 0, some 2]
    · conv => whnf
      exact at_end [some 0, none]
  · refine nil_is rfl ?_
    conv => whnf
    refine app_map (f := irow) (l := []) (new := its.take (n + 1)) rfl ?_ (by simp) (by simp [roomBound]; omega) (fun _ => ?_) (fun h => absurd h (by simp))
    · simp [srcOf, view, rowsOf, List.map_take]
      omega
    conv => whnf
    exact at_end [some 0, some 2]
theorem sorted_n {lt : X → X → Bool} (hl : Less (AV.nilfn) lt) (n : Nat) (its : List (It X)) (seq : Int) (hn : n ≤ its.length) (hb : (n : Int) ≤ 100000) :
    AC PR 12 [.ptr 0 0 0] (HL (AV.nilfn) n its seq) (.slc 2 0 (sortF lt zIt n (its.take n)).length none) (HL (AV.nilfn) n its seq ++ [some (.rows 27 2 ((sortF lt zIt n (its.take n)).map av))]) := by
  have hbel := hl.bel
  apply A12
  conv => whnf
  refine call_fr [1] [] [some (.rows 62 3 (its.map irow)), some (.rows 62 3 ((its.take n).map irow))] (clone_ok n its hn hb) ?_
  conv => whnf
  refine And.intro rfl ?_
  conv => whnf
  refine LoopP_rule (fun m e H => ∃ (j : Nat) (l : List (It X)) (outs : List X), e = [(3, .ptr 2 0 0), (4, .slc 4 0 outs.length none)] ∧ m = j ∧ j ≤ l.length ∧ j + outs.length ≤ n ∧ outs ++ sortF lt zIt j l = sortF lt zIt n (its.take n) ∧
    H = HL (AV.nilfn) n its seq ++ [some (hpO (AV.nilfn) (.slc 3 0 j none) 0), some (.rows 62 3 (l.map irow)), some (.rows 27 2 (outs.map av))]) ?_ ?_
  · rintro m e H ⟨j, l, outs, rfl, rfl, hj, hjo, hs, rfl⟩
    conv => whnf
    refine call_fr [2, 3] [] (HA 3 _ m l 0) (len_ok _ hbel m l 0) ?_
    conv => whnf
    cases m with
    | zero =>
      conv => whnf
      have e : outs = sortF lt zIt n (its.take n) := by simpa [sortF] using hs
      subst e
      exact at_end [some 0, some 1, some 4]
    | succ m =>
      have h0 : 0 < l.length := by omega
      obtain ⟨a, ha⟩ : ∃ a, l[0]? = some a := ⟨_, List.getElem?_eq_getElem h0⟩
      generalize hq : decide ((0 : Int) < ((m + 1 : Nat) : Int)) = q
      cases q
      · have := of_decide_eq_false hq; omega
      conv => whnf
      refine call_fr [2, 3] [] (HA 3 _ m (popL lt zIt (m + 1) l) 0) (pop_ok hl (m + 1) l 0 a ha (by omega) hj (by omega)) ?_
      conv => whnf
      refine app_map (f := av) (l := outs) (new := [a.x]) rfl rfl (by simp) (by simp [roomBound]; omega) (fun _ => ?_) (fun h => absurd h (by simp))
      conv => whnf
      refine at_head [some 0, some 1, some 2, some 3, some 7] (HL (AV.nilfn) n its seq ++ [some (hpO (AV.nilfn) (.slc 3 0 m none) 0), some (.rows 62 3 ((popL lt zIt (m + 1) l).map irow)), some (.rows 27 2 ((outs ++ [a.x]).map av))])
        [(3, .ptr 2 0 0), (4, .slc 4 0 (outs ++ [a.x]).length none)] ⟨m, by omega, m, popL lt zIt (m + 1) l, outs ++ [a.x], rfl, rfl, by rw [popL_len lt (by omega) hj]; omega, by simp; omega, ?_, rfl⟩
      rw [← hs]
      simp [sortF, ha]
  · conv => whnf
    refine at_head [some 0, some 1, some 3, some 2, none] (HL (AV.nilfn) n its seq ++ [some (hpO (AV.nilfn) (.slc 3 0 n none) 0), some (.rows 62 3 ((its.take n).map irow)), some (.rows 27 2 ([].map av))])
        [(3, .ptr 2 0 0), (4, .slc 4 0 0 none)] ⟨n, n, its.take n, [], rfl, rfl, by simp; omega, by simp, rfl, rfl⟩
theorem sorted_f {lt : X → X → Bool} (hl : Less (AV.fn (.func 10) [] []) lt) (n : Nat) (its : List (It X)) (seq : Int) (hn : n ≤ its.length) (hb : (n : Int) ≤ 100000) :
    AC PR 12 [.ptr 0 0 0] (HL (AV.fn (.func 10) [] []) n its seq) (.slc 2 0 (sortF lt zIt n (its.take n)).length none) (HL (AV.fn (.func 10) [] []) n its seq ++ [some (.rows 27 2 ((sortF lt zIt n (its.take n)).map av))]) := by
  have hbel := hl.bel
  apply A12
  conv => whnf
  refine call_fr [1] [] [some (.rows 62 3 (its.map irow)), some (.rows 62 3 ((its.take n).map irow))] (clone_ok n its hn hb) ?_
  conv => whnf
  refine And.intro rfl ?_
  conv => whnf
  refine LoopP_rule (fun m e H => ∃ (j : Nat) (l : List (It X)) (outs : List X), e = [(3, .ptr 2 0 0), (4, .slc 4 0 outs.length none)] ∧ m = j ∧ j ≤ l.length ∧ j + outs.length ≤ n ∧ outs ++ sortF lt zIt j l = sortF lt zIt n (its.take n) ∧
    H = HL (AV.fn (.func 10) [] []) n its seq ++ [some (hpO (AV.fn (.func 10) [] []) (.slc 3 0 j none) 0), some (.rows 62 3 (l.map irow)), some (.rows 27 2 (outs.map av))]) ?_ ?_
  · rintro m e H ⟨j, l, outs, rfl, rfl, hj, hjo, hs, rfl⟩
    conv => whnf
    refine call_fr [2, 3] [] (HA 3 _ m l 0) (len_ok _ hbel m l 0) ?_
    conv => whnf
    cases m with
    | zero =>
      conv => whnf
      have e : outs = sortF lt zIt n (its.take n) := by simpa [sortF] using hs
      subst e
      exact at_end [some 0, some 1, some 4]
    | succ m =>
      have h0 : 0 < l.length := by omega
      obtain ⟨a, ha⟩ : ∃ a, l[0]? = some a := ⟨_, List.getElem?_eq_getElem h0⟩
      generalize hq : decide ((0 : Int) < ((m + 1 : Nat) : Int)) = q
      cases q
      · have := of_decide_eq_false hq; omega
      conv => whnf
      refine call_fr [2, 3] [] (HA 3 _ m (popL lt zIt (m + 1) l) 0) (pop_ok hl (m + 1) l 0 a ha (by omega) hj (by omega)) ?_
      conv => whnf
      refine app_map (f := av) (l := outs) (new := [a.x]) rfl rfl (by simp) (by simp [roomBound]; omega) (fun _ => ?_) (fun h => absurd h (by simp))
      conv => whnf
      refine at_head [some 0, some 1, some 2, some 3, some 7] (HL (AV.fn (.func 10) [] []) n its seq ++ [some (hpO (AV.fn (.func 10) [] []) (.slc 3 0 m none) 0), some (.rows 62 3 ((popL lt zIt (m + 1) l).map irow)), some (.rows 27 2 ((outs ++ [a.x]).map av))])
        [(3, .ptr 2 0 0), (4, .slc 4 0 (outs ++ [a.x]).length none)] ⟨m, by omega, m, popL lt zIt (m + 1) l, outs ++ [a.x], rfl, rfl, by rw [popL_len lt (by omega) hj]; omega, by simp; omega, ?_, rfl⟩
      rw [← hs]
      simp [sortF, ha]
  · conv => whnf
    refine at_head [some 0, some 1, some 3, some 2, none] (HL (AV.fn (.func 10) [] []) n its seq ++ [some (hpO (AV.fn (.func 10) [] []) (.slc 3 0 n none) 0), some (.rows 62 3 ((its.take n).map irow)), some (.rows 27 2 ([].map av))])
        [(3, .ptr 2 0 0), (4, .slc 4 0 0 none)] ⟨n, n, its.take n, [], rfl, rfl, by simp; omega, by simp, rfl, rfl⟩
theorem sorted_ok {less : AV} {lt : X → X → Bool} (hl : Less less lt) (n : Nat) (its : List (It X)) (seq : Int) (hn : n ≤ its.length) (hb : (n : Int) ≤ 100000) :
    AC PR 12 [.ptr 0 0 0] (HL less n its seq) (.slc 2 0 (sortF lt zIt n (its.take n)).length none) (HL less n its seq ++ [some (.rows 27 2 ((sortF lt zIt n (its.take n)).map av))]) := by
  obtain ⟨hb0, ⟨rfl, rfl⟩ | ⟨rfl, rfl⟩⟩ := hl
  · exact sorted_n ⟨hb0, .inl ⟨rfl, rfl⟩⟩ n its seq hn hb
  · exact sorted_f ⟨hb0, .inr ⟨rfl, rfl⟩⟩ n its seq hn hb
theorem sorted_nil : AC PR 12 [.nilptr] [] .nilslc [] := by
  apply A12
  conv => whnf
  exact at_end []
