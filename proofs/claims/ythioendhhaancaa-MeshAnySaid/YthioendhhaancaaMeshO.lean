/- The law of what is taken once, walked. No conditions. -/
import Derived.Test.YthioendhhaancaaMeshIW
set_option linter.unusedVariables false
set_option linter.unusedSimpArgs false
set_option maxRecDepth 100000
open Go Go.Am Go.Proofs
namespace Go.Am.MeshI
abbrev ML (l : List Int) : AV := .lst 1 (l.map av) none
theorem clone_ok (n : Nat) (its : List X) (hn : n ≤ its.length) (hb : (n : Int) ≤ 100000) : AC PR 28 [.slc 0 0 n none] [some (.rows 3 1 (its.map av))] (.slc 1 0 n none) [some (.rows 3 1 (its.map av)), some (.rows 3 1 ((its.take n).map av))] := by
  apply A28
  conv => whnf
  rcases n with _ | n
  · refine nil_both rfl (fun b => ?_)
    cases b
    · conv => whnf
      refine app_map (f := av) (l := []) (new := []) rfl rfl (by simp) (by simp [roomBound]) (fun _ => ?_) (fun h => absurd h (by simp))
      conv => whnf
      exact at_end [some 0, some 2]
    · conv => whnf
      exact at_end [some 0, none]
  · refine nil_is rfl ?_
    conv => whnf
    refine app_map (f := av) (l := []) (new := its.take (n + 1)) rfl ?_ (by simp) (by simp [roomBound]; omega) (fun _ => ?_) (fun h => absurd h (by simp))
    · simp [srcOf, view, rowsOf, List.map_take]
      omega
    conv => whnf
    exact at_end [some 0, some 2]
theorem all_ok (n : Nat) (its : List X) (room : Int) (hn : n ≤ its.length) (hb : (n : Int) ≤ 100000) : AC PR 18 [.ptr 0 0 0] (MH n its room) (.slc 2 0 n none) (MH n its room ++ [some (.rows 3 1 ((its.take n).map av))]) := by
  apply A18
  conv => whnf
  refine call_fr [1] [] [some (.rows 3 1 (its.map av)), some (.rows 3 1 ((its.take n).map av))] (clone_ok n its hn hb) ?_
  conv => whnf
  exact at_end [some 0, some 1, some 2]
theorem same_ok (a b : List X) (ha : (a.length : Int) ≤ 1000000) : AC PR 19 [ML a, ML b] [] (.bool (decide (a = b))) [] := by
  by_cases hl : a.length = b.length
  · apply A19
    conv => whnf
    generalize hq : (!decide (((a.map av).length : Int) = ((b.map av).length : Int))) = q
    cases q
    case true => simp [hl] at hq
    conv => whnf
    refine loop_to a.length (fun k e H => e = [(0, ML a), (1, ML b), (12, .int .i64 a.length), (13, .int .i64 k)] ∧ H = [] ∧ a.take k = b.take k) ?_ ?_
    · rintro k e H hk ⟨rfl, rfl, hj⟩
      conv => whnf
      generalize hq : decide ((k : Int) < (a.length : Int)) = q
      cases q
      · have hk' : k = a.length := by have := of_decide_eq_false hq; omega
        subst hk'
        rw [List.take_of_length_le (Nat.le_refl _), List.take_of_length_le (by omega)] at hj
        conv => whnf
        rw [decide_eq_true hj]
        exact at_end []
      · have hk' : k < a.length := by have := of_decide_eq_true hq; omega
        obtain ⟨x, hx⟩ : ∃ x, a[k]? = some x := ⟨_, List.getElem?_eq_getElem hk'⟩
        obtain ⟨y, hy⟩ : ∃ y, b[k]? = some y := ⟨_, List.getElem?_eq_getElem (by omega)⟩
        conv => whnf
        refine k_el (get_map (i := (k : Int)) hx) (by omega) ?_
        conv => whnf
        refine k_el (get_map (i := (k : Int)) hy) (by omega) ?_
        conv => whnf
        generalize hxy : (!decide (x = y)) = d
        cases d
        · have hxy : x = y := by simpa using hxy
          conv => whnf
          refine w_as ((k + 1 : Nat) : Int) (by omega) (by omega) ?_
          conv => whnf
          refine at_head [] [] [(0, ML a), (1, ML b), (12, .int .i64 a.length), (13, .int .i64 ((k + 1 : Nat) : Int))] ⟨hk', rfl, rfl, ?_⟩
          rw [List.take_add_one, List.take_add_one, hj, hx, hy, hxy]
        · have : ¬ a = b := fun e => by
            subst e
            rw [hx] at hy; cases hy
            simp at hxy
          conv => whnf
          rw [decide_eq_false this]
          exact at_end []
    · conv => whnf
      exact at_head [] [] [(0, ML a), (1, ML b), (12, .int .i64 a.length), (13, .int .i64 ((0 : Nat) : Int))] ⟨rfl, rfl, by simp⟩
  · have : ¬ a = b := fun e => hl (by rw [e])
    rw [decide_eq_false this]
    apply A19
    conv => whnf
    generalize hq : (!decide (((a.map av).length : Int) = ((b.map av).length : Int))) = q
    cases q
    · simp at hq; omega
    · conv => whnf
      exact at_end []
theorem same_self (a : List X) (ha : (a.length : Int) ≤ 1000000) : AC PR 19 [ML a, ML a] [] (.bool true) [] := by
  have := same_ok a a ha
  rwa [decide_eq_true rfl] at this
theorem awake_ok : AC PR 7 [] [] (.bool true) [] := by
  apply A7
  conv => whnf
  refine call_fr [] [] (MH 0 [] (max 0 (min 1 65536))) (new_ok 1) ?_
  conv => whnf
  refine call_fr [0, 1] [] (MM 2 1 (putAt 0 [] 7) (max 0 (min 1 65536))) (send_ok 0 [] (max 0 (min 1 65536)) 7 (by simp) (by omega) (by decide)) ?_
  conv => whnf
  refine call_fr [0, 2] [] (MA 2 1 (putAt 0 [] 7) (max 0 (min 1 65536))) (send_full 1 (putAt 0 [] 7) (max 0 (min 1 65536)) 8 (by decide)) ?_
  conv => whnf
  refine call_fr [0, 2] [] (MA 2 0 (delAt 1 (putAt 0 [] 7) 0) (max 0 (min 1 65536))) (take_ok 1 (putAt 0 [] 7) (max 0 (min 1 65536)) 0 7 (by omega) (by simp [putAt]) (by omega) rfl) ?_
  conv => whnf
  refine call_fr [0, 2] [] (MA 2 0 (delAt 1 (putAt 0 [] 7) 0) (max 0 (min 1 65536))) (len_ok 0 (delAt 1 (putAt 0 [] 7) 0) (max 0 (min 1 65536))) ?_
  conv => whnf
  exact at_end []
abbrev PL (l : List Int) : AV := .lst 1 (l.map (fun a => AV.int .u64 a)) none
theorem once_long (l places : List Int) (h : 300 < l.length ∨ l.length ≤ 300 ∧ 300 < places.length) (hb : (l.length : Int) ≤ 9223372036854775807) (hb2 : (places.length : Int) ≤ 9223372036854775807) : AC PR 4 [ML l, PL places] [] (.bool true) [] := by
  apply A4
  conv => whnf
  refine call_closed awake_ok ?_
  conv => whnf
  generalize hq : decide (((300 : Int)) < ((l.map av).length : Int)) = q
  cases q
  · have h1 := of_decide_eq_false hq
    simp at h1
    conv => whnf
    generalize hq2 : decide (((300 : Int)) < ((places.map (fun a => AV.int .u64 a)).length : Int)) = q2
    cases q2
    · have := of_decide_eq_false hq2; simp at this; omega
    conv => whnf
    refine call_closed awake_ok ?_
    conv => whnf
    exact at_end []
  conv => whnf
  refine call_closed awake_ok ?_
  conv => whnf
  exact at_end []
theorem once_end (l T its : List X) (hTl : T.length ≤ 300) (hTi : T.length ≤ its.length) (hT : its.take T.length = T) : awpC PR 0 c4s42 (retC [.tmp 4] fun r' Hb => Stop (Fin [] r' Hb (.bool true) [])) [(5, .ptr 0 0 0), (7, ML T)] (MH T.length its l.length) := by
  conv => whnf
  refine call_fr [0, 1] [] (MH T.length its l.length ++ [some (.rows 3 1 ((its.take T.length).map av))]) (all_ok T.length its l.length hTi (by omega)) ?_
  conv => whnf
  refine loop_to T.length (fun k e H => ∃ A : List X, A.length = T.length ∧ e = [(5, .ptr 0 0 0), (7, ML T), (12, .slc 2 0 T.length none), (94, .int .i64 T.length), (95, .int .i64 k)] ∧ H = MH T.length its l.length ++ [some (.rows 3 1 (A.map av))]) ?_ ?_
  · rintro k e H hk ⟨A, hA, rfl, rfl⟩
    conv => whnf
    generalize hq : decide ((k : Int) < (T.length : Int)) = q
    cases q
    · conv => whnf
      refine call_fr [0, 1] [] (MH T.length its l.length ++ [some (.rows 3 1 ((its.take T.length).map av))]) (all_ok T.length its l.length hTi (by omega)) ?_
      rw [hT]
      conv => whnf
      refine call_fr [] [3] [] (same_self T (by omega)) ?_
      conv => whnf
      refine call_fr [0, 1] [] (MH T.length its l.length) (len_ok T.length its l.length) ?_
      conv => whnf
      generalize hq9 : decide ((T.length : Int) = ((T.map av).length : Int)) = q9
      cases q9
      · simp at hq9
      exact at_end []
    · have hk' : k < T.length := by have := of_decide_eq_true hq; omega
      obtain ⟨x, hx⟩ : ∃ x, A[k]? = some x := ⟨_, List.getElem?_eq_getElem (by omega)⟩
      conv => whnf
      refine k_idx ?_ _ rfl (by omega) (by omega)
      conv => whnf
      refine k_cell (get_map (i := (k : Int)) hx) ?_
      conv => whnf
      refine w_raw ?_
      conv => whnf
      refine k_idx ?_ _ rfl (by omega) (by omega)
      conv => whnf
      refine k_some (get_map (i := (k : Int)) hx) ?_
      conv => whnf
      refine f_set (IntKind.i64.wrap (x + 1)) rfl ?_
      conv => whnf
      refine w_as ((k + 1 : Nat) : Int) (by omega) (by omega) ?_
      conv => whnf
      exact at_head [some 0, some 1, some 2] (MH T.length its l.length ++ [some (.rows 3 1 ((A.set k (IntKind.i64.wrap (x + 1))).map av))]) [(5, .ptr 0 0 0), (7, ML T), (12, .slc 2 0 T.length none), (94, .int .i64 T.length), (95, .int .i64 ((k + 1 : Nat) : Int))] ⟨hk', A.set k (IntKind.i64.wrap (x + 1)), by simpa using hA, rfl, rfl⟩
  · conv => whnf
    exact at_head [some 0, some 1, some 2] (MH T.length its l.length ++ [some (.rows 3 1 ((its.take T.length).map av))]) [(5, .ptr 0 0 0), (7, ML T), (12, .slc 2 0 T.length none), (94, .int .i64 T.length), (95, .int .i64 ((0 : Nat) : Int))] ⟨its.take T.length, by simp; omega, rfl, rfl⟩
theorem once_walk (l places : List Int) (h : l.length ≤ 300) (hp : places.length ≤ 300) (hpl : ∀ p ∈ places, 0 ≤ p ∧ p < 18446744073709551616) : AC PR 4 [ML l, PL places] [] (.bool true) [] := by
  apply A4
  conv => whnf
  refine call_closed awake_ok ?_
  conv => whnf
  generalize hq : decide (((300 : Int)) < ((l.map av).length : Int)) = q
  cases q
  case true => have := of_decide_eq_true hq; simp at this; omega
  conv => whnf
  generalize hq2 : decide (((300 : Int)) < ((places.map (fun a => AV.int .u64 a)).length : Int)) = q2
  cases q2
  case true => have := of_decide_eq_true hq2; simp at this; omega
  conv => whnf
  have hroom : max 0 (min ((l.map av).length : Int) 65536) = (l.length : Int) := by simp; omega
  have hnew := new_ok ((l.map av).length : Int)
  rw [hroom] at hnew
  refine call_fr [] [] (MH 0 [] l.length) hnew ?_
  conv => whnf
  refine loop_to l.length (fun k e H => ∃ its : List X, e = [(0, ML l), (1, PL places), (5, .ptr 0 0 0), (33, .int .i64 l.length), (34, .int .i64 k)] ∧ H = MH k its l.length ∧ k ≤ its.length ∧ its.take k = l.take k) ?_ ?_
  · rintro k e H hk ⟨its, rfl, rfl, hits, htk⟩
    conv => whnf
    generalize hq : decide ((k : Int) < (l.length : Int)) = q
    cases q
    · have hk' : k = l.length := by have := of_decide_eq_false hq; omega
      subst hk'
      rw [List.take_of_length_le (Nat.le_refl _)] at htk
      conv => whnf
      refine app_map (f := av) (l := []) (new := l) rfl rfl (by simp) (by simp [roomBound]; omega) (fun _ => ?_) (fun h => absurd h (by simp))
      conv => whnf
      refine loop_to places.length (fun k e H => ∃ T its : List X, e = [(1, PL places), (5, .ptr 0 0 0), (7, ML T), (49, .int .i64 places.length), (50, .int .i64 k)] ∧ H = MH T.length its l.length ∧ T.length ≤ 300 ∧ T.length ≤ its.length ∧ its.take T.length = T) ?_ ?_
      · rintro k e H hk ⟨T, its, rfl, rfl, hTl, hTi, hT⟩
        conv => whnf
        generalize hq : decide ((k : Int) < (places.length : Int)) = q
        cases q
        · (have he := once_end l T its hTl hTi hT; (conv at he => whnf); (conv => whnf); exact he)
        have hk' : k < places.length := by have := of_decide_eq_true hq; omega
        obtain ⟨p, hpk⟩ : ∃ x, places[k]? = some x := ⟨_, List.getElem?_eq_getElem hk'⟩
        have hpp := hpl p (List.mem_of_getElem? hpk)
        conv => whnf
        generalize hq0 : decide (((T.map av).length : Int) = 0) = q0
        cases q0
        case true => (have he := once_end l T its hTl hTi hT; (conv at he => whnf); (conv => whnf); exact he)
        have hT0 : 0 < T.length := by have := of_decide_eq_false hq0; simp at this; exact List.length_pos_iff.2 this
        conv => whnf
        refine k_el (get_map (i := (k : Int)) hpk) (by omega) ?_
        conv => whnf
        refine w_u64 (by simp; omega) ?_
        conv => whnf
        refine k_eq (rem_eq (by simp; exact List.length_pos_iff.1 hT0)) ?_
        obtain ⟨j, hj, hjn⟩ : ∃ j : Nat, p.tmod ((T.map av).length : Int) = j ∧ j < T.length := by
          have h1 := Int.tmod_nonneg ((T.map av).length : Int) hpp.1
          have h2 := Int.tmod_lt_of_pos p (b := ((T.map av).length : Int)) (by simp; omega)
          refine ⟨(p.tmod ((T.map av).length : Int)).toNat, by omega, ?_⟩
          simp at h2 h1 ⊢
          omega
        rw [hj]
        obtain ⟨x, hx⟩ : ∃ x, T[j]? = some x := ⟨_, List.getElem?_eq_getElem hjn⟩
        have hxi : its[j]? = some x := by rw [← hT, List.getElem?_take, if_pos hjn] at hx; exact hx
        conv => whnf
        refine w_i64 (by omega) ?_
        conv => whnf
        refine call_fr [0, 1] [] (MH (T.length - 1) (delAt T.length its j) l.length) (take_ok T.length its l.length j x hjn hTi (by omega) hxi) ?_
        conv => whnf
        refine k_el (get_map (i := (j : Int)) hx) (by omega) ?_
        conv => whnf
        generalize hq6 : (!decide (x = x)) = q6
        cases q6
        case true => simp at hq6
        conv => whnf
        refine k_eq (sl_lst3 (by omega) (by omega) (by omega)) ?_
        conv => whnf
        refine w_as ((j + 1 : Nat) : Int) (by omega) (by omega) ?_
        conv => whnf
        refine k_eq (sl_lstlo (by omega) (by omega)) ?_
        conv => whnf
        have hdel : ∀ m, m = T.length - 1 → (delAt T.length its j).take m = T.take j ++ T.drop (j + 1) := fun m hm => by
          subst hm
          unfold delAt
          rw [← List.append_assoc, ← List.append_assoc, List.append_assoc (its.take j ++ _), List.take_append_of_le_length (by simp; omega), List.take_of_length_le (by simp; omega)]
          have e1 : T.take j = its.take j := by rw [← hT, List.take_take, Nat.min_eq_left (by omega)]
          have e2 : T.drop (j + 1) = (its.drop (j + 1)).take (T.length - (j + 1)) := by
            conv => lhs; rw [← hT]
            rw [List.drop_take]
          rw [e1, e2]
        have hdl := delAt_len (its := its) hjn hTi
        refine app_lst (l := T.take j) (new := T.drop (j + 1)) (by simp; omega) rfl (by simp [roomBound]; omega) (fun h1 h2 => ?_) (fun h1 => ?_)
        · conv => whnf
          refine w_as ((k + 1 : Nat) : Int) (by omega) (by omega) ?_
          conv => whnf
          have hl1 : (T.take j).length = T.length - 1 := by have := congrArg List.length h1; simp at this ⊢; omega
          refine at_head [some 0, some 1] (MH (T.take j).length (delAt T.length its j) l.length) [(1, PL places), (5, .ptr 0 0 0), (7, ML (T.take j)), (49, .int .i64 places.length), (50, .int .i64 ((k + 1 : Nat) : Int))] ⟨hk', T.take j, delAt T.length its j, rfl, rfl, by omega, by omega, ?_⟩
          rw [hdel _ hl1, h1, List.append_nil]
        · conv => whnf
          refine w_as ((k + 1 : Nat) : Int) (by omega) (by omega) ?_
          conv => whnf
          have hl1 : (T.take j ++ T.drop (j + 1)).length = T.length - 1 := by simp; omega
          refine at_head [some 0, some 1] (MH (T.take j ++ T.drop (j + 1)).length (delAt T.length its j) l.length) [(1, PL places), (5, .ptr 0 0 0), (7, ML (T.take j ++ T.drop (j + 1))), (49, .int .i64 places.length), (50, .int .i64 ((k + 1 : Nat) : Int))] ⟨hk', T.take j ++ T.drop (j + 1), delAt T.length its j, rfl, rfl, by omega, by omega, ?_⟩
          rw [hdel _ hl1]
      · conv => whnf
        exact at_head [some 0, some 1] (MH l.length its l.length) [(1, PL places), (5, .ptr 0 0 0), (7, ML l), (49, .int .i64 places.length), (50, .int .i64 ((0 : Nat) : Int))] ⟨l, its, rfl, rfl, h, hits, htk⟩
    · have hk' : k < l.length := by have := of_decide_eq_true hq; omega
      obtain ⟨x, hx⟩ : ∃ x, l[k]? = some x := ⟨_, List.getElem?_eq_getElem hk'⟩
      conv => whnf
      refine k_el (get_map (i := (k : Int)) hx) (by omega) ?_
      conv => whnf
      refine call_fr [0, 1] [] (MM 2 (k + 1) (putAt k its x) l.length) (send_ok k its l.length x hits (by omega) (by omega)) ?_
      conv => whnf
      refine w_as ((k + 1 : Nat) : Int) (by omega) (by omega) ?_
      conv => whnf
      refine at_head [some 0, some 2] (MH (k + 1) (putAt k its x) l.length) [(0, ML l), (1, PL places), (5, .ptr 0 0 0), (33, .int .i64 l.length), (34, .int .i64 ((k + 1 : Nat) : Int))] ⟨hk', putAt k its x, rfl, rfl, by simp [putAt]; omega, ?_⟩
      have e1 : l.take (k + 1) = l.take k ++ [x] := by rw [List.take_add_one, hx]; rfl
      rw [e1, ← htk]
      unfold putAt
      rw [List.take_append_of_le_length (by simp; omega), List.take_of_length_le (by simp; omega)]
  · conv => whnf
    exact at_head [some 0, some 1] (MH 0 [] l.length) [(0, ML l), (1, PL places), (5, .ptr 0 0 0), (33, .int .i64 l.length), (34, .int .i64 ((0 : Nat) : Int))] ⟨[], rfl, rfl, by simp, rfl⟩
theorem once_law (l places : List Int) (hb : l.length ≤ maxLen) (hb2 : places.length ≤ maxLen) (hpl : ∀ p ∈ places, 0 ≤ p ∧ p < 18446744073709551616) : AC PR 4 [ML l, PL places] [] (.bool true) [] := by
  unfold maxLen at hb hb2
  by_cases h : l.length ≤ 300
  · by_cases h2 : places.length ≤ 300
    · exact once_walk l places h h2 hpl
    · exact once_long l places (.inr ⟨h, by omega⟩) (by omega) (by omega)
  · exact once_long l places (.inl (by omega)) (by omega) (by omega)
