/- Things taken out of a heap, walked. No conditions. -/
import Derived.Test.YtkhnfceedbmkcaaHeapPQ
import Derived.Test.YtkhnfceedbmkcaaHeapT
set_option linter.unusedVariables false
set_option linter.unusedSimpArgs false
set_option maxRecDepth 100000
open Go Go.Am Go.Proofs Go.Am.Heap
namespace Go.Am.HeapP
/-- A question of pairs, as a function. -/
def Asks (f : Nat) (p : X → Bool) : Prop := ∀ x, AC PR f [av x] [] (.bool (p x)) []
abbrev bxO (f : Nat) : AObj := .rows 55 1 [.fn (.func f) [] []]
theorem ask_ok {f : Nat} {p : X → Bool} (hf : Asks f p) (hc : callable PR f = true) (a : It X) : AC PR 42 [irow a, .ptr 0 0 0] [some (bxO f)] (.bool (p a.x)) [some (bxO f)] := by
  apply A42
  conv => whnf
  refine callv_closed (hf a.x) ?_ hc
  conv => whnf
  exact at_end [some 0]
theorem index_ok {f : Nat} {p : X → Bool} (hf : Asks f p) (hc : callable PR f = true) (n : Nat) (its : List (It X)) (hn : n ≤ its.length) (hb : (n : Int) ≤ 1000000) :
    ∃ r : Int, AC PR 45 [.slc 0 0 n none, .fn (.func 42) [] [.ptr 1 0 0]] [some (.rows 62 3 (its.map irow)), some (bxO f)] (.int .i64 r) [some (.rows 62 3 (its.map irow)), some (bxO f)] ∧
      ((r = -1 ∧ ∀ j a, j < n → its[j]? = some a → p a.x = false) ∨ ∃ i : Nat, r = i ∧ i < n ∧ (∀ a, its[i]? = some a → p a.x = true) ∧ ∀ j a, j < i → its[j]? = some a → p a.x = false) := by
  by_cases hex : ∃ i : Nat, i < n ∧ (∀ a, its[i]? = some a → p a.x = true) ∧ ∀ j a, j < i → its[j]? = some a → p a.x = false
  · obtain ⟨i, hi, h1, h2⟩ := hex
    refine ⟨i, ?_, .inr ⟨i, rfl, hi, h1, h2⟩⟩
    apply A45
    conv => whnf
    refine loop_to n (fun k e H => k ≤ i ∧ e = [(0, .slc 0 0 n none), (1, .fn (.func 42) [] [.ptr 1 0 0]), (7, .int .i64 n), (8, .int .i64 k)] ∧ H = [some (.rows 62 3 (its.map irow)), some (bxO f)]) ?_ ?_
    · rintro k e H hk ⟨hki, rfl, rfl⟩
      obtain ⟨a, ha⟩ : ∃ a, its[k]? = some a := ⟨_, List.getElem?_eq_getElem (by omega)⟩
      conv => whnf
      generalize hq : decide ((k : Int) < (n : Int)) = q
      cases q
      · have := of_decide_eq_false hq; omega
      conv => whnf
      refine k_idx ?_ _ rfl (by omega) (by omega)
      conv => whnf
      refine k_row (get_map (i := (k : Int)) ha) ?_
      conv => whnf
      refine callv_fr [1] [] [some (bxO f)] (ask_ok hf hc a) ?_
      conv => whnf
      by_cases hki2 : k = i
      · subst hki2
        rw [h1 a ha]
        conv => whnf
        exact at_end [some 0, some 1]
      · rw [h2 k a (by omega) ha]
        conv => whnf
        refine w_as ((k + 1 : Nat) : Int) (by omega) (by omega) ?_
        conv => whnf
        exact at_head [some 0, some 1] [some (.rows 62 3 (its.map irow)), some (bxO f)] [(0, .slc 0 0 n none), (1, .fn (.func 42) [] [.ptr 1 0 0]), (7, .int .i64 n), (8, .int .i64 ((k + 1 : Nat) : Int))] ⟨by omega, by omega, rfl, rfl⟩
    · conv => whnf
      exact at_head [some 0, some 1] [some (.rows 62 3 (its.map irow)), some (bxO f)] [(0, .slc 0 0 n none), (1, .fn (.func 42) [] [.ptr 1 0 0]), (7, .int .i64 n), (8, .int .i64 ((0 : Nat) : Int))] ⟨by omega, rfl, rfl⟩
  · have hno : ∀ (j : Nat) a, j < n → its[j]? = some a → p a.x = false := by
      intro j
      induction j using Nat.strongRecOn with
      | ind j ih =>
        intro a hj ha
        cases hp : p a.x
        · rfl
        · exact absurd ⟨j, hj, fun b hb => by rw [ha] at hb; cases hb; exact hp, fun m b hm hb => ih m hm b (by omega) hb⟩ hex
    refine ⟨-1, ?_, .inl ⟨rfl, hno⟩⟩
    apply A45
    conv => whnf
    refine loop_to n (fun k e H => e = [(0, .slc 0 0 n none), (1, .fn (.func 42) [] [.ptr 1 0 0]), (7, .int .i64 n), (8, .int .i64 k)] ∧ H = [some (.rows 62 3 (its.map irow)), some (bxO f)]) ?_ ?_
    · rintro k e H hk ⟨rfl, rfl⟩
      conv => whnf
      generalize hq : decide ((k : Int) < (n : Int)) = q
      cases q
      · conv => whnf
        exact at_end [some 0, some 1]
      have hk' : k < n := by have := of_decide_eq_true hq; omega
      obtain ⟨a, ha⟩ : ∃ a, its[k]? = some a := ⟨_, List.getElem?_eq_getElem (by omega)⟩
      conv => whnf
      refine k_idx ?_ _ rfl (by omega) (by omega)
      conv => whnf
      refine k_row (get_map (i := (k : Int)) ha) ?_
      conv => whnf
      refine callv_fr [1] [] [some (bxO f)] (ask_ok hf hc a) ?_
      conv => whnf
      rw [hno k a hk' ha]
      conv => whnf
      refine w_as ((k + 1 : Nat) : Int) (by omega) (by omega) ?_
      conv => whnf
      exact at_head [some 0, some 1] [some (.rows 62 3 (its.map irow)), some (bxO f)] [(0, .slc 0 0 n none), (1, .fn (.func 42) [] [.ptr 1 0 0]), (7, .int .i64 n), (8, .int .i64 ((k + 1 : Nat) : Int))] ⟨hk', rfl, rfl⟩
    · conv => whnf
      exact at_head [some 0, some 1] [some (.rows 62 3 (its.map irow)), some (bxO f)] [(0, .slc 0 0 n none), (1, .fn (.func 42) [] [.ptr 1 0 0]), (7, .int .i64 n), (8, .int .i64 ((0 : Nat) : Int))] ⟨rfl, rfl⟩
theorem filter_all {its : List (It X)} {p : X → Bool} {n : Nat} (hno : ∀ (j : Nat) a, j < n → its[j]? = some a → p a.x = false) : (its.take n).filter (fun a => !p a.x) = its.take n := by
  refine List.filter_eq_self.2 fun a ha => ?_
  obtain ⟨j, hj, rfl⟩ := List.getElem_of_mem ha
  simp at hj
  have h1 : j < n := by omega
  have h2 : j < its.length := by omega
  rw [hno j _ h1 (by rw [List.getElem_take, List.getElem?_eq_getElem h2])]
  rfl
theorem delfn_ok {f : Nat} {p : X → Bool} (hf : Asks f p) (hc : callable PR f = true) (n : Nat) (its : List (It X)) (hn : n ≤ its.length) (hb : (n : Int) ≤ 1000000) :
    AC PR 41 [.slc 0 0 n none, .fn (.func 42) [] [.ptr 1 0 0]] [some (.rows 62 3 (its.map irow)), some (bxO f)] (.slc 0 0 (leftN p n its) none) [some (.rows 62 3 ((cutF zIt p n its).map irow)), some (bxO f)] := by
  obtain ⟨r, hr, hcase⟩ := index_ok hf hc n its hn hb
  rcases hcase with ⟨rfl, hno⟩ | ⟨i, rfl, hi, hi1, hi2⟩
  · have hall := filter_all hno
    have hlt : (its.take n).length = n := by simp; omega
    have hl : leftN p n its = n := by unfold leftN; rw [hall, hlt]
    have hcut : cutF zIt p n its = its := by unfold cutF; rw [hall, hlt, Nat.sub_self]; simp
    rw [hl, hcut]
    apply A41
    conv => whnf
    refine call_fr [0, 1] [] [some (.rows 62 3 (its.map irow)), some (bxO f)] hr ?_
    conv => whnf
    exact at_end [some 0, some 1]
  · apply A41
    conv => whnf
    refine call_fr [0, 1] [] [some (.rows 62 3 (its.map irow)), some (bxO f)] hr ?_
    conv => whnf
    generalize hq : decide ((i : Int) = -1) = q
    cases q
    case true => have := of_decide_eq_true hq; omega
    conv => whnf
    refine w_as ((i + 1 : Nat) : Int) (by omega) (by omega) ?_
    conv => whnf
    refine loop_to (n - (i + 1)) (fun k e H => ∃ rw : List (It X), e = [(0, .slc 0 0 n none), (1, .fn (.func 42) [] [.ptr 1 0 0]), (5, .int .i64 (leftN p (i + 1 + k) its)), (6, .int .i64 ((i + 1 + k : Nat) : Int))] ∧ H = [some (.rows 62 3 (rw.map irow)), some (bxO f)] ∧
      rw.length = its.length ∧ leftN p (i + 1 + k) its ≤ i + k ∧ rw.take (leftN p (i + 1 + k) its) = (its.take (i + 1 + k)).filter (fun a => !p a.x) ∧ rw.drop (i + 1 + k) = its.drop (i + 1 + k)) ?_ ?_
    · rintro k e H hk ⟨rw, rfl, rfl, hl, hle, ht, hd⟩
      generalize hm : leftN p (i + 1 + k) its = m at *
      conv => whnf
      generalize hq : decide (((i + 1 + k : Nat) : Int) < (n : Int)) = q
      cases q
      · have hk' : i + 1 + k = n := by have := of_decide_eq_false hq; omega
        rw [hk'] at hm ht hd
        conv => whnf
        refine k_eq (sl_lo_eq rfl (by omega) (by omega) (by simp; omega)) ?_
        conv => whnf
        refine clr_map (f := irow) zIt rfl (by simp; omega) rfl rfl ?_
        conv => whnf
        refine k_eq (sl_hi_eq rfl (by omega) (by simp; omega)) ?_
        have e : rw.take (m : Int).toNat ++ List.replicate (n - (m : Int).toNat) zIt ++ rw.drop ((m : Int).toNat + (n - (m : Int).toNat)) = cutF zIt p n its := by
          have e1 : (m : Int).toNat = m := rfl
          have e2 : m + (n - m) = n := by omega
          rw [e1, e2, ht, hd]
          unfold cutF
          rw [List.append_assoc]
          congr 4
          unfold leftN at hm; omega
        rw [e, hm]
        conv => whnf
        exact at_end [some 0, some 1]
      · have hk' : i + 1 + k < n := by have := of_decide_eq_true hq; omega
        obtain ⟨a, ha⟩ : ∃ a, its[i + 1 + k]? = some a := ⟨_, List.getElem?_eq_getElem (by omega)⟩
        have ha2 : rw[i + 1 + k]? = some a := by
          have := congrArg (·[0]?) hd
          simpa [ha] using this
        have hstep : (its.take (i + 1 + (k + 1))).filter (fun a => !p a.x) = (its.take (i + 1 + k)).filter (fun a => !p a.x) ++ [a].filter (fun a => !p a.x) := by
          rw [show i + 1 + (k + 1) = i + 1 + k + 1 by omega, List.take_add_one, ha, List.filter_append]; rfl
        have hdn : rw.drop (i + 1 + (k + 1)) = its.drop (i + 1 + (k + 1)) := by
          have := congrArg (·.drop 1) hd
          simpa [List.drop_drop, Nat.add_assoc] using this
        conv => whnf
        refine k_idx ?_ _ rfl (by omega) (by omega)
        conv => whnf
        refine k_row (get_map (i := ((i + 1 + k : Nat) : Int)) ha2) ?_
        conv => whnf
        refine callv_fr [1] [] [some (bxO f)] (ask_ok hf hc a) ?_
        conv => whnf
        generalize hp : p a.x = pb
        cases pb
        · have hln : leftN p (i + 1 + (k + 1)) its = m + 1 := by
            have hm' := hm
            unfold leftN at hm' ⊢
            rw [hstep]; simp [hp]; omega
          obtain ⟨c, hcc⟩ : ∃ c, rw[m]? = some c := ⟨_, List.getElem?_eq_getElem (by omega)⟩
          conv => whnf
          refine k_idx ?_ _ rfl (by omega) (by omega)
          conv => whnf
          refine k_some (get_map (i := (m : Int)) hcc) ?_
          conv => whnf
          refine f_set a rfl ?_
          conv => whnf
          refine w_as ((m + 1 : Nat) : Int) (by omega) (by omega) ?_
          conv => whnf
          refine w_as ((i + 1 + (k + 1) : Nat) : Int) (by omega) (by omega) ?_
          conv => whnf
          refine at_head [some 0, some 1] [some (.rows 62 3 ((rw.set m a).map irow)), some (bxO f)] [(0, .slc 0 0 n none), (1, .fn (.func 42) [] [.ptr 1 0 0]), (5, .int .i64 (leftN p (i + 1 + (k + 1)) its)), (6, .int .i64 ((i + 1 + (k + 1) : Nat) : Int))] ⟨by omega, rw.set m a, rfl, rfl, by simpa using hl, by omega, ?_, ?_⟩
          · rw [hln, hstep, ← ht, List.take_add_one, List.getElem?_set_self (by omega), List.take_set_of_le (by omega)]
            simp [hp]
          · rw [← hdn, List.drop_set_of_lt (by omega)]
        · have hln : leftN p (i + 1 + (k + 1)) its = m := by
            have hm' := hm
            unfold leftN at hm' ⊢
            rw [hstep]; simp [hp]; omega
          conv => whnf
          refine w_as ((i + 1 + (k + 1) : Nat) : Int) (by omega) (by omega) ?_
          conv => whnf
          refine at_head [some 0, some 1] [some (.rows 62 3 (rw.map irow)), some (bxO f)] [(0, .slc 0 0 n none), (1, .fn (.func 42) [] [.ptr 1 0 0]), (5, .int .i64 (leftN p (i + 1 + (k + 1)) its)), (6, .int .i64 ((i + 1 + (k + 1) : Nat) : Int))] ⟨by omega, rw, rfl, rfl, hl, by omega, ?_, hdn⟩
          rw [hln, hstep, ht]
          simp [hp]
    · obtain ⟨a, ha⟩ : ∃ a, its[i]? = some a := ⟨_, List.getElem?_eq_getElem (by omega)⟩
      have h1 : (its.take (i + 1 + 0)).filter (fun a => !p a.x) = its.take i := by
        rw [Nat.add_zero, List.take_add_one, ha, List.filter_append, filter_all hi2]
        simp [hi1 a ha]
      have h2 : leftN p (i + 1 + 0) its = i := by unfold leftN; rw [h1]; simp; omega
      conv => whnf
      refine at_head [some 0, some 1] [some (.rows 62 3 (its.map irow)), some (bxO f)] [(0, .slc 0 0 n none), (1, .fn (.func 42) [] [.ptr 1 0 0]), (5, .int .i64 (leftN p (i + 1 + 0) its)), (6, .int .i64 ((i + 1 + 0 : Nat) : Int))] ⟨its, rfl, rfl, rfl, by omega, by rw [h2, h1], rfl⟩
