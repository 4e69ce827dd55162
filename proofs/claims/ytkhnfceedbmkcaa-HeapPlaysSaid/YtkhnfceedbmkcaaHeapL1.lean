/- Pairs are alike; the law of what comes out sorted. No conditions. -/
import Derived.Test.YtkhnfceedbmkcaaHeapK
set_option linter.unusedVariables false
set_option linter.unusedSimpArgs false
set_option maxRecDepth 100000
open Go Go.Am Go.Proofs Go.Am.Heap
namespace Go.Am.HeapP
theorem same_ok (a b : List X) (ha : (a.length : Int) ≤ 1000000) : AC PR 15 [.lst 2 (a.map av) none, .lst 2 (b.map av) none] [] (.bool (decide (a = b))) [] := by
  by_cases hl : a.length = b.length
  · apply A15
    conv => whnf
    generalize hq : decide (((a.map av).length : Int) = ((b.map av).length : Int)) = q
    cases q
    · have := of_decide_eq_false hq; simp at this; omega
    conv => whnf
    refine loop_to a.length (fun k e H => e = [(0, .lst 2 (a.map av) none), (1, .lst 2 (b.map av) none), (12, .int .i64 a.length), (13, .int .i64 k)] ∧ H = [] ∧ a.take k = b.take k) ?_ ?_
    · rintro k e H hk ⟨rfl, rfl, hj⟩
      conv => whnf
      generalize hq : decide ((k : Int) < (a.length : Int)) = q
      cases q
      · have hk' : k = a.length := by have := of_decide_eq_false hq; omega
        subst hk'
        rw [List.take_of_length_le (Nat.le_refl _), List.take_of_length_le (by omega)] at hj
        conv => whnf
        rw [decide_eq_true hj]
        exact at_end []
      · have hk' : k < a.length := by have := of_decide_eq_true hq; omega
        obtain ⟨x, hx⟩ : ∃ x, a[k]? = some x := ⟨_, List.getElem?_eq_getElem hk'⟩
        obtain ⟨y, hy⟩ : ∃ y, b[k]? = some y := ⟨_, List.getElem?_eq_getElem (by omega)⟩
        conv => whnf
        refine k_el (get_map (i := (k : Int)) hx) (by omega) ?_
        conv => whnf
        refine k_el (get_map (i := (k : Int)) hy) (by omega) ?_
        conv => whnf
        refine cond_nb (fun h => ?_) (fun h => ?_)
        · have : ¬ a = b := fun e => by
            subst e
            rw [hx] at hy; cases hy
            simp at h
          conv => whnf
          rw [decide_eq_false this]
          exact at_end []
        · have hxy : x = y := by
            cases x; cases y; simp at h; simp [h]
          conv => whnf
          refine w_as ((k + 1 : Nat) : Int) (by omega) (by omega) ?_
          conv => whnf
          refine at_head [] [] [(0, .lst 2 (a.map av) none), (1, .lst 2 (b.map av) none), (12, .int .i64 a.length), (13, .int .i64 ((k + 1 : Nat) : Int))] ⟨hk', rfl, rfl, ?_⟩
          rw [List.take_add_one, List.take_add_one, hj, hx, hy, hxy]
    · conv => whnf
      exact at_head [] [] [(0, .lst 2 (a.map av) none), (1, .lst 2 (b.map av) none), (12, .int .i64 a.length), (13, .int .i64 ((0 : Nat) : Int))] ⟨rfl, rfl, by simp⟩
  · have : ¬ a = b := fun e => hl (by rw [e])
    rw [decide_eq_false this]
    apply A15
    conv => whnf
    generalize hq : decide (((a.map av).length : Int) = ((b.map av).length : Int)) = q
    cases q
    · conv => whnf
      exact at_end []
    · have := of_decide_eq_true hq; simp at this; omega
theorem same_self (a : List X) (ha : (a.length : Int) ≤ 1000000) : AC PR 15 [.lst 2 (a.map av) none, .lst 2 (a.map av) none] [] (.bool true) [] := by
  have := same_ok a a ha
  rwa [decide_eq_true rfl] at this
