/- Labels held against one another (the reference), walked. No conditions. -/
import Derived.Test.YtddncgnjakhclaaDoorS3
set_option linter.unusedVariables false
set_option linter.unusedSimpArgs false
set_option maxRecDepth 100000
open Go Go.Am Go.Proofs
namespace Go.Am.Pt
theorem get_lb {l : List Lb} {i : Nat} (h : i < l.length) : l[i]? = some l[i] := List.getElem?_eq_getElem h
theorem same_labels (a b : List Lb) (ha : (a.length : Int) ≤ 1000000) : AC PR 47 [lbs a, lbs b] [] (.bool (decide (a = b))) [] := by
  have hma : (a.map lb).length = a.length := List.length_map ..
  have hmb : (b.map lb).length = b.length := List.length_map ..
  apply A47
  conv => whnf
  refine cond_nb (fun h => ?_) (fun h => ?_)
  · have h1 : a ≠ b := fun e => by subst e; simp at h
    rw [decide_eq_false h1]
    conv => whnf
    exact at_end []
  have hl : a.length = b.length := by have := of_decide_eq_true h; omega
  conv => whnf
  refine loop_to a.length (fun k e H => e = [(0, lbs a), (1, lbs b), (12, i64 (a.map lb).length), (13, i64 k)] ∧ H = [] ∧ a.take k = b.take k) ?_ ?_
  · rintro k e H hk ⟨rfl, rfl, ht⟩
    conv => whnf
    generalize hq : decide ((k : Int) < ((a.map lb).length : Int)) = q
    cases q
    case false =>
      have hk2 : k = a.length := by have := of_decide_eq_false hq; omega
      have e1 : a = b := by rw [hk2, List.take_length, hl, List.take_length] at ht; exact ht
      rw [decide_eq_true e1]
      conv => whnf
      exact at_end []
    have hk2 : k < a.length := by have := of_decide_eq_true hq; omega
    have hga := List.getElem?_eq_getElem hk2
    have hgb := List.getElem?_eq_getElem (show k < b.length by omega)
    generalize a[k] = x at hga
    generalize b[k]'(show k < b.length by omega) = y at hgb
    conv => whnf
    repeat (first
    | (refine And.intro rfl ?_; conv => whnf)
    | (refine k_idx ?_ _ rfl (by omega) (by omega); conv => whnf)
    | (refine e_idx ?_ _ rfl (by omega) (by omega); conv => whnf)
    | (refine k_row (get_map (by assumption)) ?_; conv => whnf)
    | (refine k_cell (get_map (by assumption)) ?_; conv => whnf)
    | (refine e_row (get_map (by assumption)) rfl ?_; conv => whnf)
    | (refine k_el (get_map (by assumption)) (by omega) ?_; conv => whnf)
    | (refine k_some (get_map (by assumption)) ?_; conv => whnf)
    | (refine f_set _ rfl ?_; conv => whnf)
    | (refine w_i64 (by omega) ?_; conv => whnf))
    refine cond_nb (fun h => ?_) (fun h => ?_)
    · have h1 : a ≠ b := fun e => by
        subst e
        rw [hga] at hgb
        cases hgb
        simp at h
      rw [decide_eq_false h1]
      conv => whnf
      exact at_end []
    have hxy : x = y := by
      obtain ⟨x1, x2⟩ := x
      obtain ⟨y1, y2⟩ := y
      simp at h
      rw [h.1, h.2]
    conv => whnf
    refine w_as ((k + 1 : Nat) : Int) (by omega) (by omega) ?_
    conv => whnf
    exact at_head [] [] _ ⟨by omega, rfl, rfl, by rw [List.take_add_one, List.take_add_one, ht, hga, hgb, hxy]⟩
  · conv => whnf
    exact at_head [] [] _ ⟨rfl, rfl, by simp⟩
end Go.Am.Pt
