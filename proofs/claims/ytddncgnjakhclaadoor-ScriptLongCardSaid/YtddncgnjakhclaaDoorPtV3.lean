/- Amounts, labels, nodes, queues, tasks (the reference), walked. No conditions. -/
import Derived.Test.YtddncgnjakhclaaDoorPtV2
set_option linter.unusedVariables false
set_option linter.unusedSimpArgs false
set_option maxRecDepth 100000
open Go Go.Am Go.Proofs
namespace Go.Am.Pt
def inR (n : Int) : Bool := !(decide (n < 0) || decide (1048576 < n))
def rightB (r : Rs) : Bool := inR r.a && inR r.b && inR r.c
abbrev RrE (k : Nat) : Ev := [(1, .ptr 0 0 0), (3, i64 k)]
theorem rright_ok (r : Rs) : AC PR 37 [rsA r] [] (.bool (rightB r)) [] := by
  have hB : rightB r = (inR r.a && inR r.b && inR r.c) := rfl
  generalize rightB r = B at hB
  obtain ⟨a, b, c⟩ := r
  simp only at hB
  apply A37
  conv => whnf
  refine loop_to 3 (fun k e H => e = RrE k ∧ H = [some (.rows 30 3 [.agg [i64 a, i64 b, i64 c]])] ∧ (0 < k → inR a = true) ∧ (1 < k → inR b = true) ∧ (2 < k → inR c = true)) ?_ ?_
  · rintro k e H hk ⟨rfl, rfl, h0, h1, h2⟩
    obtain rfl | rfl | rfl | rfl : k = 0 ∨ k = 1 ∨ k = 2 ∨ k = 3 := by omega
    · have hx : inR a = !(decide (a < 0) || decide (1048576 < a)) := rfl
      conv => whnf
      generalize decide (a < 0) = q1 at hx
      cases q1 <;> conv => whnf
      · generalize decide (1048576 < a) = q2 at hx
        cases q2 <;> conv => whnf
        · refine w_as ((1 : Nat) : Int) (by omega) (by omega) ?_
          conv => whnf
          exact at_head [some 0] _ (RrE 1) ⟨by omega, rfl, rfl, fun _ => hx, by omega, by omega⟩
        · have hF : B = false := by rw [hB, hx]; simp
          exact at_end []
      · have hF : B = false := by rw [hB, hx]; simp
        exact at_end []
    · have hx : inR b = !(decide (b < 0) || decide (1048576 < b)) := rfl
      conv => whnf
      generalize decide (b < 0) = q1 at hx
      cases q1 <;> conv => whnf
      · generalize decide (1048576 < b) = q2 at hx
        cases q2 <;> conv => whnf
        · refine w_as ((2 : Nat) : Int) (by omega) (by omega) ?_
          conv => whnf
          exact at_head [some 0] _ (RrE 2) ⟨by omega, rfl, rfl, fun _ => h0 (by omega), fun _ => hx, by omega⟩
        · have hF : B = false := by rw [hB, hx]; simp
          exact at_end []
      · have hF : B = false := by rw [hB, hx]; simp
        exact at_end []
    · have hx : inR c = !(decide (c < 0) || decide (1048576 < c)) := rfl
      conv => whnf
      generalize decide (c < 0) = q1 at hx
      cases q1 <;> conv => whnf
      · generalize decide (1048576 < c) = q2 at hx
        cases q2 <;> conv => whnf
        · refine w_as ((3 : Nat) : Int) (by omega) (by omega) ?_
          conv => whnf
          exact at_head [some 0] _ (RrE 3) ⟨by omega, rfl, rfl, fun _ => h0 (by omega), fun _ => h1 (by omega), fun _ => hx⟩
        · have hF : B = false := by rw [hB, hx]; simp
          exact at_end []
      · have hF : B = false := by rw [hB, hx]; simp
        exact at_end []
    · conv => whnf
      rw [h0 (by omega), h1 (by omega), h2 (by omega)] at hB
      subst hB
      exact at_end []
  · conv => whnf
    exact at_head [some 0] _ (RrE 0) ⟨rfl, rfl, by omega, by omega, by omega⟩
/-- Labels that can be, from the i-th on. -/
def okAt (l : List Lb) (i : Nat) : Bool :=
  match l[i]? with
  | none => true
  | some x => nameB x.1 && nameB x.2 && (decide (i = 0) || (match l[i - 1]? with
    | none => true
    | some y => strLt y.1 x.1))
def labelsB (l : List Lb) : Bool := decide (l.length ≤ 4) && (List.range l.length).all (okAt l)
theorem all_range_false {l : List Lb} {k : Nat} (hk : k < l.length) (h : okAt l k = false) : (List.range l.length).all (okAt l) = false :=
  List.all_eq_false.2 ⟨k, List.mem_range.2 hk, by simp [h]⟩
theorem rlabels_ok (l : List Lb) : AC PR 38 [lbs l] [] (.bool (labelsB l)) [] := by
  have hm : (l.map lb).length = l.length := List.length_map ..
  have hB : labelsB l = (decide (l.length ≤ 4) && (List.range l.length).all (okAt l)) := rfl
  generalize labelsB l = B at hB
  apply A38
  conv => whnf
  generalize hq : decide (4 < ((l.map lb).length : Int)) = q
  cases q
  case true =>
    have h1 : 4 < l.length := by have := of_decide_eq_true hq; omega
    rw [decide_eq_false (show ¬ l.length ≤ 4 by omega)] at hB
    subst hB
    conv => whnf
    exact at_end []
  have h4 : l.length ≤ 4 := by have := of_decide_eq_false hq; omega
  rw [decide_eq_true h4, Bool.true_and] at hB
  conv => whnf
  refine loop_to l.length (fun k e H => e = [(0, lbs l), (8, i64 (l.map lb).length), (9, i64 k)] ∧ H = [] ∧ ∀ j, j < k → okAt l j = true) ?_ ?_
  · rintro k e H hk ⟨rfl, rfl, ht⟩
    conv => whnf
    generalize hq : decide ((k : Int) < ((l.map lb).length : Int)) = q
    cases q
    case false =>
      have hk2 : k = l.length := by have := of_decide_eq_false hq; omega
      have h1 : (List.range l.length).all (okAt l) = true := List.all_eq_true.2 fun j hj => ht j (by have := List.mem_range.1 hj; omega)
      rw [h1] at hB
      conv => whnf
      exact at_end []
    have hk2 : k < l.length := by have := of_decide_eq_true hq; omega
    have good : okAt l k = true → ∀ j, j < k + 1 → okAt l j = true := fun h j hj => by
      by_cases e : j = k
      · subst e; exact h
      · exact ht j (by omega)
    have bad : okAt l k = false → B = false := fun h => by rw [hB]; exact all_range_false hk2 h
    have hga := List.getElem?_eq_getElem hk2
    generalize l[k] = x at hga
    have hx : okAt l k = (nameB x.1 && nameB x.2 && (decide (k = 0) || (match l[k - 1]? with
      | none => true
      | some y => strLt y.1 x.1))) := by unfold okAt; rw [hga]
    have c1 := rname_ok x.1
    have c2 := rname_ok x.2
    generalize nameB x.1 = q1 at hx c1
    generalize nameB x.2 = q2 at hx c2
    conv => whnf
    repeat (first
    | (refine And.intro rfl ?_; conv => whnf)
    | (refine k_idx ?_ _ rfl (by omega) (by omega); conv => whnf)
    | (refine e_idx ?_ _ rfl (by omega) (by omega); conv => whnf)
    | (refine k_row (get_map (by assumption)) ?_; conv => whnf)
    | (refine k_cell (get_map (by assumption)) ?_; conv => whnf)
    | (refine e_row (get_map (by assumption)) rfl ?_; conv => whnf)
    | (refine k_el (get_map (by assumption)) (by omega) ?_; conv => whnf)
    | (refine k_some (get_map (by assumption)) ?_; conv => whnf)
    | (refine f_set _ rfl ?_; conv => whnf)
    | (refine w_i64 (by omega) ?_; conv => whnf))
    refine call_closed c1 ?_
    conv => whnf
    cases q1 <;> conv => whnf
    · replace bad := bad hx
      exact at_end []
    repeat (first
    | (refine And.intro rfl ?_; conv => whnf)
    | (refine k_idx ?_ _ rfl (by omega) (by omega); conv => whnf)
    | (refine e_idx ?_ _ rfl (by omega) (by omega); conv => whnf)
    | (refine k_row (get_map (by assumption)) ?_; conv => whnf)
    | (refine k_cell (get_map (by assumption)) ?_; conv => whnf)
    | (refine e_row (get_map (by assumption)) rfl ?_; conv => whnf)
    | (refine k_el (get_map (by assumption)) (by omega) ?_; conv => whnf)
    | (refine k_some (get_map (by assumption)) ?_; conv => whnf)
    | (refine f_set _ rfl ?_; conv => whnf)
    | (refine w_i64 (by omega) ?_; conv => whnf))
    refine call_closed c2 ?_
    conv => whnf
    cases q2 <;> conv => whnf
    · replace bad := bad hx
      exact at_end []
    cases k with
    | zero =>
      conv => whnf
      refine w_as ((0 + 1 : Nat) : Int) (by omega) (by omega) ?_
      conv => whnf
      exact at_head [] [] _ ⟨by omega, rfl, rfl, good hx⟩
    | succ j =>
      have hgb := List.getElem?_eq_getElem (show j < l.length by omega)
      generalize l[j]'(show j < l.length by omega) = y at hgb
      rw [show j + 1 - 1 = j from rfl, hgb, decide_eq_false (show ¬ j + 1 = 0 by omega)] at hx
      simp only [Bool.true_and, Bool.false_or] at hx
      generalize hq3 : decide (0 < ((j + 1 : Nat) : Int)) = q3
      cases q3
      case false => have := of_decide_eq_false hq3; omega
      conv => whnf
      refine w_as (j : Int) (by omega) (by omega) ?_
      conv => whnf
      repeat (first
    | (refine And.intro rfl ?_; conv => whnf)
    | (refine k_idx ?_ _ rfl (by omega) (by omega); conv => whnf)
    | (refine e_idx ?_ _ rfl (by omega) (by omega); conv => whnf)
    | (refine k_row (get_map (by assumption)) ?_; conv => whnf)
    | (refine k_cell (get_map (by assumption)) ?_; conv => whnf)
    | (refine e_row (get_map (by assumption)) rfl ?_; conv => whnf)
    | (refine k_el (get_map (by assumption)) (by omega) ?_; conv => whnf)
    | (refine k_some (get_map (by assumption)) ?_; conv => whnf)
    | (refine f_set _ rfl ?_; conv => whnf)
    | (refine w_i64 (by omega) ?_; conv => whnf))
      cases hs : strLt y.1 x.1
      · rw [hs] at hx
        conv => whnf
        replace bad := bad hx
        exact at_end []
      · rw [hs] at hx
        conv => whnf
        refine w_as ((j + 1 + 1 : Nat) : Int) (by omega) (by omega) ?_
        conv => whnf
        exact at_head [] [] _ ⟨by omega, rfl, rfl, good hx⟩
  · conv => whnf
    exact at_head [] [] _ ⟨rfl, rfl, by omega⟩
end Go.Am.Pt
