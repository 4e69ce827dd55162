/- ScriptDecodes and ScriptLong, walked. No conditions. -/
import Derived.Test.YtddncgnjakhclaaDoorScW
set_option linter.unusedVariables false
set_option linter.unusedSimpArgs false
set_option maxRecDepth 100000
open Go Go.Am Go.Proofs
namespace Go.Am.Scr
open Go.Am.Pt
theorem awake_ok : AC PR 6 [] [] (.bool true) [] := by
  apply A6
  conv => whnf
  refine call_fz [some 0] [none] (args := [.lst 1 (([3, 4, 2] : List UInt8).map bv) none]) ?_
  have d := decode_ok [3, 4, 2] (by decide)
  rw [show decF ⟨([3, 4, 2] : List UInt8).take 4096, false⟩ = [⟨3, 0, 0, e0, op0⟩, ⟨4, 2, 0, e0, op0⟩] from rfl] at d
  refine call_closed (d) ?_
  conv => whnf
  exact at_end []
theorem decodes_ok (b : ByteArray) : AC PR 3 [.str b] [] (.bool true) [] := by
  apply A3
  conv => whnf
  refine call_closed (awake_ok) ?_
  conv => whnf
  refine cond_b (fun h => ?_) (fun h => ?_)
  · conv => whnf
    refine call_closed (awake_ok) ?_
    conv => whnf
    exact at_end []
  have hb : b.size ≤ 10000 := by have := of_decide_eq_false h; omega
  conv => whnf
  have hsz : b.data.toList.length = b.size := rfl
  refine p_some (r := .slc 0 0 b.data.toList.length none) (H' := [some (.rows 5 1 (b.data.toList.map bv))]) (by simp [aS2b, roomBound, aFresh, byteRows]; omega) ?_
  conv => whnf
  refine call_fz [some 0] [none] (args := [.lst 1 (b.data.toList.map bv) none]) ?_
  refine call_closed (decode_ok b.data.toList (by omega)) ?_
  conv => whnf
  refine call_closed (rdecode_ok b (by omega)) ?_
  conv => whnf
  generalize hD : decF ⟨b.data.toList.take 4096, false⟩ = l
  have hq1 : ∀ s ∈ l, (s.o.node.labels.length ≤ 2 ∧ s.o.task.wants.length ≤ 2) ∧ (s.kind = 1 → opR s.o = true) := by
    rw [← hD]
    exact dec_all _ (fun k r _ _ => ⟨stF_len k r, stF_right k r⟩) _ _
  have hl : l.length ≤ 4096 := by
    rw [← hD]
    refine Nat.le_trans (dec_len _ _) ?_
    simp only [List.length_take]; omega
  refine cond_nb (fun h => ?_) (fun h => ?_)
  · simp at h
  conv => whnf
  have hm : (l.map spR).length = l.length := List.length_map ..
  refine loop_to l.length (fun k e H => e = [(3, .lst 25 (l.map spR) none), (4, .lst 25 (l.map spR) none), (25, i64 (l.map spR).length), (26, i64 k)] ∧ H = []) ?_ ?_
  · rintro k e H hk ⟨rfl, rfl⟩
    conv => whnf
    generalize hq : decide ((k : Int) < ((l.map spR).length : Int)) = q
    cases q
    case false =>
      conv => whnf
      exact at_end []
    have hk2 : k < l.length := by have := of_decide_eq_true hq; omega
    have hga := List.getElem?_eq_getElem hk2
    generalize l[k] = x at hga
    have ⟨⟨ha, hb'⟩, hR⟩ := hq1 x (List.mem_of_getElem? hga)
    have c1 := same_ok x (by omega) (by omega)
    have c2 := rRight_ok x.o (by omega) (by omega)
    conv => whnf
    repeat (first
    | (refine And.intro rfl ?_; conv => whnf)
    | (refine k_idx ?_ _ rfl (by omega) (by omega); conv => whnf)
    | (refine e_idx ?_ _ rfl (by omega) (by omega); conv => whnf)
    | (refine k_row (get_map (by assumption)) ?_; conv => whnf)
    | (refine k_cell (get_map (by assumption)) ?_; conv => whnf)
    | (refine e_row (get_map (by assumption)) rfl ?_; conv => whnf)
    | (refine k_el (get_map (by assumption)) (by omega) ?_; conv => whnf)
    | (refine k_some (get_map (by assumption)) ?_; conv => whnf)
    | (refine f_set _ rfl ?_; conv => whnf)
    | (refine w_i64 (by omega) ?_; conv => whnf))
    refine call_closed c1 ?_
    conv => whnf
    repeat (first
    | (refine And.intro rfl ?_; conv => whnf)
    | (refine k_idx ?_ _ rfl (by omega) (by omega); conv => whnf)
    | (refine e_idx ?_ _ rfl (by omega) (by omega); conv => whnf)
    | (refine k_row (get_map (by assumption)) ?_; conv => whnf)
    | (refine k_cell (get_map (by assumption)) ?_; conv => whnf)
    | (refine e_row (get_map (by assumption)) rfl ?_; conv => whnf)
    | (refine k_el (get_map (by assumption)) (by omega) ?_; conv => whnf)
    | (refine k_some (get_map (by assumption)) ?_; conv => whnf)
    | (refine f_set _ rfl ?_; conv => whnf)
    | (refine w_i64 (by omega) ?_; conv => whnf))
    generalize hk1 : decide (x.kind = 1) = q1
    cases q1 <;> conv => whnf
    · refine w_as ((k + 1 : Nat) : Int) (by omega) (by omega) ?_
      conv => whnf
      exact at_head [] [] _ ⟨by omega, rfl, rfl⟩
    rw [hR (of_decide_eq_true hk1)] at c2
    repeat (first
    | (refine And.intro rfl ?_; conv => whnf)
    | (refine k_idx ?_ _ rfl (by omega) (by omega); conv => whnf)
    | (refine e_idx ?_ _ rfl (by omega) (by omega); conv => whnf)
    | (refine k_row (get_map (by assumption)) ?_; conv => whnf)
    | (refine k_cell (get_map (by assumption)) ?_; conv => whnf)
    | (refine e_row (get_map (by assumption)) rfl ?_; conv => whnf)
    | (refine k_el (get_map (by assumption)) (by omega) ?_; conv => whnf)
    | (refine k_some (get_map (by assumption)) ?_; conv => whnf)
    | (refine f_set _ rfl ?_; conv => whnf)
    | (refine w_i64 (by omega) ?_; conv => whnf))
    refine call_closed c2 ?_
    conv => whnf
    refine w_as ((k + 1 : Nat) : Int) (by omega) (by omega) ?_
    conv => whnf
    exact at_head [] [] _ ⟨by omega, rfl, rfl⟩
  · conv => whnf
    exact at_head [] [] _ ⟨rfl, rfl⟩
end Go.Am.Scr
