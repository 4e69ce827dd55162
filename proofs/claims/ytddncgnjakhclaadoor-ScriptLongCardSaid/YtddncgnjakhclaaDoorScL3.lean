/- The reference's labels, amounts, words, walked. No conditions. -/
import Derived.Test.YtddncgnjakhclaaDoorScL2
set_option linter.unusedVariables false
set_option linter.unusedSimpArgs false
set_option maxRecDepth 100000
open Go Go.Am Go.Proofs
namespace Go.Am.Scr
theorem quo2 (n : Nat) : (n : Int).tdiv 2 = ((n / 2 : Nat) : Int) := by rw [Int.tdiv_eq_ediv_of_nonneg (by omega)]; rfl
theorem rlabels_ok (n : Nat) (hn : n < 256) : AC PR 45 [.int .i64 n] [] (lbs (labF n)) [] := by
  have hr := rem1 n
  have hr2 := rem1 (n / 2)
  have hq := quo2 n
  apply A45
  conv => whnf
  rw [hr]
  refine cond_b (fun h => ?_) (fun h => ?_)
  · have e1 : lab1 n = [gpu] := if_pos (by have := of_decide_eq_true h; omega)
    conv => whnf
    refine app_nilm (f := lb) (new := [gpu]) rfl (by simp [roomBound]) (forceS_any ?_)
    conv => whnf
    refine w_as ((n / 2 : Nat) : Int) hq (by omega) ?_
    conv => whnf
    rw [hr2]
    refine cond_b (fun h2 => ?_) (fun h2 => ?_)
    · have e2 : lab2 n = [zone] := if_pos (by have := of_decide_eq_true h2; omega)
      conv => whnf
      refine app_map (f := lb) (l := [gpu]) (new := [zone]) rfl rfl (Nat.le_refl _) (by simp [roomBound]) (fun _ => forceS_any ?_) (fun h => absurd h (Nat.lt_irrefl _))
      conv => whnf
      rw [show labF n = [gpu] ++ [zone] by rw [labF, e1, e2]]
      exact at_end []
    · have e2 : lab2 n = [] := if_neg (by have := of_decide_eq_false h2; omega)
      conv => whnf
      rw [show labF n = [gpu] by rw [labF, e1, e2]; rfl]
      exact at_end []
  · have e1 : lab1 n = [] := if_neg (by have := of_decide_eq_false h; omega)
    conv => whnf
    refine w_as ((n / 2 : Nat) : Int) hq (by omega) ?_
    conv => whnf
    rw [hr2]
    refine cond_b (fun h2 => ?_) (fun h2 => ?_)
    · have e2 : lab2 n = [zone] := if_pos (by have := of_decide_eq_true h2; omega)
      conv => whnf
      refine app_nilm (f := lb) (new := [zone]) rfl (by simp [roomBound]) (forceS_any ?_)
      conv => whnf
      rw [show labF n = [zone] by rw [labF, e1, e2]; rfl]
      exact at_end []
    · have e2 : lab2 n = [] := if_neg (by have := of_decide_eq_false h2; omega)
      conv => whnf
      rw [show labF n = [] by rw [labF, e1, e2]; rfl]
      exact at_end []
theorem word_ok (l : List ByteArray) (n : Nat) (hn : n < 256) (hl : l.length < 1000) (w : ByteArray) (hw : l[n]? = some w) : AC PR 28 [.lst 1 (l.map .str) none, .int .i64 n] [] (.str w) [] := by
  have hlt : n < l.length := by
    obtain ⟨h1, _⟩ := List.getElem?_eq_some_iff.1 hw; exact h1
  have hm : (l.map AV.str).length = l.length := List.length_map ..
  apply A28
  conv => whnf
  generalize hq : decide ((n : Int) < 0) = q
  cases q
  case true => have := of_decide_eq_true hq; omega
  conv => whnf
  refine cond_b (fun h => ?_) (fun h => ?_)
  · have := of_decide_eq_true h; omega
  conv => whnf
  refine k_el (r := .str w) (by simp [hw]) (by omega) ?_
  conv => whnf
  exact at_end []
abbrev rE (k : Nat) : Ev := [(0, .ptr 0 0 0), (2, .ptr 1 0 0), (3, .ptr 2 0 0), (4, .int .i64 k)]
theorem rres_ok {s : ByteArray} {p : Nat} {r : Rd} (h : Pos s p r) (hs : (s.size : Int) ≤ 100000) : ∃ p', Pos s p' (after 3 r) ∧ AC PR 44 [.ptr 0 0 0] (NxH s p r.over) (amF 3 r) (NxH s p' (after 3 r).over) := by
  obtain ⟨p1, hp1, h1⟩ := next_rd h hs
  obtain ⟨p2, hp2, h2⟩ := next_rd hp1 hs
  obtain ⟨p3, hp3, h3⟩ := next_rd hp2 hs
  refine ⟨p3, hp3, ?_⟩
  let z : AV := .agg [.int .i64 0, .int .i64 0, .int .i64 0]
  apply A44
  conv => whnf
  refine loop_to 3 (fun k e H => e = rE k ∧ H = (match k with
    | 0 => NxH s p r.over
    | 1 => NxH s p1 (after 1 r).over
    | 2 => NxH s p2 (after 2 r).over
    | _ => NxH s p3 (after 3 r).over) ++ [some (.rows 30 3 [.agg [.int .i64 0, .int .i64 0, .int .i64 0]]), some (.rows 30 3 [amF k r])]) ?_ ?_
  · rintro k e H hk ⟨rfl, rfl⟩
    obtain rfl | rfl | rfl | rfl : k = 0 ∨ k = 1 ∨ k = 2 ∨ k = 3 := by omega
    · conv => whnf
      refine call_fr [0] [] (NxH s p1 (after 1 r).over) h1 ?_
      conv => whnf
      refine w_as ((1 : Nat) : Int) (by omega) (by omega) ?_
      conv => whnf
      exact at_head [some 0, some 1, some 2] (NxH s p1 (after 1 r).over ++ [some (.rows 30 3 [.agg [.int .i64 0, .int .i64 0, .int .i64 0]]), some (.rows 30 3 [amF 1 r])]) (rE 1) ⟨by omega, rfl, rfl⟩
    · conv => whnf
      refine call_fr [0] [] (NxH s p2 (after 2 r).over) h2 ?_
      conv => whnf
      refine w_as ((2 : Nat) : Int) (by omega) (by omega) ?_
      conv => whnf
      exact at_head [some 0, some 1, some 2] (NxH s p2 (after 2 r).over ++ [some (.rows 30 3 [.agg [.int .i64 0, .int .i64 0, .int .i64 0]]), some (.rows 30 3 [amF 2 r])]) (rE 2) ⟨by omega, rfl, rfl⟩
    · conv => whnf
      refine call_fr [0] [] (NxH s p3 (after 3 r).over) h3 ?_
      conv => whnf
      refine w_as ((3 : Nat) : Int) (by omega) (by omega) ?_
      conv => whnf
      exact at_head [some 0, some 1, some 2] (NxH s p3 (after 3 r).over ++ [some (.rows 30 3 [.agg [.int .i64 0, .int .i64 0, .int .i64 0]]), some (.rows 30 3 [amF 3 r])]) (rE 3) ⟨by omega, rfl, rfl⟩
    · conv => whnf
      exact at_end [some 0]
  · conv => whnf
    exact at_head [some 0, some 1, some 2] (NxH s p r.over ++ [some (.rows 30 3 [.agg [.int .i64 0, .int .i64 0, .int .i64 0]]), some (.rows 30 3 [amF 0 r])]) (rE 0) ⟨rfl, rfl⟩
end Go.Am.Scr
