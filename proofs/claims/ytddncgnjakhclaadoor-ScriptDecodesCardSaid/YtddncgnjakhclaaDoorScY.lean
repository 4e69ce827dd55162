/- The reference's reader beside the program's. No conditions. -/
import Derived.Test.YtddncgnjakhclaaDoorScX
set_option linter.unusedVariables false
set_option linter.unusedSimpArgs false
set_option maxRecDepth 100000
open Go Go.Am Go.Proofs
namespace Go.Am.Scr
/-- The reference's reader is where the program's is. -/
structure Pos (s : ByteArray) (p : Nat) (r : Rd) : Prop where
  eq : r.rest = s.data.toList.drop p
  le : p ≤ s.size
theorem next_rd {s : ByteArray} {p : Nat} {r : Rd} (h : Pos s p r) (hs : (s.size : Int) ≤ 100000) : ∃ p', Pos s p' (one r).2 ∧ AC PR 15 [.ptr 0 0 0] (NxH s p r.over) (.int .i64 (one r).1) (NxH s p' (one r).2.over) := by
  obtain ⟨rest, over⟩ := r
  obtain ⟨h1, h2⟩ := h
  simp only at h1
  have hsz : s.data.toList.length = s.size := rfl
  cases rest with
  | nil =>
    have hp : s.size ≤ p := by
      have := congrArg List.length h1
      simp only [List.length_nil, List.length_drop, hsz] at this
      omega
    exact ⟨p, ⟨h1, h2⟩, next_end s p over hp⟩
  | cons b l =>
    have hp : p < s.size := by
      have := congrArg List.length h1
      simp only [List.length_cons, List.length_drop, hsz] at this
      omega
    have hb : s[p]? = some b := by
      have : s.data.toList[p]? = some b := by
        have h3 := congrArg (·[0]?) h1
        simp only [List.getElem?_cons_zero, List.getElem?_drop, Nat.add_zero] at h3
        exact h3.symm
      rw [getElem?_def, dif_pos hp]
      rw [List.getElem?_eq_getElem (by omega)] at this
      exact this
    refine ⟨p + 1, ⟨?_, by omega⟩, next_ok s p over b (by omega) hb⟩
    show l = _
    have h3 := congrArg List.tail h1
    simpa [List.tail_drop] using h3
theorem refname_ok (of : ByteArray) (hof : of.size ≤ 100) (many : Nat) (h0 : 0 < many) (hm : many ≤ 100) {s : ByteArray} {p : Nat} {r : Rd} (h : Pos s p r) (hs : (s.size : Int) ≤ 100000) : ∃ p', Pos s p' (one r).2 ∧ AC PR 34 [.ptr 0 0 0, .str of, .int .i64 many] (NxH s p r.over) (.str (nameS of many r)) (NxH s p' (one r).2.over) := by
  obtain ⟨p', hp', hac⟩ := next_rd h hs
  refine ⟨p', hp', ?_⟩
  have hlt := one_lt r
  have hmod : (one r).1 % many < many := Nat.mod_lt _ h0
  have hns := num_size ((one r).1 % many)
  apply A34
  conv => whnf
  refine call_fr [0] [] (NxH s p' (one r).2.over) hac ?_
  conv => whnf
  refine k_eq (v := .int .i64 (((one r).1 % many : Nat) : Int)) ((rem_eq (by omega)).trans (by rw [Int.tmod_eq_emod_of_nonneg (by omega)]; rfl)) ?_
  conv => whnf
  refine call_closed (digits_ok ((one r).1 % many) (by omega)) ?_
  conv => whnf
  refine cat_ok (c := nameS of many r) (by omega) rfl ?_
  conv => whnf
  exact at_end [some 0]
