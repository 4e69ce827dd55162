/- Operations, read by the reference. No conditions. -/
import Derived.Test.YtddncgnjakhclaaDoorScP
set_option linter.unusedVariables false
set_option linter.unusedSimpArgs false
set_option maxRecDepth 100000
open Go Go.Am Go.Proofs
namespace Go.Am.Scr
theorem rop_ok {s : ByteArray} {p : Nat} {r : Rd} (h : Pos s p r) (hs : (s.size : Int) ≤ 100000) : ∃ p', Pos s p' (after (opF r).2 r) ∧ AC PR 33 [.ptr 0 0 0] (NxH s p r.over) (opA (opF r).1) (NxH s p' (after (opF r).2 r).over) := by
  have l0 := one_lt r
  have hm : at' 0 r % 9 < 9 := Nat.mod_lt _ (by omega)
  have hq : (((one r).1 : Nat) : Int).tmod 9 = ((at' 0 r % 9 : Nat) : Int) := tm9 _
  unfold opF
  generalize at' 0 r % 9 = m at hm hq
  obtain ⟨p1, hp1, h1⟩ := next_rd h hs
  obtain rfl | rfl | rfl | rfl | rfl | rfl | rfl | rfl | rfl : m = 0 ∨ m = 1 ∨ m = 2 ∨ m = 3 ∨ m = 4 ∨ m = 5 ∨ m = 6 ∨ m = 7 ∨ m = 8 := by omega
  · obtain ⟨p2, hp2, h2⟩ := refname_ok sN (by decide) 8 (by omega) (by omega) hp1 hs
    obtain ⟨p3, hp3, h3⟩ := rres_ok hp2 hs
    obtain ⟨p4, hp4, h4⟩ := next_rd hp3 hs
    have l5 := one_lt (after 5 r)
    have e5 : (one (after 5 r)).1 = at' 5 r := rfl
    replace h3 : AC PR 44 [.ptr 0 0 0] (NxH s p2 (after 2 r).over) (rsA (amR (after 2 r))) (NxH s p3 (after 5 r).over) := h3
    refine ⟨p4, hp4, ?_⟩
    apply A33
    conv => whnf
    refine call_fr [0] [] (NxH s p1 (after 1 r).over) h1 ?_
    conv => whnf
    rw [hq]
    refine w_as 1 (by omega) (by omega) ?_
    conv => whnf
    refine call_fr [0] [] (NxH s p2 (after 2 r).over) h2 ?_
    conv => whnf
    refine call_fr [0] [] (NxH s p3 (after 5 r).over) h3 ?_
    conv => whnf
    refine call_fr [0] [] (NxH s p4 (after 6 r).over) h4 ?_
    conv => whnf
    rw [tm4]
    refine call_closed (rlabels_ok (at' 5 r % 4) (by omega)) ?_
    rw [lab4]
    conv => whnf
    exact at_end [some 0]
  · obtain ⟨p2, hp2, h2⟩ := refname_ok sN (by decide) 8 (by omega) (by omega) hp1 hs
    refine ⟨p2, hp2, ?_⟩
    apply A33
    conv => whnf
    refine call_fr [0] [] (NxH s p1 (after 1 r).over) h1 ?_
    conv => whnf
    rw [hq]
    refine w_as 2 (by omega) (by omega) ?_
    conv => whnf
    refine call_fr [0] [] (NxH s p2 (after 2 r).over) h2 ?_
    conv => whnf
    exact at_end [some 0]
  · obtain ⟨p2, hp2, h2⟩ := refname_ok sQ (by decide) 4 (by omega) (by omega) hp1 hs
    obtain ⟨p3, hp3, h3⟩ := rres_ok hp2 hs
    replace h3 : AC PR 44 [.ptr 0 0 0] (NxH s p2 (after 2 r).over) (rsA (amR (after 2 r))) (NxH s p3 (after 5 r).over) := h3
    refine ⟨p3, hp3, ?_⟩
    apply A33
    conv => whnf
    refine call_fr [0] [] (NxH s p1 (after 1 r).over) h1 ?_
    conv => whnf
    rw [hq]
    refine w_as 3 (by omega) (by omega) ?_
    conv => whnf
    refine call_fr [0] [] (NxH s p2 (after 2 r).over) h2 ?_
    conv => whnf
    refine call_fr [0] [] (NxH s p3 (after 5 r).over) h3 ?_
    conv => whnf
    exact at_end [some 0]
  · obtain ⟨p2, hp2, h2⟩ := refname_ok sQ (by decide) 4 (by omega) (by omega) hp1 hs
    refine ⟨p2, hp2, ?_⟩
    apply A33
    conv => whnf
    refine call_fr [0] [] (NxH s p1 (after 1 r).over) h1 ?_
    conv => whnf
    rw [hq]
    refine w_as 4 (by omega) (by omega) ?_
    conv => whnf
    refine call_fr [0] [] (NxH s p2 (after 2 r).over) h2 ?_
    conv => whnf
    exact at_end [some 0]
  · obtain ⟨p2, hp2, h2⟩ := rtask_ok hp1 hs
    refine ⟨p2, hp2, ?_⟩
    apply A33
    conv => whnf
    refine call_fr [0] [] (NxH s p1 (after 1 r).over) h1 ?_
    conv => whnf
    rw [hq]
    refine w_as 5 (by omega) (by omega) ?_
    conv => whnf
    refine call_fr [0] [] (NxH s p2 (after 9 r).over) h2 ?_
    conv => whnf
    exact at_end [some 0]
  · obtain ⟨p2, hp2, h2⟩ := refname_ok sT (by decide) 32 (by omega) (by omega) hp1 hs
    refine ⟨p2, hp2, ?_⟩
    apply A33
    conv => whnf
    refine call_fr [0] [] (NxH s p1 (after 1 r).over) h1 ?_
    conv => whnf
    rw [hq]
    refine w_as 6 (by omega) (by omega) ?_
    conv => whnf
    refine call_fr [0] [] (NxH s p2 (after 2 r).over) h2 ?_
    conv => whnf
    exact at_end [some 0]
  · obtain ⟨p2, hp2, h2⟩ := refname_ok sT (by decide) 32 (by omega) (by omega) hp1 hs
    refine ⟨p2, hp2, ?_⟩
    apply A33
    conv => whnf
    refine call_fr [0] [] (NxH s p1 (after 1 r).over) h1 ?_
    conv => whnf
    rw [hq]
    refine w_as 7 (by omega) (by omega) ?_
    conv => whnf
    refine call_fr [0] [] (NxH s p2 (after 2 r).over) h2 ?_
    conv => whnf
    exact at_end [some 0]
  · obtain ⟨p2, hp2, h2⟩ := refname_ok sN (by decide) 8 (by omega) (by omega) hp1 hs
    refine ⟨p2, hp2, ?_⟩
    apply A33
    conv => whnf
    refine call_fr [0] [] (NxH s p1 (after 1 r).over) h1 ?_
    conv => whnf
    rw [hq]
    refine w_as 8 (by omega) (by omega) ?_
    conv => whnf
    refine call_fr [0] [] (NxH s p2 (after 2 r).over) h2 ?_
    conv => whnf
    exact at_end [some 0]
  · refine ⟨p1, hp1, ?_⟩
    apply A33
    conv => whnf
    refine call_fr [0] [] (NxH s p1 (after 1 r).over) h1 ?_
    conv => whnf
    rw [hq]
    refine w_as 9 (by omega) (by omega) ?_
    conv => whnf
    exact at_end [some 0]
end Go.Am.Scr
