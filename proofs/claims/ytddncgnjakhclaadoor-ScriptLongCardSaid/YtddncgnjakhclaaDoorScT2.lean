/- Tasks, read by the reference. No conditions. -/
import Derived.Test.YtddncgnjakhclaaDoorScT
set_option linter.unusedVariables false
set_option linter.unusedSimpArgs false
set_option maxRecDepth 100000
open Go Go.Am Go.Proofs
namespace Go.Am.Scr
theorem lab4 (n : Nat) : labF (n % 4) = labF n := by
  unfold labF lab1 lab2
  rw [show n % 4 % 2 = n % 2 by omega, show n % 4 / 2 % 2 = n / 2 % 2 by omega]
theorem pick4 (n : Nat) (a b : ByteArray) : [(⟨#[]⟩ : ByteArray), a, b, ⟨#[]⟩][n % 4]? = some (pickS n a b) := by
  have h : n % 4 = 0 ∨ n % 4 = 1 ∨ n % 4 = 2 ∨ n % 4 = 3 := by omega
  unfold pickS
  rcases h with h | h | h | h <;> rw [h] <;> rfl
theorem tm4 (n : Nat) : (n : Int).tmod 4 = ((n % 4 : Nat) : Int) := by rw [Int.tmod_eq_emod_of_nonneg (by omega)]; rfl
theorem td4 (n : Nat) : (n : Int).tdiv 4 = ((n / 4 : Nat) : Int) := by rw [Int.tdiv_eq_ediv_of_nonneg (by omega)]; rfl
theorem td16 (n : Nat) : (n : Int).tdiv 16 = ((n / 16 : Nat) : Int) := by rw [Int.tdiv_eq_ediv_of_nonneg (by omega)]; rfl
theorem rtask_ok {s : ByteArray} {p : Nat} {r : Rd} (h : Pos s p r) (hs : (s.size : Int) ≤ 100000) : ∃ p', Pos s p' (after 8 r) ∧ AC PR 46 [.ptr 0 0 0] (NxH s p r.over) (tkA (taskF r)) (NxH s p' (after 8 r).over) := by
  obtain ⟨p1, hp1, h1⟩ := refname_ok sT (by decide) 32 (by omega) (by omega) h hs
  obtain ⟨p2, hp2, h2⟩ := refname_ok sQ (by decide) 4 (by omega) (by omega) hp1 hs
  obtain ⟨p3, hp3, h3⟩ := next_rd hp2 hs
  obtain ⟨p6, hp6, h6⟩ := rres_ok hp3 hs
  obtain ⟨p7, hp7, h7⟩ := next_rd hp6 hs
  obtain ⟨p8, hp8, h8⟩ := next_rd hp7 hs
  refine ⟨p8, hp8, ?_⟩
  have l2 := one_lt (after 2 r)
  have l6 := one_lt (after 6 r)
  have l7 := one_lt (after 7 r)
  have e6 : (one (after 6 r)).1 = at' 6 r := rfl
  have e7 : (one (after 7 r)).1 = at' 7 r := rfl
  replace h6 : AC PR 44 [.ptr 0 0 0] (NxH s p3 (after 3 r).over) (rsA (amR (after 3 r))) (NxH s p6 (after 6 r).over) := h6
  apply A46
  conv => whnf
  refine call_fr [0] [] (NxH s p1 (after 1 r).over) h1 ?_
  conv => whnf
  refine call_fr [0] [] (NxH s p2 (after 2 r).over) h2 ?_
  conv => whnf
  refine call_fr [0] [] (NxH s p3 (after 3 r).over) h3 ?_
  conv => whnf
  rw [tm10]
  refine call_fr [0] [] (NxH s p6 (after 6 r).over) h6 ?_
  conv => whnf
  refine call_fr [0] [] (NxH s p7 (after 7 r).over) h7 ?_
  conv => whnf
  refine call_fr [0] [] (NxH s p8 (after 8 r).over) h8 ?_
  conv => whnf
  rw [tm4]
  refine call_closed (rlabels_ok (at' 6 r % 4) (by omega)) ?_
  rw [lab4]
  conv => whnf
  refine w_as ((at' 6 r / 4 : Nat) : Int) (td4 _) (by omega) ?_
  conv => whnf
  rw [tm4]
  refine call_fr [] [3] [] (word_ok [⟨#[]⟩, sX, sY, ⟨#[]⟩] (at' 6 r / 4 % 4) (by omega) (by decide) _ (pick4 _ _ _)) ?_
  conv => whnf
  refine w_as ((at' 6 r / 16 : Nat) : Int) (td16 _) (by omega) ?_
  conv => whnf
  rw [tm4]
  refine call_fr [] [4] [] (word_ok [⟨#[]⟩, sG, sH, ⟨#[]⟩] (at' 6 r / 16 % 4) (by omega) (by decide) _ (pick4 _ _ _)) ?_
  conv => whnf
  refine cond_nb (fun h => ?_) (fun h => ?_)
  · have hg : ¬ gangF r = ⟨#[]⟩ := of_decide_eq_false h
    conv => whnf
    rw [tm3]
    have e8 : (one (one (after 3 (one (one (one r).2).2).2)).2).1 = at' 7 r := rfl
    refine w_as ((2 + at' 7 r % 3 : Nat) : Int) (by omega) (by omega) ?_
    conv => whnf
    rw [show tkA (taskF r) = tkA { taskF r with size := ((2 + at' 7 r % 3 : Nat) : Int) } by simp [taskF, hg]]
    exact at_end [some 0]
  · have hg : gangF r = ⟨#[]⟩ := of_decide_eq_true h
    conv => whnf
    rw [show tkA (taskF r) = tkA { taskF r with size := 0 } by simp [taskF, hg]]
    exact at_end [some 0]
end Go.Am.Scr
