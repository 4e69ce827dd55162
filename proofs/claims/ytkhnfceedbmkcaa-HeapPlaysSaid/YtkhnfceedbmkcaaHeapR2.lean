/- Remove, walked. No conditions. -/
import Derived.Test.YtkhnfceedbmkcaaHeapR
set_option linter.unusedVariables false
set_option linter.unusedSimpArgs false
set_option maxRecDepth 100000
open Go Go.Am Go.Proofs Go.Am.Heap
namespace Go.Am.HeapP
theorem remove_ok {less : AV} {lt : X → X → Bool} (hl : Less less lt) {f : Nat} {p : X → Bool} (hf : Asks f p) (hc : callable PR f = true) (n : Nat) (its : List (It X)) (seq : Int) (hn : n ≤ its.length) (hb : (n : Int) ≤ 100000) :
    AC PR 24 [.ptr 0 0 0, .fn (.func f) [] []] (HL less n its seq) (.int .i64 ((n - leftN p n its : Nat) : Int)) (HL less (leftN p n its) (heapF lt (leftN p n its) (leftN p n its / 2) (cutF zIt p n its)) seq) := by
  have hbel := hl.bel
  have hle := leftN_le p n its
  have hcl := cutF_len (z := zIt) (p := p) hn
  apply A24
  conv => whnf
  refine call_fr [0, 1] [] (HL less n its seq) (len_ok less hbel n its seq) ?_
  conv => whnf
  generalize hq : decide ((n : Int) = 0) = q
  cases q
  · conv => whnf
    refine call_fr [1, 2] [] [some (.rows 62 3 ((cutF zIt p n its).map irow)), some (bxO f)] (delfn_ok hf hc n its hn (by omega)) ?_
    conv => whnf
    generalize hm : leftN p n its = m at *
    refine w_as ((m / 2 : Nat) : Int) (tdiv2 m) (by omega) ?_
    conv => whnf
    refine w_as ((m / 2 : Nat) - 1 : Int) rfl (by omega) ?_
    conv => whnf
    refine LoopP_rule (fun mm e H => ∃ (k : Nat) (l : List (It X)), e = [(0, .ptr 0 0 0), (5, .int .i64 n), (6, .int .i64 ((k : Int) - 1))] ∧ H = HL less m l seq ∧ mm = k ∧ k ≤ m ∧ m ≤ l.length ∧ heapF lt m k l = heapF lt m (m / 2) (cutF zIt p n its)) ?_ ?_
    · rintro mm e H ⟨k, l, rfl, rfl, rfl, hk, hml, hh⟩
      conv => whnf
      generalize hq2 : decide ((0 : Int) ≤ (mm : Int) - 1) = q2
      cases q2
      · have hk0 : mm = 0 := by have := of_decide_eq_false hq2; omega
        subst hk0
        rw [← hh]
        conv => whnf
        refine w_as ((n - m : Nat) : Int) (by omega) (by omega) ?_
        conv => whnf
        exact at_end [some 0, some 1]
      · have hk0 : 0 < mm := by have := of_decide_eq_true hq2; omega
        obtain ⟨j, rfl⟩ : ∃ j, mm = j + 1 := ⟨mm - 1, by omega⟩
        have e : (((j + 1 : Nat) : Int) - 1) = (j : Int) := by omega
        rw [e]
        conv => whnf
        refine call_fr [0, 1] [] (HL less m (downF lt m (m - j) l j) seq) (down_ok hl m l seq j hml (by omega) (by omega)) ?_
        conv => whnf
        refine w_i64 (by omega) ?_
        conv => whnf
        exact at_head [some 0, some 1] (HL less m (downF lt m (m - j) l j) seq) [(0, .ptr 0 0 0), (5, .int .i64 n), (6, .int .i64 ((j : Int) - 1))] ⟨j, by omega, j, _, rfl, rfl, rfl, by omega, by simpa using hml, hh⟩
    · conv => whnf
      exact at_head [some 0, some 1] (HL less m (cutF zIt p n its) seq) [(0, .ptr 0 0 0), (5, .int .i64 n), (6, .int .i64 ((m / 2 : Nat) - 1 : Int))] ⟨m / 2, m / 2, cutF zIt p n its, rfl, rfl, rfl, by omega, by omega, rfl⟩
  · have hn0 : n = 0 := by have := of_decide_eq_true hq; omega
    subst hn0
    have h1 : leftN p 0 its = 0 := rfl
    have h2 : cutF zIt p 0 its = its := by simp [cutF]
    rw [h1, h2]
    conv => whnf
    exact at_end [some 0, some 1]
theorem odd_ok : Asks 25 (fun x => !decide (x.x.tmod 2 = 0)) := fun x => by
  apply A25
  conv => whnf
  exact at_end []
theorem even_ok : Asks 26 (fun x => decide (x.x.tmod 2 = 0)) := fun x => by
  apply A26
  conv => whnf
  exact at_end []
theorem all_ok : Asks 28 (fun _ => true) := fun x => by
  apply A28
  conv => whnf
  exact at_end []
