/- The law of plays. No conditions. -/
import Derived.Test.YtkhnfceedbmkcaaHeapF5
set_option linter.unusedVariables false
set_option linter.unusedSimpArgs false
set_option maxRecDepth 100000
open Go Go.Am Go.Proofs Go.Am.Heap
namespace Go.Am.HeapP
theorem pl_same {Q : AExit → Ev → AHeap → Prop} (l : List OpR) (k m : Nat) (its s : List (It X)) (sq : Int) (o : Nat) (L : List X) (c : Int) (p : X) (odd : Bool) (hk : k < l.length) (hx : l[k]? = some ⟨c, p, odd⟩) (h : St k m its s sq o L) (hl : l.length ≤ 300)
    (c1 : c ≠ 1) (c2 : c ≠ 2) (c3 : c ≠ 3) (c4 : c ≠ 4) : awpC PR 0 b5 (AExit.thn (NX l k) Q) (PE l k) (PH m its sq o L) := by
  have hlen := h.h.len
  have hm := h.mle
  have hs0 := h.s0
  have hsk := h.sk
  have htl := h.tl
  have hn := h.ln
  have hnew := h.skip
  have hso := sortF_of ordX (z := zIt) h.h.take
  have heq := h.eq
  conv => whnf
  generalize hq : decide ((k : Int) < (l.length : Int)) = q
  cases q
  case false => have := of_decide_eq_false hq; omega
  conv => whnf
  refine k_el (get_map (i := (k : Int)) hx) (by omega) ?_
  conv => whnf
  generalize hq1 : decide (c = 1) = q1
  cases q1
  case true => exact absurd (of_decide_eq_true hq1) c1
  conv => whnf
  generalize hq2 : decide (c = 2) = q2
  cases q2
  case true => exact absurd (of_decide_eq_true hq2) c2
  conv => whnf
  generalize hq3 : decide (c = 3) = q3
  cases q3
  case true => exact absurd (of_decide_eq_true hq3) c3
  conv => whnf
  generalize hq4 : decide (c = 4) = q4
  cases q4
  case true => exact absurd (of_decide_eq_true hq4) c4
  conv => whnf
  refine call_fr [0, 1] [] (HL LF m its sq ++ [some (.rows 27 2 ((sortF ltX zIt m (its.take m)).map av))]) (sorted_ok lessLess m its sq hlen (by omega)) ?_
  rw [hso]
  generalize hT : s.map (·.x) = T at heq htl
  conv => whnf
  refine ⟨rfl, ?_⟩
  conv => whnf
  refine call_fr [] [5, 3] [] (same_self T (by omega)) ?_ rfl rfl rfl trivial ⟨Gv.lend (l := T) (f := av) (by simp) rfl rfl (by intro a; simp), Gv.lendO (l := L) (m := T) (f := av) (by simp) rfl (by omega) (by rw [heq, List.take_of_length_le (by simp; omega)]) (by intro a; simp), trivial⟩
  conv => whnf
  refine call_fr [0, 1] [] (HL LF m its sq) (len_ok LF lessLess.bel m its sq) ?_
  conv => whnf
  refine ⟨rfl, ?_⟩
  conv => whnf
  generalize hqz : (!decide (((m : Nat) : Int) = ((m : Nat) : Int))) = qz
  cases qz
  case true => simp at hqz
  conv => whnf
  refine w_as ((k + 1 : Nat) : Int) (by omega) (by omega) ?_
  conv => whnf
  exact at_head [some 0, some 1, some 2, some 3] (PH m its sq o L) (PE l (k + 1)) ⟨hk, _, _, _, _, _, _, rfl, rfl, hnew⟩
theorem plays_long (l : List OpR) (h : 300 < l.length) (hb : (l.length : Int) ≤ 9223372036854775807) : AC PR 5 [MO l] [] (.bool true) [] := by
  apply A5
  conv => whnf
  refine call_closed awake_ok ?_
  conv => whnf
  generalize hq : decide (((300 : Int)) < ((l.map ov).length : Int)) = q
  cases q
  · have := of_decide_eq_false hq; simp at this; omega
  conv => whnf
  refine call_closed awake_ok ?_
  conv => whnf
  exact at_end []
theorem pl_step {Q : AExit → Ev → AHeap → Prop} (l : List OpR) (k m : Nat) (its s : List (It X)) (sq : Int) (o : Nat) (L : List X) (hk : k < l.length) (h : St k m its s sq o L) (hl : l.length ≤ 300) :
    awpC PR 0 b5 (AExit.thn (NX l k) Q) (PE l k) (PH m its sq o L) := by
  obtain ⟨⟨c, p, odd⟩, hx⟩ : ∃ x, l[k]? = some x := ⟨_, List.getElem?_eq_getElem hk⟩
  by_cases c1 : c = 1
  · subst c1; exact pl_push l k m its s sq o L p odd hk hx h hl
  by_cases c2 : c = 2
  · subst c2
    by_cases h0 : 0 < m
    · exact pl_pop l k m its s sq o L p odd hk hx h hl h0
    · obtain rfl : m = 0 := by omega
      exact pl_pop0 l k its s sq o L p odd hk hx h hl
  by_cases c3 : c = 3
  · subst c3
    by_cases h0 : 0 < m
    · exact pl_top l k m its s sq o L p odd hk hx h hl h0
    · obtain rfl : m = 0 := by omega
      exact pl_top0 l k its s sq o L p odd hk hx h hl
  by_cases c4 : c = 4
  · subst c4
    cases odd
    · exact pl_even l k m its s sq o L p hk hx h hl
    · exact pl_odd l k m its s sq o L p hk hx h hl
  exact pl_same l k m its s sq o L c p odd hk hx h hl c1 c2 c3 c4
theorem plays_walk (l : List OpR) (h : l.length ≤ 300) : AC PR 5 [MO l] [] (.bool true) [] := by
  apply A5
  conv => whnf
  refine call_closed awake_ok ?_
  conv => whnf
  generalize hq : decide (((300 : Int)) < ((l.map ov).length : Int)) = q
  cases q
  case true => have := of_decide_eq_true hq; simp at this; omega
  conv => whnf
  refine call_fr [] [] (HL LF 0 [] 0) (new_ok lessLess) ?_
  conv => whnf
  refine loop_to l.length (JP l) ?_ ?_
  · rintro k e H hk ⟨m, its, s, sq, o, L, rfl, rfl, hh⟩
    by_cases hk' : k < l.length
    · exact pl_step l k m its s sq o L hk' hh h
    · have hlen := hh.h.len
      have hm := hh.mle
      have htl := hh.tl
      have hln := hh.ln
      have heq := hh.eq
      have hso := sortF_of ordX (z := zIt) hh.h.take
      conv => whnf
      generalize hq : decide ((k : Int) < (l.length : Int)) = q
      cases q
      case true => have := of_decide_eq_true hq; omega
      conv => whnf
      refine call_fr [0, 1] [] (HL LF m its sq ++ [some (.rows 27 2 ((sortF ltX zIt m (its.take m)).map av))]) (sorted_ok lessLess m its sq hlen (by omega)) ?_
      rw [hso]
      generalize hT : s.map (·.x) = T at heq htl
      conv => whnf
      refine ⟨rfl, ?_⟩
      conv => whnf
      refine call_fr [] [4, 3] [] (same_self T (by omega)) ?_ rfl rfl rfl trivial ⟨Gv.lend (l := T) (f := av) (by simp) rfl rfl (by intro a; simp), Gv.lendO (l := L) (m := T) (f := av) (by simp) rfl (by omega) (by rw [heq, List.take_of_length_le (by simp; omega)]) (by intro a; simp), trivial⟩
      conv => whnf
      exact at_end []
  · conv => whnf
    exact at_head [some 0, some 1, some 2, none] (PH 0 [] 0 0 []) (PE l 0) ⟨0, [], [], 0, 0, [], rfl, rfl, heapOf_nil, rfl, rfl, fun _ h => (by simp at h), by omega, by omega, by omega⟩
theorem plays_law (l : List OpR) (hb : l.length ≤ maxLen) : AC PR 5 [MO l] [] (.bool true) [] := by
  by_cases h : l.length ≤ 300
  · exact plays_walk l h
  · unfold maxLen at hb
    exact plays_long l (by omega) (by omega)
