/- The law of what is left, walked. No conditions. -/
import Derived.Test.YtkhnfceedbmkcaaHeapR2
import Derived.Test.YtkhnfceedbmkcaaHeapL2
set_option linter.unusedVariables false
set_option linter.unusedSimpArgs false
set_option maxRecDepth 100000
open Go Go.Am Go.Proofs Go.Am.Heap
namespace Go.Am.HeapP
theorem removes_long (l : List X) (h : 300 < l.length) (hb : (l.length : Int) ≤ 9223372036854775807) : AC PR 6 [ML l] [] (.bool true) [] := by
  apply A6
  conv => whnf
  refine call_closed awake_ok ?_
  conv => whnf
  generalize hq : decide (((300 : Int)) < ((l.map av).length : Int)) = q
  cases q
  · have := of_decide_eq_false hq; simp at this; omega
  conv => whnf
  refine call_closed awake_ok ?_
  conv => whnf
  exact at_end []
abbrev od (x : X) : Bool := !decide (x.x.tmod 2 = 0)
abbrev H2 (n m : Nat) (a b : List (It X)) (s t : Int) : AHeap := [some (hpO LF (.slc 1 0 n none) s), some (.rows 62 3 (a.map irow)), some (hpO LF (.slc 3 0 m none) t), some (.rows 62 3 (b.map irow))]
theorem cl25 : callable PR 25 = true := by kernel_rfl
theorem cl28 : callable PR 28 = true := by kernel_rfl
/-- What the second heap has: those of the first one that are not odd. -/
structure Both (l : List X) (k m : Nat) (a b s2 : List (It X)) : Prop where
  h1 : HeapOf ltX k a (srt ltX l k)
  h2 : HeapOf ltX m b s2
  sq : ∀ x ∈ s2, x.seq < m
  eq : s2.map (·.x) = ((srt ltX l k).map (·.x)).filter (fun x => !od x)
theorem Both.left {l : List X} {k m : Nat} {a b s2 : List (It X)} (h : Both l k m a b s2) : leftN od k a = m := by
  rw [h.h1.leftN, ← h.h2.slen]
  have := congrArg List.length h.eq
  rw [List.filter_map] at this
  simp only [List.length_map] at this
  exact this.symm
theorem removes_walk (l : List X) (h : l.length ≤ 300) : AC PR 6 [ML l] [] (.bool true) [] := by
  apply A6
  conv => whnf
  refine call_closed awake_ok ?_
  conv => whnf
  generalize hq : decide (((300 : Int)) < ((l.map av).length : Int)) = q
  cases q
  case true => have := of_decide_eq_true hq; simp at this; omega
  conv => whnf
  refine call_fr [] [] (HL LF 0 [] 0) (new_ok lessLess) ?_
  conv => whnf
  refine call_fr [] [] (HA 3 LF 0 [] 0) (new_ok lessLess) ?_
  conv => whnf
  refine loop_to l.length (fun k e H => ∃ m a b s2, e = [(0, ML l), (3, .ptr 0 0 0), (4, .ptr 2 0 0), (5, .int .i64 (m : Nat)), (20, .int .i64 l.length), (21, .int .i64 k)] ∧ H = H2 k m a b k m ∧ Both l k m a b s2) ?_ ?_
  · rintro k e H hk ⟨m, a, b, s2, rfl, rfl, hh⟩
    have hlen := hh.h1.len
    have hlen2 := hh.h2.len
    have hleft := hh.left
    have hmk : m ≤ k := by rw [← hleft]; exact leftN_le _ _ _
    conv => whnf
    generalize hq : decide ((k : Int) < (l.length : Int)) = q
    cases q
    · have hk' : k = l.length := by have := of_decide_eq_false hq; omega
      subst hk'
      have hr1 := remove_ok lessLess odd_ok cl25 l.length a l.length hlen (by omega)
      have hc1 := hh.h1.cut ordX (z := zIt) od
      rw [hleft] at hr1 hc1
      generalize hA1 : heapF ltX m (m / 2) (cutF zIt od l.length a) = a1 at hr1 hc1
      have hlen1 := hc1.len
      have hso := sortF_of ordX (z := zIt) hc1.take
      have hso2 := sortF_of ordX (z := zIt) hh.h2.take
      have hT : ((srt ltX l l.length).filter (fun a => !od a.x)).map (·.x) = s2.map (·.x) := by rw [hh.eq, List.filter_map]; rfl
      rw [hT] at hso
      have hr2 := remove_ok lessLess odd_ok cl25 m a1 l.length hlen1 (by omega)
      have hc2 := hc1.cut ordX (z := zIt) od
      have hl2 : leftN od m a1 = m := by
        rw [hc1.leftN, List.filter_filter]
        have := hc1.slen
        simpa using this
      rw [hl2] at hr2 hc2
      generalize hA2 : heapF ltX m (m / 2) (cutF zIt od m a1) = a2 at hr2 hc2
      have hlen2' := hc2.len
      have hr3 := remove_ok lessLess all_ok cl28 m a2 l.length hlen2' (by omega)
      have hl3 : leftN (fun _ : X => true) m a2 = 0 := by simp [leftN]
      rw [hl3] at hr3
      generalize hA3 : heapF ltX 0 (0 / 2) (cutF zIt (fun _ : X => true) m a2) = a3 at hr3
      have hs2l := hh.h2.slen
      conv => whnf
      refine call_fr [0, 1] [] (HL LF m a1 l.length) hr1 ?_
      conv => whnf
      refine w_as ((l.length - m : Nat) : Int) (by simp; omega) (by omega) ?_
      conv => whnf
      generalize hq2 : (!decide (((l.length - m : Nat) : Int) = ((l.length - m : Nat) : Int))) = q2
      cases q2
      case true => simp at hq2
      conv => whnf
      refine call_fr [0, 1] [] (HL LF m a1 l.length ++ [some (.rows 27 2 ((sortF ltX zIt m (a1.take m)).map av))]) (sorted_ok lessLess m a1 l.length hlen1 (by omega)) ?_
      rw [hso]
      conv => whnf
      refine call_fr [2, 3] [] (HA 3 LF m b m ++ [some (.rows 27 2 ((sortF ltX zIt m (b.take m)).map av))]) (sorted_ok lessLess m b m hlen2 (by omega)) ?_
      rw [hso2]
      conv => whnf
      refine call_fr [] [4, 5] [] (same_self (s2.map (·.x)) (by simp; omega)) ?_
      conv => whnf
      refine call_fr [0, 1] [] (HL LF m a2 l.length) hr2 ?_
      conv => whnf
      generalize hq3 : (!decide (((m - m : Nat) : Int) = 0)) = q3
      cases q3
      case true => simp at hq3
      have fin : ∀ (w : X) (s : Bool), s = decide ((0 : Int) < (m : Int)) → AC PR 23 [.ptr 0 0 0] (HL LF m a2 l.length) (.tuple [av w, .bool s]) (HL LF m a2 l.length) → AC PR 23 [.ptr 0 0 0] (HL LF m a2 l.length) (.tuple [av w, .bool (decide ((0 : Int) < (m : Int)))]) (HL LF m a2 l.length) := fun w s e h => e ▸ h
      obtain ⟨w, htop⟩ : ∃ w, AC PR 23 [.ptr 0 0 0] (HL LF m a2 l.length) (.tuple [av w, .bool (decide ((0 : Int) < (m : Int)))]) (HL LF m a2 l.length) := by
        cases m with
        | zero => exact ⟨⟨0, 0⟩, top_none lessLess.bel a2 l.length⟩
        | succ m =>
          obtain ⟨r, hr⟩ : ∃ r, a2[0]? = some r := ⟨_, List.getElem?_eq_getElem (by omega)⟩
          refine ⟨r.x, fin r.x true ?_ (top_ok lessLess.bel (m + 1) a2 l.length r hr (by omega))⟩
          have : (0 : Int) < ((m + 1 : Nat) : Int) := by omega
          exact (decide_eq_true this).symm
      conv => whnf
      refine call_fr [0, 1] [] (HL LF m a2 l.length) htop ?_
      generalize hd : decide ((0 : Int) < (m : Int)) = d
      conv => whnf
      rw [hd]
      generalize hq4 : (d == d) = q4
      cases q4
      case false => simp at hq4
      conv => whnf
      refine call_fr [0, 1] [] (HL LF 0 a3 l.length) hr3 ?_
      conv => whnf
      generalize hq5 : decide (((m - 0 : Nat) : Int) = (m : Int)) = q5
      cases q5
      case false => simp at hq5
      conv => whnf
      refine call_fr [0, 1] [] (HL LF 0 a3 l.length) (len_ok LF lessLess.bel 0 a3 l.length) ?_
      conv => whnf
      refine call_fr [0, 1] [] (HL LF 0 a3 l.length ++ [some (.rows 27 2 ((sortF ltX zIt 0 (a3.take 0)).map av))]) (sorted_ok lessLess 0 a3 l.length (by omega) (by omega)) ?_
      conv => whnf
      exact at_end []
    · have hk' : k < l.length := by have := of_decide_eq_true hq; omega
      obtain ⟨x, hx⟩ : ∃ x, l[k]? = some x := ⟨_, List.getElem?_eq_getElem hk'⟩
      have hp1 := srt_push ordX hx hh.h1
      have hT : (srt ltX l (k + 1)).map (·.x) = insX ltX x ((srt ltX l k).map (·.x)) := by
        simp only [srt, hx]
        exact ins_map ordX fun a ha => srt_seq l k a ha
      have hfil := insX_filter ordX (fun x => !od x) (x := x) ((srt_ord ordX l k).wk ordX)
      conv => whnf
      refine k_el (get_map (i := (k : Int)) hx) (by omega) ?_
      conv => whnf
      refine call_fr [0, 1] [] (HMA 4 LF (k + 1) (upF ltX k (putAt k a ⟨x, k⟩) k) (k + 1)) (push_ok lessLess k a k x hlen (by omega) (by omega)) ?_
      conv => whnf
      refine k_el (get_map (i := (k : Int)) hx) (by omega) ?_
      conv => whnf
      refine call_closed (odd_ok x) ?_
      conv => whnf
      refine cond_nb (fun ho => ?_) (fun ho => ?_)
      · conv => whnf
        refine k_el (get_map (i := (k : Int)) hx) (by omega) ?_
        conv => whnf
        refine call_fr [2, 3] [] (HMA 5 LF (m + 1) (upF ltX m (putAt m b ⟨x, m⟩) m) (m + 1)) (push_ok lessLess m b m x hlen2 (by omega) (by omega)) ?_
        conv => whnf
        refine w_as ((m + 1 : Nat) : Int) (by omega) (by omega) ?_
        conv => whnf
        refine w_as ((k + 1 : Nat) : Int) (by omega) (by omega) ?_
        conv => whnf
        refine at_head [some 0, some 4, some 2, some 5] (H2 (k + 1) (m + 1) (upF ltX k (putAt k a ⟨x, k⟩) k) (upF ltX m (putAt m b ⟨x, m⟩) m) ((k + 1 : Nat) : Int) ((m + 1 : Nat) : Int)) [(0, ML l), (3, .ptr 0 0 0), (4, .ptr 2 0 0), (5, .int .i64 ((m + 1 : Nat) : Int)), (20, .int .i64 l.length), (21, .int .i64 ((k + 1 : Nat) : Int))]
          ⟨hk', m + 1, _, _, ins ltX ⟨x, m⟩ s2, rfl, rfl, hp1, hh.h2.push ordX (fun a ha => by have := hh.sq a ha; show a.seq ≠ (m : Int); omega), fun a ha => ?_, ?_⟩
        · rcases List.mem_cons.1 ((ins_perm _ _).subset ha) with rfl | ha
          · show (m : Int) < ((m + 1 : Nat) : Int); omega
          · have := hh.sq a ha; omega
        · rw [hT, hfil, ins_map ordX (fun a ha => hh.sq a ha), hh.eq]
          have : (!od x) = true := by simp [od] at ho ⊢; exact ho
          rw [if_pos this]
      · conv => whnf
        refine w_as ((k + 1 : Nat) : Int) (by omega) (by omega) ?_
        conv => whnf
        refine at_head [some 0, some 4, some 2, some 3] (H2 (k + 1) m (upF ltX k (putAt k a ⟨x, k⟩) k) b ((k + 1 : Nat) : Int) m) [(0, ML l), (3, .ptr 0 0 0), (4, .ptr 2 0 0), (5, .int .i64 (m : Nat)), (20, .int .i64 l.length), (21, .int .i64 ((k + 1 : Nat) : Int))]
          ⟨hk', m, _, b, s2, rfl, rfl, hp1, hh.h2, hh.sq, ?_⟩
        rw [hT, hfil, hh.eq]
        have : ¬ (!od x) = true := by simp [od] at ho ⊢; exact ho
        rw [if_neg this]
  · conv => whnf
    exact at_head [some 0, some 1, some 2, some 3] (H2 0 0 [] [] 0 0) [(0, ML l), (3, .ptr 0 0 0), (4, .ptr 2 0 0), (5, .int .i64 ((0 : Nat) : Int)), (20, .int .i64 l.length), (21, .int .i64 ((0 : Nat) : Int))] ⟨0, [], [], [], rfl, rfl, heapOf_nil, heapOf_nil, fun _ h => (by simp at h), rfl⟩
theorem removes_law (l : List X) (hb : l.length ≤ maxLen) : AC PR 6 [ML l] [] (.bool true) [] := by
  by_cases h : l.length ≤ 300
  · exact removes_walk l h
  · unfold maxLen at hb
    exact removes_long l (by omega) (by omega)
