/- The plain heap, walked. No conditions. -/
import Derived.Test.YtkhnfceedbmkcaaHeapR2
import Derived.Test.YtkhnfceedbmkcaaHeapL2
set_option linter.unusedVariables false
set_option linter.unusedSimpArgs false
set_option maxRecDepth 100000
open Go Go.Am Go.Proofs Go.Am.Heap
namespace Go.Am.HeapP
abbrev RO (j o n : Nat) : AObj := .rows 51 1 [.agg [.slc j o n none]]
abbrev RH (o n : Nat) (L : List X) : AHeap := [some (RO 1 o n), some (.rows 27 2 (L.map av))]
theorem drop_get {L T : List X} {o k : Nat} (hT : T = L.drop o) : L[o + k]? = T[k]? := by subst hT; simp
theorem rpush_tail (L T : List X) (o : Nat) (hT : T = L.drop o) (hn : o + T.length = L.length) (p : X) (hb : (T.length : Int) ≤ 1000000) (k : Nat) (hk : k ≤ T.length) :
    awpC PR (List.length (RH o T.length L)) c21s8 (retC [] fun r' Hb => Stop (Fin (RH o T.length L) r' Hb (AV.tuple []) [some (RO 2 0 (T.length + 1)), some (.rows 27 2 (L.map av)), some (.rows 27 2 ((T.take k ++ [p] ++ T.drop k).map av))])) [(0, .ptr 0 0 0), (3, .ptr 2 0 0), (4, .int .i64 k)] (RH o T.length L ++ [some (.rows 27 2 [av p])]) := by
  have l1 : (T.take k).length = k := by simp; omega
  have l2 : (T.drop k).length = T.length - k := by simp
  have h1 : T.take k = (L.drop o).take k := by rw [hT]
  have h2 : T.drop k = (L.drop (o + k)).take (T.length - k) := by
    rw [hT, List.drop_drop, List.take_of_length_le]
    simp; omega
  conv => whnf
  refine k_eq (slo_hi_eq rfl (by omega) (by simp; omega)) ?_
  conv => whnf
  refine app_nilm (f := av) (new := T.take k) (view_o (l := L) rfl (by simp; omega) h1) (by rw [l1]; unfold roomBound; omega) (forceS_any ?_)
  conv => whnf
  refine app_map (f := av) (l := T.take k) (new := [p]) rfl rfl (by omega) (by rw [l1]; unfold roomBound; simp; omega) (fun _ => forceS_any ?_) (fun h => absurd h (Nat.lt_irrefl _))
  conv => whnf
  refine k_eq (slo_lo_eq rfl (by omega) (by omega) (by simp; omega)) ?_
  conv => whnf
  refine app_map (f := av) (l := T.take k ++ [p]) (new := T.drop k) rfl (view_o (l := L) rfl (by simp; omega) h2) (by simp) (by rw [l1, l2]; unfold roomBound; simp; omega) (fun _ => forceS_any ?_) (fun h => absurd h (by simp))
  conv => whnf
  have : (T.take k).length + [p].length + (T.drop k).length = T.length + 1 := by rw [l1, l2]; simp; omega
  rw [this]
  exact at_end [some 0, some 1, some 6]
theorem rpush_ok (L T : List X) (o : Nat) (hT : T = L.drop o) (hn : o + T.length = L.length) (p : X) (hb : (T.length : Int) ≤ 1000000) :
    AC PR 21 [.ptr 0 0 0, av p] (RH o T.length L) (.tuple []) [some (RO 2 0 (T.length + 1)), some (.rows 27 2 (L.map av)), some (.rows 27 2 ((insX ltX p T).map av))] := by
  apply A21
  conv => whnf
  refine loop_to T.length (fun k e H => e = [(0, .ptr 0 0 0), (3, .ptr 2 0 0), (4, .int .i64 k)] ∧ H = RH o T.length L ++ [some (.rows 27 2 [av p])] ∧ ∀ (j : Nat) a, j < k → T[j]? = some a → ltX p a = false) ?_ ?_
  · rintro k e H hk ⟨rfl, rfl, hj⟩
    have fin : (k = T.length ∨ ∃ a, T[k]? = some a ∧ ltX p a = true) → insX ltX p T = T.take k ++ [p] ++ T.drop k := fun h => insX_at (by omega) hj h
    conv => whnf
    generalize hq : decide ((k : Int) < (T.length : Int)) = q
    cases q
    · have hk' : k = T.length := by have := of_decide_eq_false hq; omega
      rw [fin (.inl hk')]
      have t := rpush_tail L T o hT hn p hb k hk
      conv at t => whnf
      conv => whnf
      exact t
    · have hk' : k < T.length := by have := of_decide_eq_true hq; omega
      obtain ⟨x, hx⟩ : ∃ x, T[k]? = some x := ⟨_, List.getElem?_eq_getElem hk'⟩
      have hx2 : L[o + (k : Int).toNat]? = some x := by rw [drop_get hT]; exact hx
      have hx3 : (L.map av)[o + (k : Int).toNat]? = some (av x) := by rw [List.getElem?_map, hx2]; rfl
      conv => whnf
      refine k_idxo ?_ _ rfl (by omega) (by omega)
      conv => whnf
      refine k_cell hx3 ?_
      conv => whnf
      generalize hq2 : decide (x.key ≤ p.key) = q2
      cases q2
      · have hx4 := of_decide_eq_false hq2
        rw [fin (.inr ⟨x, hx, by simp; omega⟩)]
        have t := rpush_tail L T o hT hn p hb k hk
        conv at t => whnf
        conv => whnf
        exact t
      · have hx4 := of_decide_eq_true hq2
        conv => whnf
        refine w_as ((k + 1 : Nat) : Int) (by omega) (by omega) ?_
        conv => whnf
        refine at_head [some 0, some 1, some 2] (RH o T.length L ++ [some (.rows 27 2 [av p])]) [(0, .ptr 0 0 0), (3, .ptr 2 0 0), (4, .int .i64 ((k + 1 : Nat) : Int))] ⟨hk', rfl, rfl, ?_⟩
        intro j a hjk ha
        by_cases hj2 : j = k
        · subst hj2
          rw [hx] at ha; cases ha
          simp; omega
        · exact hj j a (by omega) ha
  · conv => whnf
    exact at_head [some 0, some 1, some 2] (RH o T.length L ++ [some (.rows 27 2 [av p])]) [(0, .ptr 0 0 0), (3, .ptr 2 0 0), (4, .int .i64 ((0 : Nat) : Int))] ⟨rfl, rfl, by omega⟩
theorem rpop_none (L : List X) (o : Nat) : AC PR 22 [.ptr 0 0 0] (RH o 0 L) (.tuple [zX, .bool false]) (RH o 0 L) := by
  apply A22
  conv => whnf
  exact at_end [some 0, some 1]
theorem rpop_ok (L T : List X) (x : X) (o : Nat) (hT : x :: T = L.drop o) (hn : o + (T.length + 1) = L.length) (hb : (T.length : Int) ≤ 1000000) : AC PR 22 [.ptr 0 0 0] (RH o (T.length + 1) L) (.tuple [av x, .bool true]) (RH (o + 1) T.length L) := by
  have hx3 : (L.map av)[o + (0 : Int).toNat]? = some (av x) := by
    rw [List.getElem?_map]
    have := drop_get (k := 0) hT
    simp at this
    simp [this]
  apply A22
  conv => whnf
  generalize hq : decide (((T.length + 1 : Nat) : Int) = 0) = q
  cases q
  case true => have := of_decide_eq_true hq; omega
  conv => whnf
  refine k_idxo ?_ _ rfl (by omega) (by omega)
  conv => whnf
  refine k_row hx3 ?_
  conv => whnf
  refine k_eq (slo_lo_eq rfl (by omega) (by omega) (by simp; omega)) ?_
  conv => whnf
  exact at_end [some 0, some 1]
