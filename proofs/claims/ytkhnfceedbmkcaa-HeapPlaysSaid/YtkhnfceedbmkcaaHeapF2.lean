/- The plain heap's Remove, walked. No conditions. -/
import Derived.Test.YtkhnfceedbmkcaaHeapF1
set_option linter.unusedVariables false
set_option linter.unusedSimpArgs false
set_option maxRecDepth 100000
open Go Go.Am Go.Proofs Go.Am.Heap
namespace Go.Am.HeapP
/-- What Remove keeps. -/
abbrev kp (odd : Bool) (x : X) : Bool := !((!decide (x.x.tmod 2 = 0)) == odd)
abbrev FE (k n : Nat) (o : List X) (odd : Bool) : Ev := [(0, .ptr 0 0 0), (1, .bool odd), (5, .slc 2 0 o.length none), (12, .int .i64 n), (13, .int .i64 k)]
abbrev FH (o : Nat) (L T out : List X) : AHeap := RH o T.length L ++ [some (.rows 27 2 (out.map av))]
theorem filter_take {T : List X} {k : Nat} {x : X} (hx : T[k]? = some x) (q : X → Bool) : (T.take (k + 1)).filter q = (T.take k).filter q ++ (if q x = true then [x] else []) := by
  rw [List.take_add_one, hx, List.filter_append]
  simp [List.filter_cons]
theorem rremove_ok (L T : List X) (o : Nat) (hT : T = L.drop o) (hn : o + T.length = L.length) (odd : Bool) (hb : (T.length : Int) ≤ 1000000) :
    AC PR 27 [.ptr 0 0 0, .bool odd] (RH o T.length L) (.int .i64 ((T.length - (T.filter (kp odd)).length : Nat) : Int)) [some (RO 2 0 (T.filter (kp odd)).length), some (.rows 27 2 (L.map av)), some (.rows 27 2 ((T.filter (kp odd)).map av))] := by
  have hlf := List.length_filter_le (kp odd) T
  apply A27
  conv => whnf
  refine loop_to T.length (fun k e H => e = FE k T.length ((T.take k).filter (kp odd)) odd ∧ H = FH o L T ((T.take k).filter (kp odd))) ?_ ?_
  · rintro k e H hk ⟨rfl, rfl⟩
    conv => whnf
    generalize hq : decide ((k : Int) < (T.length : Int)) = q
    cases q
    · have hk' : k = T.length := by have := of_decide_eq_false hq; omega
      have ht : (T.take k).filter (kp odd) = T.filter (kp odd) := by rw [List.take_of_length_le (by omega)]
      rw [ht]
      conv => whnf
      refine w_as ((T.length - (T.filter (kp odd)).length : Nat) : Int) (by omega) (by omega) ?_
      conv => whnf
      exact at_end [some 0, some 1, some 2]
    · have hk' : k < T.length := by have := of_decide_eq_true hq; omega
      obtain ⟨x, hx⟩ : ∃ x, T[k]? = some x := ⟨_, List.getElem?_eq_getElem hk'⟩
      have hx2 : L[o + (k : Int).toNat]? = some x := by rw [drop_get hT]; exact hx
      have hx3 : (L.map av)[o + (k : Int).toNat]? = some (av x) := by rw [List.getElem?_map, hx2]; rfl
      have hlk := List.length_filter_le (kp odd) (T.take k)
      have hlt : (T.take k).length = k := by simp; omega
      have hf := filter_take hx (kp odd)
      conv => whnf
      refine k_idxo ?_ _ rfl (by omega) (by omega)
      conv => whnf
      refine k_cell hx3 ?_
      conv => whnf
      generalize hq2 : ((!decide (x.x.tmod 2 = 0)) == odd) = q2
      cases q2
      · have hkp : kp odd x = true := by simp [kp, hq2]
        rw [if_pos hkp] at hf
        conv => whnf
        refine k_idxo ?_ _ rfl (by omega) (by omega)
        conv => whnf
        refine k_row hx3 ?_
        conv => whnf
        refine app_map (f := av) (l := (T.take k).filter (kp odd)) (new := [x]) rfl rfl (Nat.le_refl _) (by unfold roomBound; simp; omega) (fun _ => forceS_any ?_) (fun h => absurd h (Nat.lt_irrefl _))
        conv => whnf
        refine w_as ((k + 1 : Nat) : Int) (by omega) (by omega) ?_
        conv => whnf
        have hl2 : ((T.take k).filter (kp odd)).length + [x].length = ((T.take (k + 1)).filter (kp odd)).length := by rw [hf]; simp
        rw [← hf, hl2]
        exact at_head [some 0, some 1, some 4] (FH o L T ((T.take (k + 1)).filter (kp odd))) (FE (k + 1) T.length ((T.take (k + 1)).filter (kp odd)) odd) ⟨hk', rfl, rfl⟩
      · have hkp : ¬ kp odd x = true := by simp [kp, hq2]
        rw [if_neg hkp, List.append_nil] at hf
        conv => whnf
        refine w_as ((k + 1 : Nat) : Int) (by omega) (by omega) ?_
        conv => whnf
        rw [← hf]
        exact at_head [some 0, some 1, some 2] (FH o L T ((T.take (k + 1)).filter (kp odd))) (FE (k + 1) T.length ((T.take (k + 1)).filter (kp odd)) odd) ⟨hk', rfl, rfl⟩
  · conv => whnf
    exact at_head [some 0, some 1, none] (FH o L T []) (FE 0 T.length [] odd) ⟨by simp, by simp⟩
