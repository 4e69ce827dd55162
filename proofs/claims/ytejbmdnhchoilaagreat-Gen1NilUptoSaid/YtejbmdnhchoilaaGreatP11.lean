/- Part of the proof: what functions of the program compute, walked. No conditions. -/
import Derived.Test.YtejbmdnhchoilaaGreatP10
set_option linter.unusedVariables false
set_option linter.unusedSimpArgs false
set_option maxRecDepth 100000
section
open Go Go.Am Go.Proofs
namespace Go.Am.Pt
theorem insertionI_ok (P S Q : List Nat) (js : List Jb) (N b : Nat) (D : Nat → Prop) (hc : Tot (cfI js) D) (hdl : ∀ x, D x → x < js.length) (hD : ∀ x ∈ S, D x) (hN : (P ++ (S ++ Q)).length = N) (hb : P.length + S.length = b) (hl : (N : Int) ≤ 1000000) : AC PR 201 [.slc 0 0 N none, i64 P.length, i64 b, .fn (.func 163) [] [.ptr 1 0 0]] [some (.rows 3 1 ((P ++ (S ++ Q)).map iN)), some (.rows 29 1 [jbs js])] (.tuple []) [some (.rows 3 1 ((P ++ (srt (cfI js) S ++ Q)).map iN)), some (.rows 29 1 [jbs js])] := by
  have hN2 : P.length + (S.length + Q.length) = N := by simpa using hN
  apply A201
  conv => whnf
  refine w_as ((P.length + 0 + 1 : Nat) : Int) (by omega) (by omega) ?_
  conv => whnf
  refine loop_to S.length (fun k e H => ∃ U V : List Nat, (U ++ V).Perm S ∧ U.Pairwise (Le (cfI js)) ∧ U.length = min (k + 1) S.length ∧ e = [(0, .slc 0 0 N none), (1, i64 P.length), (2, i64 b), (3, .fn (.func 163) [] [.ptr 1 0 0]), (8, i64 (P.length + k + 1 : Nat))] ∧ H = [some (.rows 3 1 ((P ++ (U ++ V ++ Q)).map iN)), some (.rows 29 1 [jbs js])]) ?_ ?_
  · rintro k e H hk ⟨U, V, hp, hs, hU, rfl, rfl⟩
    have hpl := hp.length_eq
    rw [List.length_append] at hpl
    conv => whnf
    generalize hq : decide (((P.length + k + 1 : Nat) : Int) < (b : Int)) = q
    cases q
    case false =>
      have hq' := of_decide_eq_false hq
      have hV : V = [] := List.length_eq_zero_iff.1 (by omega)
      subst hV
      rw [List.append_nil] at hp
      rw [List.append_nil, srt_eq hc hD hp hs]
      conv => whnf
      exact at_end [some 0, some 1]
    have hq' := of_decide_eq_true hq
    obtain ⟨x, V', rfl⟩ : ∃ x V', V = x :: V' := by
      cases V with
      | nil => simp at hpl; omega
      | cons x V' => exact ⟨x, V', rfl⟩
    have hk1 : k + 1 < S.length := by omega
    have hUk : U.length = k + 1 := by omega
    have hxS : x ∈ S := hp.subset (by simp)
    conv => whnf
    refine loop_dn (fun m e H => ∃ U1 U2 : List Nat, m = U1.length ∧ U1 ++ U2 = U ∧ (∀ y ∈ U2, Le (cfI js) x y) ∧ e = [(0, .slc 0 0 N none), (1, i64 P.length), (2, i64 b), (3, .fn (.func 163) [] [.ptr 1 0 0]), (8, i64 (P.length + k + 1 : Nat)), (9, i64 (P.length + U1.length : Nat))] ∧ H = [some (.rows 3 1 ((P ++ (U1 ++ x :: (U2 ++ (V' ++ Q)))).map iN)), some (.rows 29 1 [jbs js])]) ?_ ?_
    · rintro m e H ⟨U1, U2, rfl, rfl, h2, rfl, rfl⟩
      simp only [List.length_append] at hUk hU hpl
      have done : (∀ y, U1.getLast? = some y → Le (cfI js) y x) → ∃ U V : List Nat, (U ++ V).Perm S ∧ U.Pairwise (Le (cfI js)) ∧ U.length = min (k + 1 + 1) S.length ∧ P ++ (U1 ++ x :: (U2 ++ (V' ++ Q))) = P ++ (U ++ V ++ Q) := fun h1 => by
        refine ⟨U1 ++ x :: U2, V', ?_, ins_sorted hc (hD x hxS) (fun y hy => hD y (hp.subset (by simp at hy ⊢; rcases hy with h | h <;> simp [h]))) hs h2 h1, by simp; omega, by simp⟩
        refine List.Perm.trans ?_ hp
        rw [List.append_assoc, List.append_assoc]
        refine List.Perm.append_left _ ?_
        exact List.perm_middle.symm
      conv => whnf
      generalize hq1 : decide ((P.length : Int) < ((P.length + U1.length : Nat) : Int)) = q1
      rcases List.eq_nil_or_concat U1 with rfl | ⟨W, z, rfl⟩
      · cases q1
        case true => exact absurd (of_decide_eq_true hq1) (by simp)
        conv => whnf
        refine w_as ((P.length + (k + 1) + 1 : Nat) : Int) (by omega) (by omega) ?_
        conv => whnf
        obtain ⟨U', V2, d1, d2, d3, d4⟩ := done (fun y hy => by simp at hy)
        rw [d4]
        exact at_head [some 0, some 1] [some (.rows 3 1 ((P ++ (U' ++ V2 ++ Q)).map iN)), some (.rows 29 1 [jbs js])] [(0, .slc 0 0 N none), (1, i64 P.length), (2, i64 b), (3, .fn (.func 163) [] [.ptr 1 0 0]), (8, i64 (P.length + (k + 1) + 1 : Nat))] ⟨by omega, U', V2, d1, d2, d3, rfl, rfl⟩
      cases q1
      case false => exact absurd (of_decide_eq_false hq1) (by simp; omega)
      have hzS : z ∈ S := hp.subset (by simp)
      rw [show P ++ (W.concat z ++ x :: (U2 ++ (V' ++ Q))) = P ++ (W ++ z :: x :: (U2 ++ (V' ++ Q))) by simp]
      rw [show P ++ (W.concat z ++ x :: (U2 ++ (V' ++ Q))) = P ++ (W ++ z :: x :: (U2 ++ (V' ++ Q))) by simp] at done
      have hL : (P ++ (W ++ z :: x :: (U2 ++ (V' ++ Q)))).length = N := by
        simp at hpl hN2 ⊢; omega
      have hWl : (W.concat z).length = W.length + 1 := by simp
      have hgx : (P ++ (W ++ z :: x :: (U2 ++ (V' ++ Q))))[((P.length + (W.concat z).length : Nat) : Int).toNat]? = some x := by
        have := get_at P (W ++ [z]) x (U2 ++ (V' ++ Q)) (P.length + (W.concat z).length) (by simp)
        rw [List.append_assoc] at this
        exact this
      have hgz : (P ++ (W ++ z :: x :: (U2 ++ (V' ++ Q))))[((P.length + W.length : Nat) : Int).toNat]? = some z := get_at P W z _ _ rfl
      have hPW : P.length + W.length + 1 < N := by rw [← hL]; simp; omega
      have hML : ((P ++ (W ++ z :: x :: (U2 ++ (V' ++ Q)))).map iN).length = N := by rw [List.length_map, hL]
      conv => whnf
      repeat (first
        | (refine And.intro rfl ?_; conv => whnf)
        | (refine k_idx ?_ _ rfl (by omega) (by omega); conv => whnf)
        | (refine k_row (get_map hgx) ?_; conv => whnf)
        | (refine k_cell (get_map hgx) ?_; conv => whnf)
        | (refine k_row (get_map hgz) ?_; conv => whnf)
        | (refine k_cell (get_map hgz) ?_; conv => whnf)
        | (refine e_row (get_map hgx) rfl ?_; conv => whnf)
        | (refine w_as ((P.length + W.length : Nat) : Int) (by omega) (by omega) ?_; conv => whnf))
      refine callv_fr [1] [] [some (.rows 29 1 [jbs js])] (ccI js x z (hdl x (hD x hxS)) (hdl z (hD z hzS))) ?_
      conv => whnf
      generalize hcf : decide ((cfI js) x z < 0) = qc
      cases qc
      case false =>
        conv => whnf
        refine w_as ((P.length + (k + 1) + 1 : Nat) : Int) (by omega) (by omega) ?_
        conv => whnf
        obtain ⟨U', V2, d1, d2, d3, d4⟩ := done (fun y hy => by
          simp at hy
          subst hy
          exact of_decide_eq_false hcf)
        rw [d4]
        exact at_head [some 0, some 1] [some (.rows 3 1 ((P ++ (U' ++ V2 ++ Q)).map iN)), some (.rows 29 1 [jbs js])] [(0, .slc 0 0 N none), (1, i64 P.length), (2, i64 b), (3, .fn (.func 163) [] [.ptr 1 0 0]), (8, i64 (P.length + (k + 1) + 1 : Nat))] ⟨by omega, U', V2, d1, d2, d3, rfl, rfl⟩
      conv => whnf
      repeat (first
        | (refine And.intro rfl ?_; conv => whnf)
        | (refine k_idx ?_ _ rfl (by omega) (by omega); conv => whnf)
        | (refine k_row (get_map hgx) ?_; conv => whnf)
        | (refine k_cell (get_map hgx) ?_; conv => whnf)
        | (refine k_row (get_map hgz) ?_; conv => whnf)
        | (refine k_cell (get_map hgz) ?_; conv => whnf)
        | (refine k_some (get_map hgx) ?_; conv => whnf)
        | (refine k_some (get_map hgz) ?_; conv => whnf)
        | (refine w_as ((P.length + W.length : Nat) : Int) (by omega) (by omega) ?_; conv => whnf))
      refine f_set (f := iN) z rfl ?_
      have e1 : (P ++ (W ++ z :: x :: (U2 ++ (V' ++ Q)))).set ((P.length + (W.concat z).length : Nat) : Int).toNat z = P ++ (W ++ z :: z :: (U2 ++ (V' ++ Q))) := by
        have := set_at P (W ++ [z]) x z (U2 ++ (V' ++ Q)) (P.length + (W.concat z).length) (by simp)
        rw [List.append_assoc, List.append_assoc] at this
        exact this
      have e2 : (P ++ (W ++ z :: z :: (U2 ++ (V' ++ Q)))).set ((P.length + W.length : Nat) : Int).toNat x = P ++ (W ++ x :: z :: (U2 ++ (V' ++ Q))) := set_at P W z x _ _ rfl
      rw [e1]
      have hg2 : (P ++ (W ++ z :: z :: (U2 ++ (V' ++ Q))))[((P.length + W.length : Nat) : Int).toNat]? = some z := get_at P W z _ _ rfl
      have hM2 : ((P ++ (W ++ z :: z :: (U2 ++ (V' ++ Q)))).map iN).length = N := by rw [List.length_map, ← hL]; simp
      conv => whnf
      repeat (first
        | (refine And.intro rfl ?_; conv => whnf)
        | (refine k_idx ?_ _ rfl (by omega) (by omega); conv => whnf)
        | (refine k_some (get_map hg2) ?_; conv => whnf)
        | (refine w_as ((P.length + W.length : Nat) : Int) (by omega) (by omega) ?_; conv => whnf))
      refine f_set (f := iN) x rfl ?_
      rw [e2]
      conv => whnf
      refine w_as ((P.length + W.length : Nat) : Int) (by omega) (by omega) ?_
      conv => whnf
      have hx := of_decide_eq_true hcf
      refine at_head [some 0, some 1] [some (.rows 3 1 ((P ++ (W ++ x :: ((z :: U2) ++ (V' ++ Q)))).map iN)), some (.rows 29 1 [jbs js])] [(0, .slc 0 0 N none), (1, i64 P.length), (2, i64 b), (3, .fn (.func 163) [] [.ptr 1 0 0]), (8, i64 (P.length + k + 1 : Nat)), (9, i64 (P.length + W.length : Nat))] ⟨W.length, by omega, W, z :: U2, rfl, by simp, fun y hy => ?_, rfl, rfl⟩
      rcases List.mem_cons.1 hy with rfl | hy
      · exact hc.lt _ _ (hD x hxS) (hD y hzS) hx
      · exact h2 y hy
    · rw [show P ++ (U ++ x :: V' ++ Q) = P ++ (U ++ x :: ([] ++ (V' ++ Q))) by simp]
      conv => whnf
      refine at_head [some 0, some 1] [some (.rows 3 1 ((P ++ (U ++ x :: ([] ++ (V' ++ Q)))).map iN)), some (.rows 29 1 [jbs js])] [(0, .slc 0 0 N none), (1, i64 P.length), (2, i64 b), (3, .fn (.func 163) [] [.ptr 1 0 0]), (8, i64 (P.length + k + 1 : Nat)), (9, i64 (P.length + U.length : Nat))] ⟨_, U, [], rfl, by simp, by simp, rfl, rfl⟩
  · conv => whnf
    refine at_head [some 0, some 1] _ [(0, .slc 0 0 N none), (1, i64 P.length), (2, i64 b), (3, .fn (.func 163) [] [.ptr 1 0 0]), (8, i64 (P.length + 0 + 1 : Nat))] ⟨S.take 1, S.drop 1, by rw [List.take_append_drop], ?_, by simp, rfl, by rw [List.take_append_drop]⟩
    cases S with
    | nil => simp
    | cons y S => simp
theorem insertionJ_ok (P S Q : List Jb)  (N b : Nat) (D : Jb → Prop) (hc : Tot ordW D)  (hD : ∀ x ∈ S, D x) (hN : (P ++ (S ++ Q)).length = N) (hb : P.length + S.length = b) (hl : (N : Int) ≤ 1000000) : AC PR 231 [.slc 0 0 N none, i64 P.length, i64 b, .fn (.func 216) [] []] [some (.rows 63 13 ((P ++ (S ++ Q)).map jbA))] (.tuple []) [some (.rows 63 13 ((P ++ (srt ordW S ++ Q)).map jbA))] := by
  have hN2 : P.length + (S.length + Q.length) = N := by simpa using hN
  apply A231
  conv => whnf
  refine w_as ((P.length + 0 + 1 : Nat) : Int) (by omega) (by omega) ?_
  conv => whnf
  refine loop_to S.length (fun k e H => ∃ U V : List Jb, (U ++ V).Perm S ∧ U.Pairwise (Le ordW) ∧ U.length = min (k + 1) S.length ∧ e = [(0, .slc 0 0 N none), (1, i64 P.length), (2, i64 b), (3, .fn (.func 216) [] []), (8, i64 (P.length + k + 1 : Nat))] ∧ H = [some (.rows 63 13 ((P ++ (U ++ V ++ Q)).map jbA))]) ?_ ?_
  · rintro k e H hk ⟨U, V, hp, hs, hU, rfl, rfl⟩
    have hpl := hp.length_eq
    rw [List.length_append] at hpl
    conv => whnf
    generalize hq : decide (((P.length + k + 1 : Nat) : Int) < (b : Int)) = q
    cases q
    case false =>
      have hq' := of_decide_eq_false hq
      have hV : V = [] := List.length_eq_zero_iff.1 (by omega)
      subst hV
      rw [List.append_nil] at hp
      rw [List.append_nil, srt_eq hc hD hp hs]
      conv => whnf
      exact at_end [some 0]
    have hq' := of_decide_eq_true hq
    obtain ⟨x, V', rfl⟩ : ∃ x V', V = x :: V' := by
      cases V with
      | nil => simp at hpl; omega
      | cons x V' => exact ⟨x, V', rfl⟩
    have hk1 : k + 1 < S.length := by omega
    have hUk : U.length = k + 1 := by omega
    have hxS : x ∈ S := hp.subset (by simp)
    conv => whnf
    refine loop_dn (fun m e H => ∃ U1 U2 : List Jb, m = U1.length ∧ U1 ++ U2 = U ∧ (∀ y ∈ U2, Le ordW x y) ∧ e = [(0, .slc 0 0 N none), (1, i64 P.length), (2, i64 b), (3, .fn (.func 216) [] []), (8, i64 (P.length + k + 1 : Nat)), (9, i64 (P.length + U1.length : Nat))] ∧ H = [some (.rows 63 13 ((P ++ (U1 ++ x :: (U2 ++ (V' ++ Q)))).map jbA))]) ?_ ?_
    · rintro m e H ⟨U1, U2, rfl, rfl, h2, rfl, rfl⟩
      simp only [List.length_append] at hUk hU hpl
      have done : (∀ y, U1.getLast? = some y → Le ordW y x) → ∃ U V : List Jb, (U ++ V).Perm S ∧ U.Pairwise (Le ordW) ∧ U.length = min (k + 1 + 1) S.length ∧ P ++ (U1 ++ x :: (U2 ++ (V' ++ Q))) = P ++ (U ++ V ++ Q) := fun h1 => by
        refine ⟨U1 ++ x :: U2, V', ?_, ins_sorted hc (hD x hxS) (fun y hy => hD y (hp.subset (by simp at hy ⊢; rcases hy with h | h <;> simp [h]))) hs h2 h1, by simp; omega, by simp⟩
        refine List.Perm.trans ?_ hp
        rw [List.append_assoc, List.append_assoc]
        refine List.Perm.append_left _ ?_
        exact List.perm_middle.symm
      conv => whnf
      generalize hq1 : decide ((P.length : Int) < ((P.length + U1.length : Nat) : Int)) = q1
      rcases List.eq_nil_or_concat U1 with rfl | ⟨W, z, rfl⟩
      · cases q1
        case true => exact absurd (of_decide_eq_true hq1) (by simp)
        conv => whnf
        refine w_as ((P.length + (k + 1) + 1 : Nat) : Int) (by omega) (by omega) ?_
        conv => whnf
        obtain ⟨U', V2, d1, d2, d3, d4⟩ := done (fun y hy => by simp at hy)
        rw [d4]
        exact at_head [some 0] [some (.rows 63 13 ((P ++ (U' ++ V2 ++ Q)).map jbA))] [(0, .slc 0 0 N none), (1, i64 P.length), (2, i64 b), (3, .fn (.func 216) [] []), (8, i64 (P.length + (k + 1) + 1 : Nat))] ⟨by omega, U', V2, d1, d2, d3, rfl, rfl⟩
      cases q1
      case false => exact absurd (of_decide_eq_false hq1) (by simp; omega)
      have hzS : z ∈ S := hp.subset (by simp)
      rw [show P ++ (W.concat z ++ x :: (U2 ++ (V' ++ Q))) = P ++ (W ++ z :: x :: (U2 ++ (V' ++ Q))) by simp]
      rw [show P ++ (W.concat z ++ x :: (U2 ++ (V' ++ Q))) = P ++ (W ++ z :: x :: (U2 ++ (V' ++ Q))) by simp] at done
      have hL : (P ++ (W ++ z :: x :: (U2 ++ (V' ++ Q)))).length = N := by
        simp at hpl hN2 ⊢; omega
      have hWl : (W.concat z).length = W.length + 1 := by simp
      have hgx : (P ++ (W ++ z :: x :: (U2 ++ (V' ++ Q))))[((P.length + (W.concat z).length : Nat) : Int).toNat]? = some x := by
        have := get_at P (W ++ [z]) x (U2 ++ (V' ++ Q)) (P.length + (W.concat z).length) (by simp)
        rw [List.append_assoc] at this
        exact this
      have hgz : (P ++ (W ++ z :: x :: (U2 ++ (V' ++ Q))))[((P.length + W.length : Nat) : Int).toNat]? = some z := get_at P W z _ _ rfl
      have hPW : P.length + W.length + 1 < N := by rw [← hL]; simp; omega
      have hML : ((P ++ (W ++ z :: x :: (U2 ++ (V' ++ Q)))).map jbA).length = N := by rw [List.length_map, hL]
      conv => whnf
      repeat (first
        | (refine And.intro rfl ?_; conv => whnf)
        | (refine k_idx ?_ _ rfl (by omega) (by omega); conv => whnf)
        | (refine k_row (get_map hgx) ?_; conv => whnf)
        | (refine k_cell (get_map hgx) ?_; conv => whnf)
        | (refine k_row (get_map hgz) ?_; conv => whnf)
        | (refine k_cell (get_map hgz) ?_; conv => whnf)
        | (refine e_row (get_map hgx) rfl ?_; conv => whnf)
        | (refine w_as ((P.length + W.length : Nat) : Int) (by omega) (by omega) ?_; conv => whnf))
      refine callv_closed (ccJ x z) ?_
      conv => whnf
      generalize hcf : decide (ordW x z < 0) = qc
      cases qc
      case false =>
        conv => whnf
        refine w_as ((P.length + (k + 1) + 1 : Nat) : Int) (by omega) (by omega) ?_
        conv => whnf
        obtain ⟨U', V2, d1, d2, d3, d4⟩ := done (fun y hy => by
          simp at hy
          subst hy
          exact of_decide_eq_false hcf)
        rw [d4]
        exact at_head [some 0] [some (.rows 63 13 ((P ++ (U' ++ V2 ++ Q)).map jbA))] [(0, .slc 0 0 N none), (1, i64 P.length), (2, i64 b), (3, .fn (.func 216) [] []), (8, i64 (P.length + (k + 1) + 1 : Nat))] ⟨by omega, U', V2, d1, d2, d3, rfl, rfl⟩
      conv => whnf
      repeat (first
        | (refine And.intro rfl ?_; conv => whnf)
        | (refine k_idx ?_ _ rfl (by omega) (by omega); conv => whnf)
        | (refine k_row (get_map hgx) ?_; conv => whnf)
        | (refine k_cell (get_map hgx) ?_; conv => whnf)
        | (refine k_row (get_map hgz) ?_; conv => whnf)
        | (refine k_cell (get_map hgz) ?_; conv => whnf)
        | (refine k_some (get_map hgx) ?_; conv => whnf)
        | (refine k_some (get_map hgz) ?_; conv => whnf)
        | (refine w_as ((P.length + W.length : Nat) : Int) (by omega) (by omega) ?_; conv => whnf))
      refine f_set (f := jbA) z rfl ?_
      have e1 : (P ++ (W ++ z :: x :: (U2 ++ (V' ++ Q)))).set ((P.length + (W.concat z).length : Nat) : Int).toNat z = P ++ (W ++ z :: z :: (U2 ++ (V' ++ Q))) := by
        have := set_at P (W ++ [z]) x z (U2 ++ (V' ++ Q)) (P.length + (W.concat z).length) (by simp)
        rw [List.append_assoc, List.append_assoc] at this
        exact this
      have e2 : (P ++ (W ++ z :: z :: (U2 ++ (V' ++ Q)))).set ((P.length + W.length : Nat) : Int).toNat x = P ++ (W ++ x :: z :: (U2 ++ (V' ++ Q))) := set_at P W z x _ _ rfl
      rw [e1]
      have hg2 : (P ++ (W ++ z :: z :: (U2 ++ (V' ++ Q))))[((P.length + W.length : Nat) : Int).toNat]? = some z := get_at P W z _ _ rfl
      have hM2 : ((P ++ (W ++ z :: z :: (U2 ++ (V' ++ Q)))).map jbA).length = N := by rw [List.length_map, ← hL]; simp
      conv => whnf
      repeat (first
        | (refine And.intro rfl ?_; conv => whnf)
        | (refine k_idx ?_ _ rfl (by omega) (by omega); conv => whnf)
        | (refine k_some (get_map hg2) ?_; conv => whnf)
        | (refine w_as ((P.length + W.length : Nat) : Int) (by omega) (by omega) ?_; conv => whnf))
      refine f_set (f := jbA) x rfl ?_
      rw [e2]
      conv => whnf
      refine w_as ((P.length + W.length : Nat) : Int) (by omega) (by omega) ?_
      conv => whnf
      have hx := of_decide_eq_true hcf
      refine at_head [some 0] [some (.rows 63 13 ((P ++ (W ++ x :: ((z :: U2) ++ (V' ++ Q)))).map jbA))] [(0, .slc 0 0 N none), (1, i64 P.length), (2, i64 b), (3, .fn (.func 216) [] []), (8, i64 (P.length + k + 1 : Nat)), (9, i64 (P.length + W.length : Nat))] ⟨W.length, by omega, W, z :: U2, rfl, by simp, fun y hy => ?_, rfl, rfl⟩
      rcases List.mem_cons.1 hy with rfl | hy
      · exact hc.lt _ _ (hD x hxS) (hD y hzS) hx
      · exact h2 y hy
    · rw [show P ++ (U ++ x :: V' ++ Q) = P ++ (U ++ x :: ([] ++ (V' ++ Q))) by simp]
      conv => whnf
      refine at_head [some 0] [some (.rows 63 13 ((P ++ (U ++ x :: ([] ++ (V' ++ Q)))).map jbA))] [(0, .slc 0 0 N none), (1, i64 P.length), (2, i64 b), (3, .fn (.func 216) [] []), (8, i64 (P.length + k + 1 : Nat)), (9, i64 (P.length + U.length : Nat))] ⟨_, U, [], rfl, by simp, by simp, rfl, rfl⟩
  · conv => whnf
    refine at_head [some 0] _ [(0, .slc 0 0 N none), (1, i64 P.length), (2, i64 b), (3, .fn (.func 216) [] []), (8, i64 (P.length + 0 + 1 : Nat))] ⟨S.take 1, S.drop 1, by rw [List.take_append_drop], ?_, by simp, rfl, by rw [List.take_append_drop]⟩
    cases S with
    | nil => simp
    | cons y S => simp
end Go.Am.Pt
end
