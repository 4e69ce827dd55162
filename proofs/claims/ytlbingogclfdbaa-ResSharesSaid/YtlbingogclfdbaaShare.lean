/- Share and Sum of package res and of its reference, each by a contract. No conditions but that a list is read as it lies. -/
import Derived.Test.YtlbingogclfdbaaSums
namespace Go.Proofs.Ytlbingogclfdbaa
open Go.RowKit Go.Lw
attribute [local go_sem] lt_p2 le_p2 lt_p3 le_p3 lt_p4 le_p4 lt_p5 le_p5 lt_p6 le_p6 lt_p7 le_p7 lt_p8 le_p8 lt_p9 le_p9 lt_p10 le_p10 lt_p11 le_p11 lt_p12 le_p12 lt_p13 le_p13 lt_p14 le_p14 lt_p15 le_p15 lt_p16 le_p16 le_c0 le_c1 lt_c2 le_c2 lt_c3 le_c3 lt_c4 le_c4 lt_c5 le_c5 lt_c6 le_c6 lt_c7 le_c7 lt_c8 le_c8 lt_c9 le_c9 lt_c10 le_c10 lt_c11 le_c11 lt_c12 le_c12 lt_c13 le_c13 lt_c14 le_c14 lt_c15 le_c15 lt_c16 le_c16 cell_set
set_option linter.unusedVariables false
set_option linter.unusedSimpArgs false

def shr (a w : Int) : Int := if 0 < w then 1000 * a / w else 0
def shareI (a0 a1 a2 b0 b1 b2 : Int) : Int := if rightB a0 a1 a2 = true ∧ rightB b0 b1 b2 = true then shr a0 b0 + shr a1 b1 + shr a2 b2 else 0
theorem shr_pos {a w : Int} (h : 0 < w) : shr a w = 1000 * a / w := if_pos h
theorem shr_neg {a w : Int} (h : ¬ 0 < w) : shr a w = 0 := if_neg h
theorem div_bd {a w : Int} (h : 0 ≤ a) (h1 : a ≤ 1048576) (hw : 0 < w) : 0 ≤ 1000 * a / w ∧ 1000 * a / w ≤ 1048576000 := by
  constructor
  · exact Int.ediv_nonneg (by omega) (by omega)
  · have := Int.ediv_le_self w (a := 1000 * a) (by omega)
    omega

set_option maxHeartbeats 2000000 in
theorem share_any (a0 a1 a2 b0 b1 b2 : Int) (w : World) :
    Calls Try.prog 16 #[rv a0 a1 a2, rv b0 b1 b2] w fun e w' => e = .returned (.int .i64 (shareI a0 a1 a2 b0 b1 b2)) ∧ Below w.heap.size w w' := by
  have i0 := ix0 b0 b1 b2
  have i1 := ix1 b0 b1 b2
  have i2 := ix2 b0 b1 b2
  cases ra : rightB a0 a1 a2 with
  | false =>
    rw [show shareI a0 a1 a2 b0 b1 b2 = 0 from if_neg (by simp [ra])]
    unfold rv
    go_enter Try.func16, Try.ntmps16
    go_wp2_with (first | (go_at_call 11; refine (right_any _ _ _ _).mono ?_; rintro e w' ⟨rfl, rfl⟩))
    go_ret
    exact ⟨rfl, by (repeat (first | with_reducible exact Below.refl _ _ | with_reducible assumption | with_reducible refine Below.drew ?_ | with_reducible refine bl_drewN ?_ | (with_reducible refine bl_alloc ?_ ?_; · (first | omega | (simp; done) | (simp; omega))) | (with_reducible refine bl_set ?_ ?_; · (first | omega | (simp; done) | (simp; omega)))))⟩
  | true =>
    cases rb : rightB b0 b1 b2 with
    | false =>
      rw [show shareI a0 a1 a2 b0 b1 b2 = 0 from if_neg (by simp [rb])]
      unfold rv
      go_enter Try.func16, Try.ntmps16
      go_wp2_with (first | (go_at_call 11; refine (right_any _ _ _ _).mono ?_; rintro e w' ⟨rfl, rfl⟩))
      go_ret
      exact ⟨rfl, by (repeat (first | with_reducible exact Below.refl _ _ | with_reducible assumption | with_reducible refine Below.drew ?_ | with_reducible refine bl_drewN ?_ | (with_reducible refine bl_alloc ?_ ?_; · (first | omega | (simp; done) | (simp; omega))) | (with_reducible refine bl_set ?_ ?_; · (first | omega | (simp; done) | (simp; omega)))))⟩
    | true =>
      obtain ⟨_, _, _, _, _, _⟩ := right_out ra
      obtain ⟨_, _, _, _, _, _⟩ := right_out rb
      have he : shareI a0 a1 a2 b0 b1 b2 = shr a0 b0 + shr a1 b1 + shr a2 b2 := if_pos ⟨ra, rb⟩
      by_cases h0 : 0 < b0 <;> by_cases h1 : 0 < b1 <;> by_cases h2 : 0 < b2
      all_goals (first | (have e0 := shr_pos (a := a0) h0) | (have e0 := shr_neg (a := a0) h0))
      all_goals (first | (have e1 := shr_pos (a := a1) h1) | (have e1 := shr_neg (a := a1) h1))
      all_goals (first | (have e2 := shr_pos (a := a2) h2) | (have e2 := shr_neg (a := a2) h2))
      all_goals (try (have q0 := div_bd (a := a0) (w := b0) (by omega) (by omega) h0; obtain ⟨q01, q02⟩ := q0))
      all_goals (try (have q1 := div_bd (a := a1) (w := b1) (by omega) (by omega) h1; obtain ⟨q11, q12⟩ := q1))
      all_goals (try (have q2 := div_bd (a := a2) (w := b2) (by omega) (by omega) h2; obtain ⟨q21, q22⟩ := q2))
      all_goals (rw [he, e0, e1, e2]; clear he e0 e1 e2)
      all_goals
        unfold rv
        go_enter Try.func16, Try.ntmps16
        go_wp2_with (first | (go_at_call 11; refine (right_any _ _ _ _).mono ?_; rintro e w' ⟨rfl, rfl⟩))
        refine wp_loop_rounds 4 ?_
        repeat (any_goals (rw [rounds_succ]; go_wp2))
        go_ret
        exact ⟨ret_int (by omega), by (repeat (first | with_reducible exact Below.refl _ _ | with_reducible assumption | with_reducible refine Below.drew ?_ | with_reducible refine bl_drewN ?_ | (with_reducible refine bl_alloc ?_ ?_; · (first | omega | (simp; done) | (simp; omega))) | (with_reducible refine bl_set ?_ ?_; · (first | omega | (simp; done) | (simp; omega)))))⟩

set_option maxHeartbeats 2000000 in
theorem rshare_any (a0 a1 a2 b0 b1 b2 : Int) (w : World) :
    Calls Try.prog 21 #[rv a0 a1 a2, rv b0 b1 b2] w fun e w' => e = .returned (.int .i64 (shareI a0 a1 a2 b0 b1 b2)) ∧ Below w.heap.size w w' := by
  have i0 := ix0 b0 b1 b2
  have i1 := ix1 b0 b1 b2
  have i2 := ix2 b0 b1 b2
  cases ra : rightB a0 a1 a2 with
  | false =>
    rw [show shareI a0 a1 a2 b0 b1 b2 = 0 from if_neg (by simp [ra])]
    unfold rv
    go_enter Try.func21, Try.ntmps21
    go_wp2_with (first | (go_at_call 19; refine (rright_any _ _ _ _).mono ?_; rintro e w' ⟨rfl, rfl⟩))
    go_ret
    exact ⟨rfl, by (repeat (first | with_reducible exact Below.refl _ _ | with_reducible assumption | with_reducible refine Below.drew ?_ | with_reducible refine bl_drewN ?_ | (with_reducible refine bl_alloc ?_ ?_; · (first | omega | (simp; done) | (simp; omega))) | (with_reducible refine bl_set ?_ ?_; · (first | omega | (simp; done) | (simp; omega)))))⟩
  | true =>
    cases rb : rightB b0 b1 b2 with
    | false =>
      rw [show shareI a0 a1 a2 b0 b1 b2 = 0 from if_neg (by simp [rb])]
      unfold rv
      go_enter Try.func21, Try.ntmps21
      go_wp2_with (first | (go_at_call 19; refine (rright_any _ _ _ _).mono ?_; rintro e w' ⟨rfl, rfl⟩))
      go_ret
      exact ⟨rfl, by (repeat (first | with_reducible exact Below.refl _ _ | with_reducible assumption | with_reducible refine Below.drew ?_ | with_reducible refine bl_drewN ?_ | (with_reducible refine bl_alloc ?_ ?_; · (first | omega | (simp; done) | (simp; omega))) | (with_reducible refine bl_set ?_ ?_; · (first | omega | (simp; done) | (simp; omega)))))⟩
    | true =>
      obtain ⟨_, _, _, _, _, _⟩ := right_out ra
      obtain ⟨_, _, _, _, _, _⟩ := right_out rb
      have he : shareI a0 a1 a2 b0 b1 b2 = shr a0 b0 + shr a1 b1 + shr a2 b2 := if_pos ⟨ra, rb⟩
      by_cases h0 : 0 < b0 <;> by_cases h1 : 0 < b1 <;> by_cases h2 : 0 < b2
      all_goals (first | (have e0 := shr_pos (a := a0) h0) | (have e0 := shr_neg (a := a0) h0))
      all_goals (first | (have e1 := shr_pos (a := a1) h1) | (have e1 := shr_neg (a := a1) h1))
      all_goals (first | (have e2 := shr_pos (a := a2) h2) | (have e2 := shr_neg (a := a2) h2))
      all_goals (try (have q0 := div_bd (a := a0) (w := b0) (by omega) (by omega) h0; obtain ⟨q01, q02⟩ := q0))
      all_goals (try (have q1 := div_bd (a := a1) (w := b1) (by omega) (by omega) h1; obtain ⟨q11, q12⟩ := q1))
      all_goals (try (have q2 := div_bd (a := a2) (w := b2) (by omega) (by omega) h2; obtain ⟨q21, q22⟩ := q2))
      all_goals (rw [he, e0, e1, e2]; clear he e0 e1 e2)
      all_goals
        unfold rv
        go_enter Try.func21, Try.ntmps21
        go_wp2_with (first | (go_at_call 19; refine (rright_any _ _ _ _).mono ?_; rintro e w' ⟨rfl, rfl⟩))
        refine wp_loop_rounds 4 ?_
        repeat (any_goals (first | go_region | (rw [rounds_succ]; go_wp2) | (go_step; go_wp2)))
        go_ret
        exact ⟨ret_int (by omega), by (repeat (first | with_reducible exact Below.refl _ _ | with_reducible assumption | with_reducible refine Below.drew ?_ | with_reducible refine bl_drewN ?_ | (with_reducible refine bl_alloc ?_ ?_; · (first | omega | (simp; done) | (simp; omega))) | (with_reducible refine bl_set ?_ ?_; · (first | omega | (simp; done) | (simp; omega)))))⟩

end Go.Proofs.Ytlbingogclfdbaa
