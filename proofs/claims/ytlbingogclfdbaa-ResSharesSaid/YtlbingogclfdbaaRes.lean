/- The functions of package res and of its reference, each by a contract: what it answers, and which memory of its own it makes. No conditions. -/
import Derived.Test.YtlbingogclfdbaaRows
import Derived.Test.YtlbingogclfdbaaLib
namespace Go.Proofs.Ytlbingogclfdbaa
open Go.RowKit Go.Lw
attribute [local go_sem] lt_p2 le_p2 lt_p3 le_p3 lt_p4 le_p4 lt_p5 le_p5 lt_p6 le_p6 lt_p7 le_p7 lt_p8 le_p8 lt_p9 le_p9 lt_p10 le_p10 lt_p11 le_p11 lt_p12 le_p12 lt_p13 le_p13 lt_p14 le_p14 lt_p15 le_p15 lt_p16 le_p16 le_c0 le_c1 lt_c2 le_c2 lt_c3 le_c3 lt_c4 le_c4 lt_c5 le_c5 lt_c6 le_c6 lt_c7 le_c7 lt_c8 le_c8 lt_c9 le_c9 lt_c10 le_c10 lt_c11 le_c11 lt_c12 le_c12 lt_c13 le_c13 lt_c14 le_c14 lt_c15 le_c15 lt_c16 le_c16 cell_set
set_option linter.unusedVariables false
set_option linter.unusedSimpArgs false
def fitsB (a0 a1 a2 b0 b1 b2 : Int) : Bool := decide (a0 ≤ b0 ∧ a1 ≤ b1 ∧ a2 ≤ b2)
def rightB (a b c : Int) : Bool := decide (0 ≤ a ∧ a ≤ 1048576 ∧ 0 ≤ b ∧ b ≤ 1048576 ∧ 0 ≤ c ∧ c ≤ 1048576)
theorem ix0 (a b c : Int) (w : World) : (Instr.index 23 (.agg #[.int .i64 a, .int .i64 b, .int .i64 c]) (.int .i64 0)).run Try.prog w = .ok (.int .i64 a) w := by kernel_rfl
theorem ix1 (a b c : Int) (w : World) : (Instr.index 23 (.agg #[.int .i64 a, .int .i64 b, .int .i64 c]) (.int .i64 1)).run Try.prog w = .ok (.int .i64 b) w := by kernel_rfl
theorem ix2 (a b c : Int) (w : World) : (Instr.index 23 (.agg #[.int .i64 a, .int .i64 b, .int .i64 c]) (.int .i64 2)).run Try.prog w = .ok (.int .i64 c) w := by kernel_rfl
set_option maxHeartbeats 400000 in
theorem fits_any (a0 a1 a2 b0 b1 b2 : Int) (w : World) :
    Calls Try.prog 10 #[rv a0 a1 a2, rv b0 b1 b2] w fun e w' => e = .returned (.bool (fitsB a0 a1 a2 b0 b1 b2)) ∧ (w.alloc (.cells #[.int .i64 a0, .int .i64 a1, .int .i64 a2] 23)).alloc (.cells #[.int .i64 b0, .int .i64 b1, .int .i64 b2] 23) = w' := by
  have i0 := ix0 a0 a1 a2
  have i1 := ix1 a0 a1 a2
  have i2 := ix2 a0 a1 a2
  unfold rv
  go_enter Try.func10, Try.ntmps10
  go_wp2
  refine wp_loop_rounds 4 ?_
  repeat (any_goals (rw [rounds_succ]; go_wp2))
  all_goals (go_ret; exact ⟨ret_bool (by unfold fitsB; (first | (symm; rw [decide_eq_true_eq]; omega) | (symm; rw [decide_eq_false_iff_not]; omega) | (rw [decide_eq_decide]; omega))), rfl⟩)
set_option maxHeartbeats 400000 in
theorem right_any (a b c : Int) (w : World) :
    Calls Try.prog 11 #[rv a b c] w fun e w' => e = .returned (.bool (rightB a b c)) ∧ w.alloc (.cells #[.int .i64 a, .int .i64 b, .int .i64 c] 23) = w' := by
  have i0 := ix0 a b c
  have i1 := ix1 a b c
  have i2 := ix2 a b c
  unfold rv
  go_enter Try.func11, Try.ntmps11
  go_wp2
  refine wp_loop_rounds 4 ?_
  repeat (any_goals (rw [rounds_succ]; go_wp2))
  all_goals (go_ret; exact ⟨ret_bool (by unfold rightB; (first | (symm; rw [decide_eq_true_eq]; omega) | (symm; rw [decide_eq_false_iff_not]; omega) | (rw [decide_eq_decide]; omega))), rfl⟩)
set_option maxHeartbeats 400000 in
theorem rright_any (a b c : Int) (w : World) :
    Calls Try.prog 19 #[rv a b c] w fun e w' => e = .returned (.bool (rightB a b c)) ∧ w.alloc (.cells #[.int .i64 a, .int .i64 b, .int .i64 c] 23) = w' := by
  unfold rv
  go_enter Try.func19, Try.ntmps19
  go_wp2
  refine wp_loop_rounds 4 ?_
  repeat (any_goals (rw [rounds_succ]; go_wp2))
  all_goals (go_ret; exact ⟨ret_bool (by unfold rightB; (first | (symm; rw [decide_eq_true_eq]; omega) | (symm; rw [decide_eq_false_iff_not]; omega) | (rw [decide_eq_decide]; omega))), rfl⟩)
set_option maxHeartbeats 400000 in
theorem rfits_any (a0 a1 a2 b0 b1 b2 : Int) (w : World) :
    Calls Try.prog 20 #[rv a0 a1 a2, rv b0 b1 b2] w fun e w' => e = .returned (.bool (fitsB a0 a1 a2 b0 b1 b2)) ∧ (w.alloc (.cells #[.int .i64 a0, .int .i64 a1, .int .i64 a2] 23)).alloc (.cells #[.int .i64 b0, .int .i64 b1, .int .i64 b2] 23) = w' := by
  unfold rv
  go_enter Try.func20, Try.ntmps20
  go_wp2
  all_goals (go_ret; exact ⟨ret_bool (by unfold fitsB; (first | (symm; rw [decide_eq_true_eq]; omega) | (symm; rw [decide_eq_false_iff_not]; omega) | (rw [decide_eq_decide]; omega))), rfl⟩)
def addE (a0 a1 a2 b0 b1 b2 s : Int) : Int := if rightB a0 a1 a2 = true ∧ rightB b0 b1 b2 = true then if rightB (a0 + s * b0) (a1 + s * b1) (a2 + s * b2) = true then 0 else 6 else 1
def pick0 (e x : Int) : Int := if e = 0 then x else 0
def addV (a0 a1 a2 b0 b1 b2 s : Int) : Value := .tuple #[rv (pick0 (addE a0 a1 a2 b0 b1 b2 s) (a0 + s * b0)) (pick0 (addE a0 a1 a2 b0 b1 b2 s) (a1 + s * b1)) (pick0 (addE a0 a1 a2 b0 b1 b2 s) (a2 + s * b2)), .int .i64 (addE a0 a1 a2 b0 b1 b2 s)]
theorem right_out {a b c : Int} (h : rightB a b c = true) : 0 ≤ a ∧ a ≤ 1048576 ∧ 0 ≤ b ∧ b ≤ 1048576 ∧ 0 ≤ c ∧ c ≤ 1048576 := by unfold rightB at h; simpa using h
theorem addE_1 {a0 a1 a2 b0 b1 b2 s : Int} (h : ¬ (rightB a0 a1 a2 = true ∧ rightB b0 b1 b2 = true)) : addE a0 a1 a2 b0 b1 b2 s = 1 := by unfold addE; rw [if_neg h]
theorem addE_6 {a0 a1 a2 b0 b1 b2 s : Int} (h : rightB a0 a1 a2 = true) (h1 : rightB b0 b1 b2 = true) (h2 : rightB (a0 + s * b0) (a1 + s * b1) (a2 + s * b2) = false) : addE a0 a1 a2 b0 b1 b2 s = 6 := by unfold addE; rw [if_pos ⟨h, h1⟩, if_neg (by simp [h2])]
theorem addE_0 {a0 a1 a2 b0 b1 b2 s : Int} (h : rightB a0 a1 a2 = true) (h1 : rightB b0 b1 b2 = true) (h2 : rightB (a0 + s * b0) (a1 + s * b1) (a2 + s * b2) = true) : addE a0 a1 a2 b0 b1 b2 s = 0 := by unfold addE; rw [if_pos ⟨h, h1⟩, if_pos h2]
theorem addV_1 {a0 a1 a2 b0 b1 b2 s : Int} (h : ¬ (rightB a0 a1 a2 = true ∧ rightB b0 b1 b2 = true)) : addV a0 a1 a2 b0 b1 b2 s = .tuple #[rv 0 0 0, .int .i64 1] := by simp [addV, addE_1 h, pick0]
theorem addV_6 {a0 a1 a2 b0 b1 b2 s : Int} (h : rightB a0 a1 a2 = true) (h1 : rightB b0 b1 b2 = true) (h2 : rightB (a0 + s * b0) (a1 + s * b1) (a2 + s * b2) = false) : addV a0 a1 a2 b0 b1 b2 s = .tuple #[rv 0 0 0, .int .i64 6] := by simp [addV, addE_6 h h1 h2, pick0]
theorem addV_0 {a0 a1 a2 b0 b1 b2 s : Int} (h : rightB a0 a1 a2 = true) (h1 : rightB b0 b1 b2 = true) (h2 : rightB (a0 + s * b0) (a1 + s * b1) (a2 + s * b2) = true) : addV a0 a1 a2 b0 b1 b2 s = .tuple #[rv (a0 + s * b0) (a1 + s * b1) (a2 + s * b2), .int .i64 0] := by simp [addV, addE_0 h h1 h2, pick0]

set_option maxHeartbeats 1000000 in
theorem both_pos (a0 a1 a2 b0 b1 b2 : Int) (w : World) :
    Calls Try.prog 22 #[rv a0 a1 a2, rv b0 b1 b2, .int .i64 1] w fun e w' => e = .returned (addV a0 a1 a2 b0 b1 b2 (1)) ∧ Below w.heap.size w w' := by
  have i0 := ix0 b0 b1 b2
  have i1 := ix1 b0 b1 b2
  have i2 := ix2 b0 b1 b2
  cases ra : rightB a0 a1 a2 with
  | false =>
    rw [addV_1 (by simp [ra])]
    unfold rv
    go_enter Try.func22, Try.ntmps22
    go_wp2_with (first | (go_at_call 11; refine (right_any _ _ _ _).mono ?_; rintro e w' ⟨rfl, rfl⟩))
    exact bodyPost_ret (v := .tuple #[.agg #[.int .i64 0, .int .i64 0, .int .i64 0], .int .i64 1]) (by simp [results, Try.results22, go_sem]) rfl ⟨rfl, by (repeat (first | exact Below.refl _ _ | (refine Below.alloc ?_ (by first | (simp; done) | (simp; omega)) _) | (refine Below.setCell ?_ (by first | (simp; done) | (simp; omega)) _) | refine Below.drew ?_))⟩
  | true =>
    cases rb : rightB b0 b1 b2 with
    | false =>
      rw [addV_1 (by simp [rb])]
      unfold rv
      go_enter Try.func22, Try.ntmps22
      go_wp2_with (first | (go_at_call 11; refine (right_any _ _ _ _).mono ?_; rintro e w' ⟨rfl, rfl⟩))
      exact bodyPost_ret (v := .tuple #[.agg #[.int .i64 0, .int .i64 0, .int .i64 0], .int .i64 1]) (by simp [results, Try.results22, go_sem]) rfl ⟨rfl, by (repeat (first | exact Below.refl _ _ | (refine Below.alloc ?_ (by first | (simp; done) | (simp; omega)) _) | (refine Below.setCell ?_ (by first | (simp; done) | (simp; omega)) _) | refine Below.drew ?_))⟩
    | true =>
      obtain ⟨_, _, _, _, _, _⟩ := right_out ra
      obtain ⟨_, _, _, _, _, _⟩ := right_out rb
      cases rc : rightB (a0 + b0) (a1 + b1) (a2 + b2) with
      | false =>
        rw [addV_6 ra rb (by simpa [Int.sub_eq_add_neg] using rc)]
        unfold rv
        go_enter Try.func22, Try.ntmps22
        go_wp2_with (first | (go_at_call 11; refine (right_any _ _ _ _).mono ?_; rintro e w' ⟨rfl, rfl⟩))
        refine wp_loop_rounds 4 ?_
        repeat (any_goals (rw [rounds_succ]; go_wp2_with (first | (go_at_call 11; refine (right_any _ _ _ _).mono ?_; rintro e w' ⟨rfl, rfl⟩))))
        exact bodyPost_ret (v := .tuple #[.agg #[.int .i64 0, .int .i64 0, .int .i64 0], .int .i64 6]) (by simp [results, Try.results22, go_sem]) rfl ⟨rfl, by (repeat (first | exact Below.refl _ _ | (refine Below.alloc ?_ (by first | (simp; done) | (simp; omega)) _) | (refine Below.setCell ?_ (by first | (simp; done) | (simp; omega)) _) | refine Below.drew ?_))⟩
      | true =>
        rw [addV_0 ra rb (by simpa [Int.sub_eq_add_neg] using rc)]
        unfold rv
        go_enter Try.func22, Try.ntmps22
        go_wp2_with (first | (go_at_call 11; refine (right_any _ _ _ _).mono ?_; rintro e w' ⟨rfl, rfl⟩))
        refine wp_loop_rounds 4 ?_
        repeat (any_goals (rw [rounds_succ]; go_wp2_with (first | (go_at_call 11; refine (right_any _ _ _ _).mono ?_; rintro e w' ⟨rfl, rfl⟩))))
        exact bodyPost_ret (v := .tuple #[.agg #[.int .i64 (a0 + b0), .int .i64 (a1 + b1), .int .i64 (a2 + b2)], .int .i64 0]) (by simp [results, Try.results22, go_sem]) rfl ⟨by simp [Int.sub_eq_add_neg], by (repeat (first | exact Below.refl _ _ | (refine Below.alloc ?_ (by first | (simp; done) | (simp; omega)) _) | (refine Below.setCell ?_ (by first | (simp; done) | (simp; omega)) _) | refine Below.drew ?_))⟩

set_option maxHeartbeats 1000000 in
theorem both_neg (a0 a1 a2 b0 b1 b2 : Int) (w : World) :
    Calls Try.prog 22 #[rv a0 a1 a2, rv b0 b1 b2, .int .i64 (-1)] w fun e w' => e = .returned (addV a0 a1 a2 b0 b1 b2 (-1)) ∧ Below w.heap.size w w' := by
  have i0 := ix0 b0 b1 b2
  have i1 := ix1 b0 b1 b2
  have i2 := ix2 b0 b1 b2
  cases ra : rightB a0 a1 a2 with
  | false =>
    rw [addV_1 (by simp [ra])]
    unfold rv
    go_enter Try.func22, Try.ntmps22
    go_wp2_with (first | (go_at_call 11; refine (right_any _ _ _ _).mono ?_; rintro e w' ⟨rfl, rfl⟩))
    exact bodyPost_ret (v := .tuple #[.agg #[.int .i64 0, .int .i64 0, .int .i64 0], .int .i64 1]) (by simp [results, Try.results22, go_sem]) rfl ⟨rfl, by (repeat (first | exact Below.refl _ _ | (refine Below.alloc ?_ (by first | (simp; done) | (simp; omega)) _) | (refine Below.setCell ?_ (by first | (simp; done) | (simp; omega)) _) | refine Below.drew ?_))⟩
  | true =>
    cases rb : rightB b0 b1 b2 with
    | false =>
      rw [addV_1 (by simp [rb])]
      unfold rv
      go_enter Try.func22, Try.ntmps22
      go_wp2_with (first | (go_at_call 11; refine (right_any _ _ _ _).mono ?_; rintro e w' ⟨rfl, rfl⟩))
      exact bodyPost_ret (v := .tuple #[.agg #[.int .i64 0, .int .i64 0, .int .i64 0], .int .i64 1]) (by simp [results, Try.results22, go_sem]) rfl ⟨rfl, by (repeat (first | exact Below.refl _ _ | (refine Below.alloc ?_ (by first | (simp; done) | (simp; omega)) _) | (refine Below.setCell ?_ (by first | (simp; done) | (simp; omega)) _) | refine Below.drew ?_))⟩
    | true =>
      obtain ⟨_, _, _, _, _, _⟩ := right_out ra
      obtain ⟨_, _, _, _, _, _⟩ := right_out rb
      cases rc : rightB (a0 + -b0) (a1 + -b1) (a2 + -b2) with
      | false =>
        rw [addV_6 ra rb (by simpa [Int.sub_eq_add_neg] using rc)]
        unfold rv
        go_enter Try.func22, Try.ntmps22
        go_wp2_with (first | (go_at_call 11; refine (right_any _ _ _ _).mono ?_; rintro e w' ⟨rfl, rfl⟩))
        refine wp_loop_rounds 4 ?_
        repeat (any_goals (rw [rounds_succ]; go_wp2_with (first | (go_at_call 11; refine (right_any _ _ _ _).mono ?_; rintro e w' ⟨rfl, rfl⟩))))
        exact bodyPost_ret (v := .tuple #[.agg #[.int .i64 0, .int .i64 0, .int .i64 0], .int .i64 6]) (by simp [results, Try.results22, go_sem]) rfl ⟨rfl, by (repeat (first | exact Below.refl _ _ | (refine Below.alloc ?_ (by first | (simp; done) | (simp; omega)) _) | (refine Below.setCell ?_ (by first | (simp; done) | (simp; omega)) _) | refine Below.drew ?_))⟩
      | true =>
        rw [addV_0 ra rb (by simpa [Int.sub_eq_add_neg] using rc)]
        unfold rv
        go_enter Try.func22, Try.ntmps22
        go_wp2_with (first | (go_at_call 11; refine (right_any _ _ _ _).mono ?_; rintro e w' ⟨rfl, rfl⟩))
        refine wp_loop_rounds 4 ?_
        repeat (any_goals (rw [rounds_succ]; go_wp2_with (first | (go_at_call 11; refine (right_any _ _ _ _).mono ?_; rintro e w' ⟨rfl, rfl⟩))))
        exact bodyPost_ret (v := .tuple #[.agg #[.int .i64 (a0 + -b0), .int .i64 (a1 + -b1), .int .i64 (a2 + -b2)], .int .i64 0]) (by simp [results, Try.results22, go_sem]) rfl ⟨by simp [Int.sub_eq_add_neg], by (repeat (first | exact Below.refl _ _ | (refine Below.alloc ?_ (by first | (simp; done) | (simp; omega)) _) | (refine Below.setCell ?_ (by first | (simp; done) | (simp; omega)) _) | refine Below.drew ?_))⟩

end Go.Proofs.Ytlbingogclfdbaa
