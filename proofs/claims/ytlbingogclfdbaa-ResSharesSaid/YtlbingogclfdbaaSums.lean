/- The sums of package res and of its reference, each by a contract. No conditions. -/
import Derived.Test.YtlbingogclfdbaaRes
namespace Go.Proofs.Ytlbingogclfdbaa
open Go.RowKit Go.Lw
attribute [local go_sem] lt_p2 le_p2 lt_p3 le_p3 lt_p4 le_p4 lt_p5 le_p5 lt_p6 le_p6 lt_p7 le_p7 lt_p8 le_p8 lt_p9 le_p9 lt_p10 le_p10 lt_p11 le_p11 lt_p12 le_p12 lt_p13 le_p13 lt_p14 le_p14 lt_p15 le_p15 lt_p16 le_p16 le_c0 le_c1 lt_c2 le_c2 lt_c3 le_c3 lt_c4 le_c4 lt_c5 le_c5 lt_c6 le_c6 lt_c7 le_c7 lt_c8 le_c8 lt_c9 le_c9 lt_c10 le_c10 lt_c11 le_c11 lt_c12 le_c12 lt_c13 le_c13 lt_c14 le_c14 lt_c15 le_c15 lt_c16 le_c16 cell_set
set_option linter.unusedVariables false
set_option linter.unusedSimpArgs false

set_option maxHeartbeats 1000000 in
theorem radd_any (a0 a1 a2 b0 b1 b2 : Int) (w : World) :
    Calls Try.prog 17 #[rv a0 a1 a2, rv b0 b1 b2] w fun e w' => e = .returned (addV a0 a1 a2 b0 b1 b2 (1)) ∧ Below w.heap.size w w' := by
  cases ra : rightB a0 a1 a2 with
  | false =>
    rw [addV_1 (by simp [ra])]
    unfold rv
    go_enter Try.func17, Try.ntmps17
    go_wp2_with (first | (go_at_call 19; refine (rright_any _ _ _ _).mono ?_; rintro e w' ⟨rfl, rfl⟩))
    exact bodyPost_ret (v := .tuple #[.agg #[.int .i64 0, .int .i64 0, .int .i64 0], .int .i64 1]) (by simp [results, Try.results17, go_sem]) rfl ⟨rfl, by (repeat (first | exact Below.refl _ _ | (refine Below.alloc ?_ (by first | (simp; done) | (simp; omega)) _) | (refine Below.setCell ?_ (by first | (simp; done) | (simp; omega)) _) | refine Below.drew ?_))⟩
  | true =>
    cases rb : rightB b0 b1 b2 with
    | false =>
      rw [addV_1 (by simp [rb])]
      unfold rv
      go_enter Try.func17, Try.ntmps17
      go_wp2_with (first | (go_at_call 19; refine (rright_any _ _ _ _).mono ?_; rintro e w' ⟨rfl, rfl⟩))
      exact bodyPost_ret (v := .tuple #[.agg #[.int .i64 0, .int .i64 0, .int .i64 0], .int .i64 1]) (by simp [results, Try.results17, go_sem]) rfl ⟨rfl, by (repeat (first | exact Below.refl _ _ | (refine Below.alloc ?_ (by first | (simp; done) | (simp; omega)) _) | (refine Below.setCell ?_ (by first | (simp; done) | (simp; omega)) _) | refine Below.drew ?_))⟩
    | true =>
      obtain ⟨_, _, _, _, _, _⟩ := right_out ra
      obtain ⟨_, _, _, _, _, _⟩ := right_out rb
      cases rc : rightB (a0 + b0) (a1 + b1) (a2 + b2) with
      | false =>
        rw [addV_6 ra rb (by simpa [Int.sub_eq_add_neg] using rc)]
        unfold rv
        go_enter Try.func17, Try.ntmps17
        go_wp2_with (first | (go_at_call 19; refine (rright_any _ _ _ _).mono ?_; rintro e w' ⟨rfl, rfl⟩))
        refine wp_loop_rounds 4 ?_
        repeat (any_goals (first | go_region | (rw [rounds_succ]; go_wp2_with (first | (go_at_call 19; refine (rright_any _ _ _ _).mono ?_; rintro e w' ⟨rfl, rfl⟩))) | (go_step; go_wp2_with (first | (go_at_call 19; refine (rright_any _ _ _ _).mono ?_; rintro e w' ⟨rfl, rfl⟩)))))
        exact bodyPost_ret (v := .tuple #[.agg #[.int .i64 0, .int .i64 0, .int .i64 0], .int .i64 6]) (by simp [results, Try.results17, go_sem]) rfl ⟨rfl, by (repeat (first | exact Below.refl _ _ | (refine Below.alloc ?_ (by first | (simp; done) | (simp; omega)) _) | (refine Below.setCell ?_ (by first | (simp; done) | (simp; omega)) _) | refine Below.drew ?_))⟩
      | true =>
        rw [addV_0 ra rb (by simpa [Int.sub_eq_add_neg] using rc)]
        unfold rv
        go_enter Try.func17, Try.ntmps17
        go_wp2_with (first | (go_at_call 19; refine (rright_any _ _ _ _).mono ?_; rintro e w' ⟨rfl, rfl⟩))
        refine wp_loop_rounds 4 ?_
        repeat (any_goals (first | go_region | (rw [rounds_succ]; go_wp2_with (first | (go_at_call 19; refine (rright_any _ _ _ _).mono ?_; rintro e w' ⟨rfl, rfl⟩))) | (go_step; go_wp2_with (first | (go_at_call 19; refine (rright_any _ _ _ _).mono ?_; rintro e w' ⟨rfl, rfl⟩)))))
        exact bodyPost_ret (v := .tuple #[.agg #[.int .i64 (a0 + b0), .int .i64 (a1 + b1), .int .i64 (a2 + b2)], .int .i64 0]) (by simp [results, Try.results17, go_sem]) rfl ⟨by simp [Int.sub_eq_add_neg], by (repeat (first | exact Below.refl _ _ | (refine Below.alloc ?_ (by first | (simp; done) | (simp; omega)) _) | (refine Below.setCell ?_ (by first | (simp; done) | (simp; omega)) _) | refine Below.drew ?_))⟩

set_option maxHeartbeats 1000000 in
theorem rsub_any (a0 a1 a2 b0 b1 b2 : Int) (w : World) :
    Calls Try.prog 18 #[rv a0 a1 a2, rv b0 b1 b2] w fun e w' => e = .returned (addV a0 a1 a2 b0 b1 b2 (-1)) ∧ Below w.heap.size w w' := by
  cases ra : rightB a0 a1 a2 with
  | false =>
    rw [addV_1 (by simp [ra])]
    unfold rv
    go_enter Try.func18, Try.ntmps18
    go_wp2_with (first | (go_at_call 19; refine (rright_any _ _ _ _).mono ?_; rintro e w' ⟨rfl, rfl⟩))
    exact bodyPost_ret (v := .tuple #[.agg #[.int .i64 0, .int .i64 0, .int .i64 0], .int .i64 1]) (by simp [results, Try.results18, go_sem]) rfl ⟨rfl, by (repeat (first | exact Below.refl _ _ | (refine Below.alloc ?_ (by first | (simp; done) | (simp; omega)) _) | (refine Below.setCell ?_ (by first | (simp; done) | (simp; omega)) _) | refine Below.drew ?_))⟩
  | true =>
    cases rb : rightB b0 b1 b2 with
    | false =>
      rw [addV_1 (by simp [rb])]
      unfold rv
      go_enter Try.func18, Try.ntmps18
      go_wp2_with (first | (go_at_call 19; refine (rright_any _ _ _ _).mono ?_; rintro e w' ⟨rfl, rfl⟩))
      exact bodyPost_ret (v := .tuple #[.agg #[.int .i64 0, .int .i64 0, .int .i64 0], .int .i64 1]) (by simp [results, Try.results18, go_sem]) rfl ⟨rfl, by (repeat (first | exact Below.refl _ _ | (refine Below.alloc ?_ (by first | (simp; done) | (simp; omega)) _) | (refine Below.setCell ?_ (by first | (simp; done) | (simp; omega)) _) | refine Below.drew ?_))⟩
    | true =>
      obtain ⟨_, _, _, _, _, _⟩ := right_out ra
      obtain ⟨_, _, _, _, _, _⟩ := right_out rb
      cases rc : rightB (a0 - b0) (a1 - b1) (a2 - b2) with
      | false =>
        rw [addV_6 ra rb (by simpa [Int.sub_eq_add_neg] using rc)]
        unfold rv
        go_enter Try.func18, Try.ntmps18
        go_wp2_with (first | (go_at_call 19; refine (rright_any _ _ _ _).mono ?_; rintro e w' ⟨rfl, rfl⟩))
        refine wp_loop_rounds 4 ?_
        repeat (any_goals (first | go_region | (rw [rounds_succ]; go_wp2_with (first | (go_at_call 19; refine (rright_any _ _ _ _).mono ?_; rintro e w' ⟨rfl, rfl⟩))) | (go_step; go_wp2_with (first | (go_at_call 19; refine (rright_any _ _ _ _).mono ?_; rintro e w' ⟨rfl, rfl⟩)))))
        exact bodyPost_ret (v := .tuple #[.agg #[.int .i64 0, .int .i64 0, .int .i64 0], .int .i64 6]) (by simp [results, Try.results18, go_sem]) rfl ⟨rfl, by (repeat (first | exact Below.refl _ _ | (refine Below.alloc ?_ (by first | (simp; done) | (simp; omega)) _) | (refine Below.setCell ?_ (by first | (simp; done) | (simp; omega)) _) | refine Below.drew ?_))⟩
      | true =>
        rw [addV_0 ra rb (by simpa [Int.sub_eq_add_neg] using rc)]
        unfold rv
        go_enter Try.func18, Try.ntmps18
        go_wp2_with (first | (go_at_call 19; refine (rright_any _ _ _ _).mono ?_; rintro e w' ⟨rfl, rfl⟩))
        refine wp_loop_rounds 4 ?_
        repeat (any_goals (first | go_region | (rw [rounds_succ]; go_wp2_with (first | (go_at_call 19; refine (rright_any _ _ _ _).mono ?_; rintro e w' ⟨rfl, rfl⟩))) | (go_step; go_wp2_with (first | (go_at_call 19; refine (rright_any _ _ _ _).mono ?_; rintro e w' ⟨rfl, rfl⟩)))))
        exact bodyPost_ret (v := .tuple #[.agg #[.int .i64 (a0 - b0), .int .i64 (a1 - b1), .int .i64 (a2 - b2)], .int .i64 0]) (by simp [results, Try.results18, go_sem]) rfl ⟨by simp [Int.sub_eq_add_neg], by (repeat (first | exact Below.refl _ _ | (refine Below.alloc ?_ (by first | (simp; done) | (simp; omega)) _) | (refine Below.setCell ?_ (by first | (simp; done) | (simp; omega)) _) | refine Below.drew ?_))⟩

set_option maxHeartbeats 400000 in
theorem add_any (a0 a1 a2 b0 b1 b2 : Int) (w : World) :
    Calls Try.prog 12 #[rv a0 a1 a2, rv b0 b1 b2] w fun e w' => e = .returned (addV a0 a1 a2 b0 b1 b2 (1)) ∧ Below w.heap.size w w' := by
  unfold rv addV
  go_enter Try.func12, Try.ntmps12
  go_wp2_with (first | (go_at_call 22; refine (both_pos _ _ _ _ _ _ _).mono ?_; unfold addV rv; rintro e w' ⟨rfl, hb⟩; have hz := hb.size; simp only [World.size_alloc, World.size_setCell, World.size_drew] at hz; have c0 : ∀ o, w'.cell? ⟨w.heap.size + 1 + 1, o, none⟩ = _ := fun o => hb.cell (p := ⟨w.heap.size + 1 + 1, o, none⟩) (by simp only [World.size_alloc, World.size_setCell, World.size_drew]; omega); have g0 : ∀ o, w'.frozen? ⟨w.heap.size + 1 + 1, o, none⟩ = _ := fun o => hb.frozen (p := ⟨w.heap.size + 1 + 1, o, none⟩) (by simp only [World.size_alloc, World.size_setCell, World.size_drew]; omega); have f0 : w.heap.size + 1 + 1 < w'.heap.size := by omega))
  exact bodyPost_ret (by simp [results, Try.results12, go_sem, c0, g0, f0]) rfl ⟨rfl, by (repeat (first | exact Below.refl _ _ | (refine Below.alloc ?_ (by first | (simp; done) | (simp; omega)) _) | (refine Below.setCell ?_ (by first | (simp; done) | (simp; omega)) _) | refine Below.drew ?_ | (refine Below.trans ?_ (Below.mono hb (by simp; omega)))))⟩

set_option maxHeartbeats 400000 in
theorem sub_any (a0 a1 a2 b0 b1 b2 : Int) (w : World) :
    Calls Try.prog 13 #[rv a0 a1 a2, rv b0 b1 b2] w fun e w' => e = .returned (addV a0 a1 a2 b0 b1 b2 (-1)) ∧ Below w.heap.size w w' := by
  unfold rv addV
  go_enter Try.func13, Try.ntmps13
  go_wp2_with (first | (go_at_call 22; refine (both_neg _ _ _ _ _ _ _).mono ?_; unfold addV rv; rintro e w' ⟨rfl, hb⟩; have hz := hb.size; simp only [World.size_alloc, World.size_setCell, World.size_drew] at hz; have c0 : ∀ o, w'.cell? ⟨w.heap.size + 1 + 1, o, none⟩ = _ := fun o => hb.cell (p := ⟨w.heap.size + 1 + 1, o, none⟩) (by simp only [World.size_alloc, World.size_setCell, World.size_drew]; omega); have g0 : ∀ o, w'.frozen? ⟨w.heap.size + 1 + 1, o, none⟩ = _ := fun o => hb.frozen (p := ⟨w.heap.size + 1 + 1, o, none⟩) (by simp only [World.size_alloc, World.size_setCell, World.size_drew]; omega); have f0 : w.heap.size + 1 + 1 < w'.heap.size := by omega))
  exact bodyPost_ret (by simp [results, Try.results13, go_sem, c0, g0, f0]) rfl ⟨rfl, by (repeat (first | exact Below.refl _ _ | (refine Below.alloc ?_ (by first | (simp; done) | (simp; omega)) _) | (refine Below.setCell ?_ (by first | (simp; done) | (simp; omega)) _) | refine Below.drew ?_ | (refine Below.trans ?_ (Below.mono hb (by simp; omega)))))⟩

end Go.Proofs.Ytlbingogclfdbaa
