/- ResBack, walked. No conditions. -/
import Derived.Test.YtlbingogclfdbaaK
namespace Go.Proofs.Ytlbingogclfdbaa
open Go.RowKit Go.Lw
attribute [local go_sem] lt_p2 le_p2 lt_p3 le_p3 lt_p4 le_p4 lt_p5 le_p5 lt_p6 le_p6 lt_p7 le_p7 lt_p8 le_p8 lt_p9 le_p9 lt_p10 le_p10 lt_p11 le_p11 lt_p12 le_p12 lt_p13 le_p13 lt_p14 le_p14 lt_p15 le_p15 lt_p16 le_p16 le_c0 le_c1 lt_c2 le_c2 lt_c3 le_c3 lt_c4 le_c4 lt_c5 le_c5 lt_c6 le_c6 lt_c7 le_c7 lt_c8 le_c8 lt_c9 le_c9 lt_c10 le_c10 lt_c11 le_c11 lt_c12 le_c12 lt_c13 le_c13 lt_c14 le_c14 lt_c15 le_c15 lt_c16 le_c16 cell_set uponV_value uponV_skip uponV_enter
set_option linter.unusedVariables false
set_option linter.unusedSimpArgs false

theorem rtuple {x y z e x' y' z' e' : Int} (hx : x = x') (hy : y = y') (hz : z = z') (he : e = e') : (Value.tuple #[rv x y z, .int .i64 e]) = .tuple #[rv x' y' z', .int .i64 e'] := by subst hx hy hz he; rfl
theorem right_mk {a b c : Int} (h : 0 ≤ a ∧ a ≤ 1048576 ∧ 0 ≤ b ∧ b ≤ 1048576 ∧ 0 ≤ c ∧ c ≤ 1048576) : rightB a b c = true := by unfold rightB; simpa using h

set_option maxHeartbeats 8000000 in
theorem resBack_bad (a0 a1 a2 b0 b1 b2 : Int) (w : World) (h : ¬ (rightB a0 a1 a2 = true ∧ rightB b0 b1 b2 = true)) :
    Calls Try.prog 4 #[rv a0 a1 a2, rv b0 b1 b2] w fun e w' => e = .returned (.bool true) ∧ Below w.heap.size w w' := by
  have h1 := addV_1 (s := 1) h
  have h2 := addV_1 (s := -1) h
  cases ra : rightB a0 a1 a2 with
  | false =>
    clear h
    go_enter Try.func4, Try.ntmps4
    go_wp2_with fail
    with_reducible refine awake_k (fun x1 hb1 => ?_)
    try dsimp only
    have hz1 := hb1.size; (try simp only [World.size_alloc, World.size_setCell, World.size_drew] at hz1)
    have c1_0 : ∀ o, x1.cell? ⟨w.heap.size, o, none⟩ = _ := fun o => hb1.cell (p := ⟨w.heap.size, o, none⟩) (by simp only [World.size_alloc, World.size_setCell, World.size_drew] <;> omega)
    have g1_0 : ∀ o, x1.frozen? ⟨w.heap.size, o, none⟩ = _ := fun o => hb1.frozen (p := ⟨w.heap.size, o, none⟩) (by simp only [World.size_alloc, World.size_setCell, World.size_drew] <;> omega)
    have f1_0 : w.heap.size < x1.heap.size := by omega
    have c1_1 : ∀ o, x1.cell? ⟨w.heap.size + 1, o, none⟩ = _ := fun o => hb1.cell (p := ⟨w.heap.size + 1, o, none⟩) (by simp only [World.size_alloc, World.size_setCell, World.size_drew] <;> omega)
    have g1_1 : ∀ o, x1.frozen? ⟨w.heap.size + 1, o, none⟩ = _ := fun o => hb1.frozen (p := ⟨w.heap.size + 1, o, none⟩) (by simp only [World.size_alloc, World.size_setCell, World.size_drew] <;> omega)
    have f1_1 : w.heap.size + 1 < x1.heap.size := by omega
    go_wp2_with fail
    with_reducible refine right_k (by assumption) (fun x2 hb2 => ?_)
    try dsimp only
    have hz2 := hb2.size; (try simp only [World.size_alloc, World.size_setCell, World.size_drew] at hz2)
    have c2_0 : ∀ o, x2.cell? ⟨w.heap.size, o, none⟩ = _ := fun o => hb2.cell (p := ⟨w.heap.size, o, none⟩) (by simp only [World.size_alloc, World.size_setCell, World.size_drew] <;> omega)
    have g2_0 : ∀ o, x2.frozen? ⟨w.heap.size, o, none⟩ = _ := fun o => hb2.frozen (p := ⟨w.heap.size, o, none⟩) (by simp only [World.size_alloc, World.size_setCell, World.size_drew] <;> omega)
    have f2_0 : w.heap.size < x2.heap.size := by omega
    have c2_1 : ∀ o, x2.cell? ⟨w.heap.size + 1, o, none⟩ = _ := fun o => hb2.cell (p := ⟨w.heap.size + 1, o, none⟩) (by simp only [World.size_alloc, World.size_setCell, World.size_drew] <;> omega)
    have g2_1 : ∀ o, x2.frozen? ⟨w.heap.size + 1, o, none⟩ = _ := fun o => hb2.frozen (p := ⟨w.heap.size + 1, o, none⟩) (by simp only [World.size_alloc, World.size_setCell, World.size_drew] <;> omega)
    have f2_1 : w.heap.size + 1 < x2.heap.size := by omega
    go_wp2_with fail
    with_reducible refine add_k (by assumption) (fun x3 hb3 => ?_)
    try dsimp only
    have hz3 := hb3.size; (try simp only [World.size_alloc, World.size_setCell, World.size_drew] at hz3)
    have c3_0 : ∀ o, x3.cell? ⟨w.heap.size, o, none⟩ = _ := fun o => hb3.cell (p := ⟨w.heap.size, o, none⟩) (by simp only [World.size_alloc, World.size_setCell, World.size_drew] <;> omega)
    have g3_0 : ∀ o, x3.frozen? ⟨w.heap.size, o, none⟩ = _ := fun o => hb3.frozen (p := ⟨w.heap.size, o, none⟩) (by simp only [World.size_alloc, World.size_setCell, World.size_drew] <;> omega)
    have f3_0 : w.heap.size < x3.heap.size := by omega
    have c3_1 : ∀ o, x3.cell? ⟨w.heap.size + 1, o, none⟩ = _ := fun o => hb3.cell (p := ⟨w.heap.size + 1, o, none⟩) (by simp only [World.size_alloc, World.size_setCell, World.size_drew] <;> omega)
    have g3_1 : ∀ o, x3.frozen? ⟨w.heap.size + 1, o, none⟩ = _ := fun o => hb3.frozen (p := ⟨w.heap.size + 1, o, none⟩) (by simp only [World.size_alloc, World.size_setCell, World.size_drew] <;> omega)
    have f3_1 : w.heap.size + 1 < x3.heap.size := by omega
    go_wp2_with fail
    with_reducible refine sub_k (by assumption) (fun x4 hb4 => ?_)
    try dsimp only
    have hz4 := hb4.size; (try simp only [World.size_alloc, World.size_setCell, World.size_drew] at hz4)
    have c4_0 : ∀ o, x4.cell? ⟨w.heap.size, o, none⟩ = _ := fun o => hb4.cell (p := ⟨w.heap.size, o, none⟩) (by simp only [World.size_alloc, World.size_setCell, World.size_drew] <;> omega)
    have g4_0 : ∀ o, x4.frozen? ⟨w.heap.size, o, none⟩ = _ := fun o => hb4.frozen (p := ⟨w.heap.size, o, none⟩) (by simp only [World.size_alloc, World.size_setCell, World.size_drew] <;> omega)
    have f4_0 : w.heap.size < x4.heap.size := by omega
    have c4_1 : ∀ o, x4.cell? ⟨w.heap.size + 1, o, none⟩ = _ := fun o => hb4.cell (p := ⟨w.heap.size + 1, o, none⟩) (by simp only [World.size_alloc, World.size_setCell, World.size_drew] <;> omega)
    have g4_1 : ∀ o, x4.frozen? ⟨w.heap.size + 1, o, none⟩ = _ := fun o => hb4.frozen (p := ⟨w.heap.size + 1, o, none⟩) (by simp only [World.size_alloc, World.size_setCell, World.size_drew] <;> omega)
    have f4_1 : w.heap.size + 1 < x4.heap.size := by omega
    have c4_2 : ∀ o, x4.cell? ⟨x3.heap.size, o, none⟩ = _ := fun o => hb4.cell (p := ⟨x3.heap.size, o, none⟩) (by simp only [World.size_alloc, World.size_setCell, World.size_drew] <;> omega)
    have g4_2 : ∀ o, x4.frozen? ⟨x3.heap.size, o, none⟩ = _ := fun o => hb4.frozen (p := ⟨x3.heap.size, o, none⟩) (by simp only [World.size_alloc, World.size_setCell, World.size_drew] <;> omega)
    have f4_2 : x3.heap.size < x4.heap.size := by omega
    go_wp2
    go_ret
    exact ⟨rfl, by (repeat (first | with_reducible exact Below.refl _ _ | with_reducible assumption | with_reducible refine Below.drew ?_ | with_reducible refine bl_drewN ?_ | (with_reducible refine bl_alloc ?_ ?_; · (first | omega | (simp; done) | (simp; omega))) | (with_reducible refine bl_set ?_ ?_; · (first | omega | (simp; done) | (simp; omega))) | (with_reducible refine bl_trans hb4 ?_ ?_; · (first | omega | (simp; done) | (simp; omega))) | (with_reducible refine bl_trans hb3 ?_ ?_; · (first | omega | (simp; done) | (simp; omega))) | (with_reducible refine bl_trans hb2 ?_ ?_; · (first | omega | (simp; done) | (simp; omega))) | (with_reducible refine bl_trans hb1 ?_ ?_; · (first | omega | (simp; done) | (simp; omega)))))⟩
  | true =>
    have rb : rightB b0 b1 b2 = false := by cases q : rightB b0 b1 b2 with
      | false => rfl
      | true => exact (h ⟨ra, q⟩).elim
    clear h
    go_enter Try.func4, Try.ntmps4
    go_wp2_with fail
    with_reducible refine awake_k (fun x1 hb1 => ?_)
    try dsimp only
    have hz1 := hb1.size; (try simp only [World.size_alloc, World.size_setCell, World.size_drew] at hz1)
    have c1_0 : ∀ o, x1.cell? ⟨w.heap.size, o, none⟩ = _ := fun o => hb1.cell (p := ⟨w.heap.size, o, none⟩) (by simp only [World.size_alloc, World.size_setCell, World.size_drew] <;> omega)
    have g1_0 : ∀ o, x1.frozen? ⟨w.heap.size, o, none⟩ = _ := fun o => hb1.frozen (p := ⟨w.heap.size, o, none⟩) (by simp only [World.size_alloc, World.size_setCell, World.size_drew] <;> omega)
    have f1_0 : w.heap.size < x1.heap.size := by omega
    have c1_1 : ∀ o, x1.cell? ⟨w.heap.size + 1, o, none⟩ = _ := fun o => hb1.cell (p := ⟨w.heap.size + 1, o, none⟩) (by simp only [World.size_alloc, World.size_setCell, World.size_drew] <;> omega)
    have g1_1 : ∀ o, x1.frozen? ⟨w.heap.size + 1, o, none⟩ = _ := fun o => hb1.frozen (p := ⟨w.heap.size + 1, o, none⟩) (by simp only [World.size_alloc, World.size_setCell, World.size_drew] <;> omega)
    have f1_1 : w.heap.size + 1 < x1.heap.size := by omega
    go_wp2_with fail
    with_reducible refine right_k (by assumption) (fun x2 hb2 => ?_)
    try dsimp only
    have hz2 := hb2.size; (try simp only [World.size_alloc, World.size_setCell, World.size_drew] at hz2)
    have c2_0 : ∀ o, x2.cell? ⟨w.heap.size, o, none⟩ = _ := fun o => hb2.cell (p := ⟨w.heap.size, o, none⟩) (by simp only [World.size_alloc, World.size_setCell, World.size_drew] <;> omega)
    have g2_0 : ∀ o, x2.frozen? ⟨w.heap.size, o, none⟩ = _ := fun o => hb2.frozen (p := ⟨w.heap.size, o, none⟩) (by simp only [World.size_alloc, World.size_setCell, World.size_drew] <;> omega)
    have f2_0 : w.heap.size < x2.heap.size := by omega
    have c2_1 : ∀ o, x2.cell? ⟨w.heap.size + 1, o, none⟩ = _ := fun o => hb2.cell (p := ⟨w.heap.size + 1, o, none⟩) (by simp only [World.size_alloc, World.size_setCell, World.size_drew] <;> omega)
    have g2_1 : ∀ o, x2.frozen? ⟨w.heap.size + 1, o, none⟩ = _ := fun o => hb2.frozen (p := ⟨w.heap.size + 1, o, none⟩) (by simp only [World.size_alloc, World.size_setCell, World.size_drew] <;> omega)
    have f2_1 : w.heap.size + 1 < x2.heap.size := by omega
    go_wp2_with fail
    with_reducible refine right_k (by assumption) (fun x3 hb3 => ?_)
    try dsimp only
    have hz3 := hb3.size; (try simp only [World.size_alloc, World.size_setCell, World.size_drew] at hz3)
    have c3_0 : ∀ o, x3.cell? ⟨w.heap.size, o, none⟩ = _ := fun o => hb3.cell (p := ⟨w.heap.size, o, none⟩) (by simp only [World.size_alloc, World.size_setCell, World.size_drew] <;> omega)
    have g3_0 : ∀ o, x3.frozen? ⟨w.heap.size, o, none⟩ = _ := fun o => hb3.frozen (p := ⟨w.heap.size, o, none⟩) (by simp only [World.size_alloc, World.size_setCell, World.size_drew] <;> omega)
    have f3_0 : w.heap.size < x3.heap.size := by omega
    have c3_1 : ∀ o, x3.cell? ⟨w.heap.size + 1, o, none⟩ = _ := fun o => hb3.cell (p := ⟨w.heap.size + 1, o, none⟩) (by simp only [World.size_alloc, World.size_setCell, World.size_drew] <;> omega)
    have g3_1 : ∀ o, x3.frozen? ⟨w.heap.size + 1, o, none⟩ = _ := fun o => hb3.frozen (p := ⟨w.heap.size + 1, o, none⟩) (by simp only [World.size_alloc, World.size_setCell, World.size_drew] <;> omega)
    have f3_1 : w.heap.size + 1 < x3.heap.size := by omega
    go_wp2_with fail
    with_reducible refine add_k (by assumption) (fun x4 hb4 => ?_)
    try dsimp only
    have hz4 := hb4.size; (try simp only [World.size_alloc, World.size_setCell, World.size_drew] at hz4)
    have c4_0 : ∀ o, x4.cell? ⟨w.heap.size, o, none⟩ = _ := fun o => hb4.cell (p := ⟨w.heap.size, o, none⟩) (by simp only [World.size_alloc, World.size_setCell, World.size_drew] <;> omega)
    have g4_0 : ∀ o, x4.frozen? ⟨w.heap.size, o, none⟩ = _ := fun o => hb4.frozen (p := ⟨w.heap.size, o, none⟩) (by simp only [World.size_alloc, World.size_setCell, World.size_drew] <;> omega)
    have f4_0 : w.heap.size < x4.heap.size := by omega
    have c4_1 : ∀ o, x4.cell? ⟨w.heap.size + 1, o, none⟩ = _ := fun o => hb4.cell (p := ⟨w.heap.size + 1, o, none⟩) (by simp only [World.size_alloc, World.size_setCell, World.size_drew] <;> omega)
    have g4_1 : ∀ o, x4.frozen? ⟨w.heap.size + 1, o, none⟩ = _ := fun o => hb4.frozen (p := ⟨w.heap.size + 1, o, none⟩) (by simp only [World.size_alloc, World.size_setCell, World.size_drew] <;> omega)
    have f4_1 : w.heap.size + 1 < x4.heap.size := by omega
    go_wp2_with fail
    with_reducible refine sub_k (by assumption) (fun x5 hb5 => ?_)
    try dsimp only
    have hz5 := hb5.size; (try simp only [World.size_alloc, World.size_setCell, World.size_drew] at hz5)
    have c5_0 : ∀ o, x5.cell? ⟨w.heap.size, o, none⟩ = _ := fun o => hb5.cell (p := ⟨w.heap.size, o, none⟩) (by simp only [World.size_alloc, World.size_setCell, World.size_drew] <;> omega)
    have g5_0 : ∀ o, x5.frozen? ⟨w.heap.size, o, none⟩ = _ := fun o => hb5.frozen (p := ⟨w.heap.size, o, none⟩) (by simp only [World.size_alloc, World.size_setCell, World.size_drew] <;> omega)
    have f5_0 : w.heap.size < x5.heap.size := by omega
    have c5_1 : ∀ o, x5.cell? ⟨w.heap.size + 1, o, none⟩ = _ := fun o => hb5.cell (p := ⟨w.heap.size + 1, o, none⟩) (by simp only [World.size_alloc, World.size_setCell, World.size_drew] <;> omega)
    have g5_1 : ∀ o, x5.frozen? ⟨w.heap.size + 1, o, none⟩ = _ := fun o => hb5.frozen (p := ⟨w.heap.size + 1, o, none⟩) (by simp only [World.size_alloc, World.size_setCell, World.size_drew] <;> omega)
    have f5_1 : w.heap.size + 1 < x5.heap.size := by omega
    have c5_2 : ∀ o, x5.cell? ⟨x4.heap.size, o, none⟩ = _ := fun o => hb5.cell (p := ⟨x4.heap.size, o, none⟩) (by simp only [World.size_alloc, World.size_setCell, World.size_drew] <;> omega)
    have g5_2 : ∀ o, x5.frozen? ⟨x4.heap.size, o, none⟩ = _ := fun o => hb5.frozen (p := ⟨x4.heap.size, o, none⟩) (by simp only [World.size_alloc, World.size_setCell, World.size_drew] <;> omega)
    have f5_2 : x4.heap.size < x5.heap.size := by omega
    go_wp2
    go_ret
    exact ⟨rfl, by (repeat (first | with_reducible exact Below.refl _ _ | with_reducible assumption | with_reducible refine Below.drew ?_ | with_reducible refine bl_drewN ?_ | (with_reducible refine bl_alloc ?_ ?_; · (first | omega | (simp; done) | (simp; omega))) | (with_reducible refine bl_set ?_ ?_; · (first | omega | (simp; done) | (simp; omega))) | (with_reducible refine bl_trans hb5 ?_ ?_; · (first | omega | (simp; done) | (simp; omega))) | (with_reducible refine bl_trans hb4 ?_ ?_; · (first | omega | (simp; done) | (simp; omega))) | (with_reducible refine bl_trans hb3 ?_ ?_; · (first | omega | (simp; done) | (simp; omega))) | (with_reducible refine bl_trans hb2 ?_ ?_; · (first | omega | (simp; done) | (simp; omega))) | (with_reducible refine bl_trans hb1 ?_ ?_; · (first | omega | (simp; done) | (simp; omega)))))⟩

set_option maxHeartbeats 8000000 in
theorem resBack_00 (a0 a1 a2 b0 b1 b2 : Int) (w : World) (ra : rightB a0 a1 a2 = true) (rb : rightB b0 b1 b2 = true) (hp : rightB (a0 + 1 * b0) (a1 + 1 * b1) (a2 + 1 * b2) = true) (hm : rightB (a0 + -1 * b0) (a1 + -1 * b1) (a2 + -1 * b2) = true) :
    Calls Try.prog 4 #[rv a0 a1 a2, rv b0 b1 b2] w fun e w' => e = .returned (.bool true) ∧ Below w.heap.size w w' := by
  obtain ⟨_, _, _, _, _, _⟩ := right_out ra
  obtain ⟨_, _, _, _, _, _⟩ := right_out rb
  have h1 : addV a0 a1 a2 b0 b1 b2 1 = .tuple #[rv (a0 + b0) (a1 + b1) (a2 + b2), .int .i64 0] := (addV_0 ra rb hp).trans (rtuple (by omega) (by omega) (by omega) rfl)
  have hp' : rightB (a0 + b0) (a1 + b1) (a2 + b2) = true := by simpa using hp
  have h2 : addV (a0 + b0) (a1 + b1) (a2 + b2) b0 b1 b2 (-1) = .tuple #[rv a0 a1 a2, .int .i64 0] := (addV_0 hp' rb (right_mk (by omega))).trans (rtuple (by omega) (by omega) (by omega) rfl)
  have f1 : fitsB a0 a1 a2 (a0 + b0) (a1 + b1) (a2 + b2) = true := by unfold fitsB; rw [decide_eq_true_eq]; omega
  have f2 : fitsB b0 b1 b2 (a0 + b0) (a1 + b1) (a2 + b2) = true := by unfold fitsB; rw [decide_eq_true_eq]; omega
  have h3 : addV a0 a1 a2 b0 b1 b2 (-1) = .tuple #[rv (a0 - b0) (a1 - b1) (a2 - b2), .int .i64 0] := (addV_0 ra rb hm).trans (rtuple (by omega) (by omega) (by omega) rfl)
  have hm' : rightB (a0 - b0) (a1 - b1) (a2 - b2) = true := right_mk (by obtain ⟨_, _, _, _, _, _⟩ := right_out hm; omega)
  have h4 : addV (a0 - b0) (a1 - b1) (a2 - b2) b0 b1 b2 1 = .tuple #[rv a0 a1 a2, .int .i64 0] := (addV_0 hm' rb (right_mk (by omega))).trans (rtuple (by omega) (by omega) (by omega) rfl)
  have f3 : fitsB b0 b1 b2 a0 a1 a2 = true := by obtain ⟨_, _, _, _, _, _⟩ := right_out hm; unfold fitsB; rw [decide_eq_true_eq]; omega
  have e1 := eq3 a0 a1 a2 a0 a1 a2
  simp only [beq_self_eq_true, Bool.and_self] at e1
  clear hp hm
  go_enter Try.func4, Try.ntmps4
  go_wp2_with fail
  with_reducible refine awake_k (fun x1 hb1 => ?_)
  try dsimp only
  have hz1 := hb1.size; (try simp only [World.size_alloc, World.size_setCell, World.size_drew] at hz1)
  have c1_0 : ∀ o, x1.cell? ⟨w.heap.size, o, none⟩ = _ := fun o => hb1.cell (p := ⟨w.heap.size, o, none⟩) (by simp only [World.size_alloc, World.size_setCell, World.size_drew] <;> omega)
  have g1_0 : ∀ o, x1.frozen? ⟨w.heap.size, o, none⟩ = _ := fun o => hb1.frozen (p := ⟨w.heap.size, o, none⟩) (by simp only [World.size_alloc, World.size_setCell, World.size_drew] <;> omega)
  have f1_0 : w.heap.size < x1.heap.size := by omega
  have c1_1 : ∀ o, x1.cell? ⟨w.heap.size + 1, o, none⟩ = _ := fun o => hb1.cell (p := ⟨w.heap.size + 1, o, none⟩) (by simp only [World.size_alloc, World.size_setCell, World.size_drew] <;> omega)
  have g1_1 : ∀ o, x1.frozen? ⟨w.heap.size + 1, o, none⟩ = _ := fun o => hb1.frozen (p := ⟨w.heap.size + 1, o, none⟩) (by simp only [World.size_alloc, World.size_setCell, World.size_drew] <;> omega)
  have f1_1 : w.heap.size + 1 < x1.heap.size := by omega
  go_wp2_with fail
  with_reducible refine right_k (by assumption) (fun x2 hb2 => ?_)
  try dsimp only
  have hz2 := hb2.size; (try simp only [World.size_alloc, World.size_setCell, World.size_drew] at hz2)
  have c2_0 : ∀ o, x2.cell? ⟨w.heap.size, o, none⟩ = _ := fun o => hb2.cell (p := ⟨w.heap.size, o, none⟩) (by simp only [World.size_alloc, World.size_setCell, World.size_drew] <;> omega)
  have g2_0 : ∀ o, x2.frozen? ⟨w.heap.size, o, none⟩ = _ := fun o => hb2.frozen (p := ⟨w.heap.size, o, none⟩) (by simp only [World.size_alloc, World.size_setCell, World.size_drew] <;> omega)
  have f2_0 : w.heap.size < x2.heap.size := by omega
  have c2_1 : ∀ o, x2.cell? ⟨w.heap.size + 1, o, none⟩ = _ := fun o => hb2.cell (p := ⟨w.heap.size + 1, o, none⟩) (by simp only [World.size_alloc, World.size_setCell, World.size_drew] <;> omega)
  have g2_1 : ∀ o, x2.frozen? ⟨w.heap.size + 1, o, none⟩ = _ := fun o => hb2.frozen (p := ⟨w.heap.size + 1, o, none⟩) (by simp only [World.size_alloc, World.size_setCell, World.size_drew] <;> omega)
  have f2_1 : w.heap.size + 1 < x2.heap.size := by omega
  go_wp2_with fail
  with_reducible refine right_k (by assumption) (fun x3 hb3 => ?_)
  try dsimp only
  have hz3 := hb3.size; (try simp only [World.size_alloc, World.size_setCell, World.size_drew] at hz3)
  have c3_0 : ∀ o, x3.cell? ⟨w.heap.size, o, none⟩ = _ := fun o => hb3.cell (p := ⟨w.heap.size, o, none⟩) (by simp only [World.size_alloc, World.size_setCell, World.size_drew] <;> omega)
  have g3_0 : ∀ o, x3.frozen? ⟨w.heap.size, o, none⟩ = _ := fun o => hb3.frozen (p := ⟨w.heap.size, o, none⟩) (by simp only [World.size_alloc, World.size_setCell, World.size_drew] <;> omega)
  have f3_0 : w.heap.size < x3.heap.size := by omega
  have c3_1 : ∀ o, x3.cell? ⟨w.heap.size + 1, o, none⟩ = _ := fun o => hb3.cell (p := ⟨w.heap.size + 1, o, none⟩) (by simp only [World.size_alloc, World.size_setCell, World.size_drew] <;> omega)
  have g3_1 : ∀ o, x3.frozen? ⟨w.heap.size + 1, o, none⟩ = _ := fun o => hb3.frozen (p := ⟨w.heap.size + 1, o, none⟩) (by simp only [World.size_alloc, World.size_setCell, World.size_drew] <;> omega)
  have f3_1 : w.heap.size + 1 < x3.heap.size := by omega
  go_wp2_with fail
  with_reducible refine add_k (by assumption) (fun x4 hb4 => ?_)
  try dsimp only
  have hz4 := hb4.size; (try simp only [World.size_alloc, World.size_setCell, World.size_drew] at hz4)
  have c4_0 : ∀ o, x4.cell? ⟨w.heap.size, o, none⟩ = _ := fun o => hb4.cell (p := ⟨w.heap.size, o, none⟩) (by simp only [World.size_alloc, World.size_setCell, World.size_drew] <;> omega)
  have g4_0 : ∀ o, x4.frozen? ⟨w.heap.size, o, none⟩ = _ := fun o => hb4.frozen (p := ⟨w.heap.size, o, none⟩) (by simp only [World.size_alloc, World.size_setCell, World.size_drew] <;> omega)
  have f4_0 : w.heap.size < x4.heap.size := by omega
  have c4_1 : ∀ o, x4.cell? ⟨w.heap.size + 1, o, none⟩ = _ := fun o => hb4.cell (p := ⟨w.heap.size + 1, o, none⟩) (by simp only [World.size_alloc, World.size_setCell, World.size_drew] <;> omega)
  have g4_1 : ∀ o, x4.frozen? ⟨w.heap.size + 1, o, none⟩ = _ := fun o => hb4.frozen (p := ⟨w.heap.size + 1, o, none⟩) (by simp only [World.size_alloc, World.size_setCell, World.size_drew] <;> omega)
  have f4_1 : w.heap.size + 1 < x4.heap.size := by omega
  go_wp2_with fail
  with_reducible refine sub_k (by assumption) (fun x5 hb5 => ?_)
  try dsimp only
  have hz5 := hb5.size; (try simp only [World.size_alloc, World.size_setCell, World.size_drew] at hz5)
  have c5_0 : ∀ o, x5.cell? ⟨w.heap.size, o, none⟩ = _ := fun o => hb5.cell (p := ⟨w.heap.size, o, none⟩) (by simp only [World.size_alloc, World.size_setCell, World.size_drew] <;> omega)
  have g5_0 : ∀ o, x5.frozen? ⟨w.heap.size, o, none⟩ = _ := fun o => hb5.frozen (p := ⟨w.heap.size, o, none⟩) (by simp only [World.size_alloc, World.size_setCell, World.size_drew] <;> omega)
  have f5_0 : w.heap.size < x5.heap.size := by omega
  have c5_1 : ∀ o, x5.cell? ⟨w.heap.size + 1, o, none⟩ = _ := fun o => hb5.cell (p := ⟨w.heap.size + 1, o, none⟩) (by simp only [World.size_alloc, World.size_setCell, World.size_drew] <;> omega)
  have g5_1 : ∀ o, x5.frozen? ⟨w.heap.size + 1, o, none⟩ = _ := fun o => hb5.frozen (p := ⟨w.heap.size + 1, o, none⟩) (by simp only [World.size_alloc, World.size_setCell, World.size_drew] <;> omega)
  have f5_1 : w.heap.size + 1 < x5.heap.size := by omega
  have c5_2 : ∀ o, x5.cell? ⟨x4.heap.size, o, none⟩ = _ := fun o => hb5.cell (p := ⟨x4.heap.size, o, none⟩) (by simp only [World.size_alloc, World.size_setCell, World.size_drew] <;> omega)
  have g5_2 : ∀ o, x5.frozen? ⟨x4.heap.size, o, none⟩ = _ := fun o => hb5.frozen (p := ⟨x4.heap.size, o, none⟩) (by simp only [World.size_alloc, World.size_setCell, World.size_drew] <;> omega)
  have f5_2 : x4.heap.size < x5.heap.size := by omega
  go_wp2_with fail
  with_reducible refine fits_k (by assumption) (fun x6 hb6 => ?_)
  try dsimp only
  have hz6 := hb6.size; (try simp only [World.size_alloc, World.size_setCell, World.size_drew] at hz6)
  have c6_0 : ∀ o, x6.cell? ⟨w.heap.size, o, none⟩ = _ := fun o => hb6.cell (p := ⟨w.heap.size, o, none⟩) (by simp only [World.size_alloc, World.size_setCell, World.size_drew] <;> omega)
  have g6_0 : ∀ o, x6.frozen? ⟨w.heap.size, o, none⟩ = _ := fun o => hb6.frozen (p := ⟨w.heap.size, o, none⟩) (by simp only [World.size_alloc, World.size_setCell, World.size_drew] <;> omega)
  have f6_0 : w.heap.size < x6.heap.size := by omega
  have c6_1 : ∀ o, x6.cell? ⟨w.heap.size + 1, o, none⟩ = _ := fun o => hb6.cell (p := ⟨w.heap.size + 1, o, none⟩) (by simp only [World.size_alloc, World.size_setCell, World.size_drew] <;> omega)
  have g6_1 : ∀ o, x6.frozen? ⟨w.heap.size + 1, o, none⟩ = _ := fun o => hb6.frozen (p := ⟨w.heap.size + 1, o, none⟩) (by simp only [World.size_alloc, World.size_setCell, World.size_drew] <;> omega)
  have f6_1 : w.heap.size + 1 < x6.heap.size := by omega
  have c6_2 : ∀ o, x6.cell? ⟨x4.heap.size, o, none⟩ = _ := fun o => hb6.cell (p := ⟨x4.heap.size, o, none⟩) (by simp only [World.size_alloc, World.size_setCell, World.size_drew] <;> omega)
  have g6_2 : ∀ o, x6.frozen? ⟨x4.heap.size, o, none⟩ = _ := fun o => hb6.frozen (p := ⟨x4.heap.size, o, none⟩) (by simp only [World.size_alloc, World.size_setCell, World.size_drew] <;> omega)
  have f6_2 : x4.heap.size < x6.heap.size := by omega
  have c6_3 : ∀ o, x6.cell? ⟨x5.heap.size, o, none⟩ = _ := fun o => hb6.cell (p := ⟨x5.heap.size, o, none⟩) (by simp only [World.size_alloc, World.size_setCell, World.size_drew] <;> omega)
  have g6_3 : ∀ o, x6.frozen? ⟨x5.heap.size, o, none⟩ = _ := fun o => hb6.frozen (p := ⟨x5.heap.size, o, none⟩) (by simp only [World.size_alloc, World.size_setCell, World.size_drew] <;> omega)
  have f6_3 : x5.heap.size < x6.heap.size := by omega
  go_wp2_with fail
  with_reducible refine fits_k (by assumption) (fun x7 hb7 => ?_)
  try dsimp only
  have hz7 := hb7.size; (try simp only [World.size_alloc, World.size_setCell, World.size_drew] at hz7)
  have c7_0 : ∀ o, x7.cell? ⟨w.heap.size, o, none⟩ = _ := fun o => hb7.cell (p := ⟨w.heap.size, o, none⟩) (by simp only [World.size_alloc, World.size_setCell, World.size_drew] <;> omega)
  have g7_0 : ∀ o, x7.frozen? ⟨w.heap.size, o, none⟩ = _ := fun o => hb7.frozen (p := ⟨w.heap.size, o, none⟩) (by simp only [World.size_alloc, World.size_setCell, World.size_drew] <;> omega)
  have f7_0 : w.heap.size < x7.heap.size := by omega
  have c7_1 : ∀ o, x7.cell? ⟨w.heap.size + 1, o, none⟩ = _ := fun o => hb7.cell (p := ⟨w.heap.size + 1, o, none⟩) (by simp only [World.size_alloc, World.size_setCell, World.size_drew] <;> omega)
  have g7_1 : ∀ o, x7.frozen? ⟨w.heap.size + 1, o, none⟩ = _ := fun o => hb7.frozen (p := ⟨w.heap.size + 1, o, none⟩) (by simp only [World.size_alloc, World.size_setCell, World.size_drew] <;> omega)
  have f7_1 : w.heap.size + 1 < x7.heap.size := by omega
  have c7_2 : ∀ o, x7.cell? ⟨x4.heap.size, o, none⟩ = _ := fun o => hb7.cell (p := ⟨x4.heap.size, o, none⟩) (by simp only [World.size_alloc, World.size_setCell, World.size_drew] <;> omega)
  have g7_2 : ∀ o, x7.frozen? ⟨x4.heap.size, o, none⟩ = _ := fun o => hb7.frozen (p := ⟨x4.heap.size, o, none⟩) (by simp only [World.size_alloc, World.size_setCell, World.size_drew] <;> omega)
  have f7_2 : x4.heap.size < x7.heap.size := by omega
  have c7_3 : ∀ o, x7.cell? ⟨x5.heap.size, o, none⟩ = _ := fun o => hb7.cell (p := ⟨x5.heap.size, o, none⟩) (by simp only [World.size_alloc, World.size_setCell, World.size_drew] <;> omega)
  have g7_3 : ∀ o, x7.frozen? ⟨x5.heap.size, o, none⟩ = _ := fun o => hb7.frozen (p := ⟨x5.heap.size, o, none⟩) (by simp only [World.size_alloc, World.size_setCell, World.size_drew] <;> omega)
  have f7_3 : x5.heap.size < x7.heap.size := by omega
  go_wp2_with fail
  with_reducible refine sub_k (by assumption) (fun x8 hb8 => ?_)
  try dsimp only
  have hz8 := hb8.size; (try simp only [World.size_alloc, World.size_setCell, World.size_drew] at hz8)
  have c8_0 : ∀ o, x8.cell? ⟨w.heap.size, o, none⟩ = _ := fun o => hb8.cell (p := ⟨w.heap.size, o, none⟩) (by simp only [World.size_alloc, World.size_setCell, World.size_drew] <;> omega)
  have g8_0 : ∀ o, x8.frozen? ⟨w.heap.size, o, none⟩ = _ := fun o => hb8.frozen (p := ⟨w.heap.size, o, none⟩) (by simp only [World.size_alloc, World.size_setCell, World.size_drew] <;> omega)
  have f8_0 : w.heap.size < x8.heap.size := by omega
  have c8_1 : ∀ o, x8.cell? ⟨w.heap.size + 1, o, none⟩ = _ := fun o => hb8.cell (p := ⟨w.heap.size + 1, o, none⟩) (by simp only [World.size_alloc, World.size_setCell, World.size_drew] <;> omega)
  have g8_1 : ∀ o, x8.frozen? ⟨w.heap.size + 1, o, none⟩ = _ := fun o => hb8.frozen (p := ⟨w.heap.size + 1, o, none⟩) (by simp only [World.size_alloc, World.size_setCell, World.size_drew] <;> omega)
  have f8_1 : w.heap.size + 1 < x8.heap.size := by omega
  have c8_2 : ∀ o, x8.cell? ⟨x4.heap.size, o, none⟩ = _ := fun o => hb8.cell (p := ⟨x4.heap.size, o, none⟩) (by simp only [World.size_alloc, World.size_setCell, World.size_drew] <;> omega)
  have g8_2 : ∀ o, x8.frozen? ⟨x4.heap.size, o, none⟩ = _ := fun o => hb8.frozen (p := ⟨x4.heap.size, o, none⟩) (by simp only [World.size_alloc, World.size_setCell, World.size_drew] <;> omega)
  have f8_2 : x4.heap.size < x8.heap.size := by omega
  have c8_3 : ∀ o, x8.cell? ⟨x5.heap.size, o, none⟩ = _ := fun o => hb8.cell (p := ⟨x5.heap.size, o, none⟩) (by simp only [World.size_alloc, World.size_setCell, World.size_drew] <;> omega)
  have g8_3 : ∀ o, x8.frozen? ⟨x5.heap.size, o, none⟩ = _ := fun o => hb8.frozen (p := ⟨x5.heap.size, o, none⟩) (by simp only [World.size_alloc, World.size_setCell, World.size_drew] <;> omega)
  have f8_3 : x5.heap.size < x8.heap.size := by omega
  go_wp2_with fail
  with_reducible refine fits_k (by assumption) (fun x9 hb9 => ?_)
  try dsimp only
  have hz9 := hb9.size; (try simp only [World.size_alloc, World.size_setCell, World.size_drew] at hz9)
  have c9_0 : ∀ o, x9.cell? ⟨w.heap.size, o, none⟩ = _ := fun o => hb9.cell (p := ⟨w.heap.size, o, none⟩) (by simp only [World.size_alloc, World.size_setCell, World.size_drew] <;> omega)
  have g9_0 : ∀ o, x9.frozen? ⟨w.heap.size, o, none⟩ = _ := fun o => hb9.frozen (p := ⟨w.heap.size, o, none⟩) (by simp only [World.size_alloc, World.size_setCell, World.size_drew] <;> omega)
  have f9_0 : w.heap.size < x9.heap.size := by omega
  have c9_1 : ∀ o, x9.cell? ⟨w.heap.size + 1, o, none⟩ = _ := fun o => hb9.cell (p := ⟨w.heap.size + 1, o, none⟩) (by simp only [World.size_alloc, World.size_setCell, World.size_drew] <;> omega)
  have g9_1 : ∀ o, x9.frozen? ⟨w.heap.size + 1, o, none⟩ = _ := fun o => hb9.frozen (p := ⟨w.heap.size + 1, o, none⟩) (by simp only [World.size_alloc, World.size_setCell, World.size_drew] <;> omega)
  have f9_1 : w.heap.size + 1 < x9.heap.size := by omega
  have c9_2 : ∀ o, x9.cell? ⟨x4.heap.size, o, none⟩ = _ := fun o => hb9.cell (p := ⟨x4.heap.size, o, none⟩) (by simp only [World.size_alloc, World.size_setCell, World.size_drew] <;> omega)
  have g9_2 : ∀ o, x9.frozen? ⟨x4.heap.size, o, none⟩ = _ := fun o => hb9.frozen (p := ⟨x4.heap.size, o, none⟩) (by simp only [World.size_alloc, World.size_setCell, World.size_drew] <;> omega)
  have f9_2 : x4.heap.size < x9.heap.size := by omega
  have c9_3 : ∀ o, x9.cell? ⟨x5.heap.size, o, none⟩ = _ := fun o => hb9.cell (p := ⟨x5.heap.size, o, none⟩) (by simp only [World.size_alloc, World.size_setCell, World.size_drew] <;> omega)
  have g9_3 : ∀ o, x9.frozen? ⟨x5.heap.size, o, none⟩ = _ := fun o => hb9.frozen (p := ⟨x5.heap.size, o, none⟩) (by simp only [World.size_alloc, World.size_setCell, World.size_drew] <;> omega)
  have f9_3 : x5.heap.size < x9.heap.size := by omega
  have c9_4 : ∀ o, x9.cell? ⟨x8.heap.size, o, none⟩ = _ := fun o => hb9.cell (p := ⟨x8.heap.size, o, none⟩) (by simp only [World.size_alloc, World.size_setCell, World.size_drew] <;> omega)
  have g9_4 : ∀ o, x9.frozen? ⟨x8.heap.size, o, none⟩ = _ := fun o => hb9.frozen (p := ⟨x8.heap.size, o, none⟩) (by simp only [World.size_alloc, World.size_setCell, World.size_drew] <;> omega)
  have f9_4 : x8.heap.size < x9.heap.size := by omega
  go_wp2_with fail
  with_reducible refine add_k (by assumption) (fun x10 hb10 => ?_)
  try dsimp only
  have hz10 := hb10.size; (try simp only [World.size_alloc, World.size_setCell, World.size_drew] at hz10)
  have c10_0 : ∀ o, x10.cell? ⟨w.heap.size, o, none⟩ = _ := fun o => hb10.cell (p := ⟨w.heap.size, o, none⟩) (by simp only [World.size_alloc, World.size_setCell, World.size_drew] <;> omega)
  have g10_0 : ∀ o, x10.frozen? ⟨w.heap.size, o, none⟩ = _ := fun o => hb10.frozen (p := ⟨w.heap.size, o, none⟩) (by simp only [World.size_alloc, World.size_setCell, World.size_drew] <;> omega)
  have f10_0 : w.heap.size < x10.heap.size := by omega
  have c10_1 : ∀ o, x10.cell? ⟨w.heap.size + 1, o, none⟩ = _ := fun o => hb10.cell (p := ⟨w.heap.size + 1, o, none⟩) (by simp only [World.size_alloc, World.size_setCell, World.size_drew] <;> omega)
  have g10_1 : ∀ o, x10.frozen? ⟨w.heap.size + 1, o, none⟩ = _ := fun o => hb10.frozen (p := ⟨w.heap.size + 1, o, none⟩) (by simp only [World.size_alloc, World.size_setCell, World.size_drew] <;> omega)
  have f10_1 : w.heap.size + 1 < x10.heap.size := by omega
  have c10_2 : ∀ o, x10.cell? ⟨x4.heap.size, o, none⟩ = _ := fun o => hb10.cell (p := ⟨x4.heap.size, o, none⟩) (by simp only [World.size_alloc, World.size_setCell, World.size_drew] <;> omega)
  have g10_2 : ∀ o, x10.frozen? ⟨x4.heap.size, o, none⟩ = _ := fun o => hb10.frozen (p := ⟨x4.heap.size, o, none⟩) (by simp only [World.size_alloc, World.size_setCell, World.size_drew] <;> omega)
  have f10_2 : x4.heap.size < x10.heap.size := by omega
  have c10_3 : ∀ o, x10.cell? ⟨x5.heap.size, o, none⟩ = _ := fun o => hb10.cell (p := ⟨x5.heap.size, o, none⟩) (by simp only [World.size_alloc, World.size_setCell, World.size_drew] <;> omega)
  have g10_3 : ∀ o, x10.frozen? ⟨x5.heap.size, o, none⟩ = _ := fun o => hb10.frozen (p := ⟨x5.heap.size, o, none⟩) (by simp only [World.size_alloc, World.size_setCell, World.size_drew] <;> omega)
  have f10_3 : x5.heap.size < x10.heap.size := by omega
  have c10_4 : ∀ o, x10.cell? ⟨x8.heap.size, o, none⟩ = _ := fun o => hb10.cell (p := ⟨x8.heap.size, o, none⟩) (by simp only [World.size_alloc, World.size_setCell, World.size_drew] <;> omega)
  have g10_4 : ∀ o, x10.frozen? ⟨x8.heap.size, o, none⟩ = _ := fun o => hb10.frozen (p := ⟨x8.heap.size, o, none⟩) (by simp only [World.size_alloc, World.size_setCell, World.size_drew] <;> omega)
  have f10_4 : x8.heap.size < x10.heap.size := by omega
  go_wp2
  go_ret
  exact ⟨rfl, by (repeat (first | with_reducible exact Below.refl _ _ | with_reducible assumption | with_reducible refine Below.drew ?_ | with_reducible refine bl_drewN ?_ | (with_reducible refine bl_alloc ?_ ?_; · (first | omega | (simp; done) | (simp; omega))) | (with_reducible refine bl_set ?_ ?_; · (first | omega | (simp; done) | (simp; omega))) | (with_reducible refine bl_trans hb10 ?_ ?_; · (first | omega | (simp; done) | (simp; omega))) | (with_reducible refine bl_trans hb9 ?_ ?_; · (first | omega | (simp; done) | (simp; omega))) | (with_reducible refine bl_trans hb8 ?_ ?_; · (first | omega | (simp; done) | (simp; omega))) | (with_reducible refine bl_trans hb7 ?_ ?_; · (first | omega | (simp; done) | (simp; omega))) | (with_reducible refine bl_trans hb6 ?_ ?_; · (first | omega | (simp; done) | (simp; omega))) | (with_reducible refine bl_trans hb5 ?_ ?_; · (first | omega | (simp; done) | (simp; omega))) | (with_reducible refine bl_trans hb4 ?_ ?_; · (first | omega | (simp; done) | (simp; omega))) | (with_reducible refine bl_trans hb3 ?_ ?_; · (first | omega | (simp; done) | (simp; omega))) | (with_reducible refine bl_trans hb2 ?_ ?_; · (first | omega | (simp; done) | (simp; omega))) | (with_reducible refine bl_trans hb1 ?_ ?_; · (first | omega | (simp; done) | (simp; omega)))))⟩

set_option maxHeartbeats 8000000 in
theorem resBack_06 (a0 a1 a2 b0 b1 b2 : Int) (w : World) (ra : rightB a0 a1 a2 = true) (rb : rightB b0 b1 b2 = true) (hp : rightB (a0 + 1 * b0) (a1 + 1 * b1) (a2 + 1 * b2) = true) (hm : rightB (a0 + -1 * b0) (a1 + -1 * b1) (a2 + -1 * b2) = false) :
    Calls Try.prog 4 #[rv a0 a1 a2, rv b0 b1 b2] w fun e w' => e = .returned (.bool true) ∧ Below w.heap.size w w' := by
  obtain ⟨_, _, _, _, _, _⟩ := right_out ra
  obtain ⟨_, _, _, _, _, _⟩ := right_out rb
  have h1 : addV a0 a1 a2 b0 b1 b2 1 = .tuple #[rv (a0 + b0) (a1 + b1) (a2 + b2), .int .i64 0] := (addV_0 ra rb hp).trans (rtuple (by omega) (by omega) (by omega) rfl)
  have hp' : rightB (a0 + b0) (a1 + b1) (a2 + b2) = true := by simpa using hp
  have h2 : addV (a0 + b0) (a1 + b1) (a2 + b2) b0 b1 b2 (-1) = .tuple #[rv a0 a1 a2, .int .i64 0] := (addV_0 hp' rb (right_mk (by omega))).trans (rtuple (by omega) (by omega) (by omega) rfl)
  have f1 : fitsB a0 a1 a2 (a0 + b0) (a1 + b1) (a2 + b2) = true := by unfold fitsB; rw [decide_eq_true_eq]; omega
  have f2 : fitsB b0 b1 b2 (a0 + b0) (a1 + b1) (a2 + b2) = true := by unfold fitsB; rw [decide_eq_true_eq]; omega
  have h3 := addV_6 ra rb hm
  have f3 : fitsB b0 b1 b2 a0 a1 a2 = false := by
    unfold fitsB; rw [decide_eq_false_iff_not]; intro hf
    have : rightB (a0 + -1 * b0) (a1 + -1 * b1) (a2 + -1 * b2) = true := right_mk (by omega)
    rw [hm] at this; cases this
  have e1 := eq3 a0 a1 a2 a0 a1 a2
  simp only [beq_self_eq_true, Bool.and_self] at e1
  clear hp hm
  go_enter Try.func4, Try.ntmps4
  go_wp2_with fail
  with_reducible refine awake_k (fun x1 hb1 => ?_)
  try dsimp only
  have hz1 := hb1.size; (try simp only [World.size_alloc, World.size_setCell, World.size_drew] at hz1)
  have c1_0 : ∀ o, x1.cell? ⟨w.heap.size, o, none⟩ = _ := fun o => hb1.cell (p := ⟨w.heap.size, o, none⟩) (by simp only [World.size_alloc, World.size_setCell, World.size_drew] <;> omega)
  have g1_0 : ∀ o, x1.frozen? ⟨w.heap.size, o, none⟩ = _ := fun o => hb1.frozen (p := ⟨w.heap.size, o, none⟩) (by simp only [World.size_alloc, World.size_setCell, World.size_drew] <;> omega)
  have f1_0 : w.heap.size < x1.heap.size := by omega
  have c1_1 : ∀ o, x1.cell? ⟨w.heap.size + 1, o, none⟩ = _ := fun o => hb1.cell (p := ⟨w.heap.size + 1, o, none⟩) (by simp only [World.size_alloc, World.size_setCell, World.size_drew] <;> omega)
  have g1_1 : ∀ o, x1.frozen? ⟨w.heap.size + 1, o, none⟩ = _ := fun o => hb1.frozen (p := ⟨w.heap.size + 1, o, none⟩) (by simp only [World.size_alloc, World.size_setCell, World.size_drew] <;> omega)
  have f1_1 : w.heap.size + 1 < x1.heap.size := by omega
  go_wp2_with fail
  with_reducible refine right_k (by assumption) (fun x2 hb2 => ?_)
  try dsimp only
  have hz2 := hb2.size; (try simp only [World.size_alloc, World.size_setCell, World.size_drew] at hz2)
  have c2_0 : ∀ o, x2.cell? ⟨w.heap.size, o, none⟩ = _ := fun o => hb2.cell (p := ⟨w.heap.size, o, none⟩) (by simp only [World.size_alloc, World.size_setCell, World.size_drew] <;> omega)
  have g2_0 : ∀ o, x2.frozen? ⟨w.heap.size, o, none⟩ = _ := fun o => hb2.frozen (p := ⟨w.heap.size, o, none⟩) (by simp only [World.size_alloc, World.size_setCell, World.size_drew] <;> omega)
  have f2_0 : w.heap.size < x2.heap.size := by omega
  have c2_1 : ∀ o, x2.cell? ⟨w.heap.size + 1, o, none⟩ = _ := fun o => hb2.cell (p := ⟨w.heap.size + 1, o, none⟩) (by simp only [World.size_alloc, World.size_setCell, World.size_drew] <;> omega)
  have g2_1 : ∀ o, x2.frozen? ⟨w.heap.size + 1, o, none⟩ = _ := fun o => hb2.frozen (p := ⟨w.heap.size + 1, o, none⟩) (by simp only [World.size_alloc, World.size_setCell, World.size_drew] <;> omega)
  have f2_1 : w.heap.size + 1 < x2.heap.size := by omega
  go_wp2_with fail
  with_reducible refine right_k (by assumption) (fun x3 hb3 => ?_)
  try dsimp only
  have hz3 := hb3.size; (try simp only [World.size_alloc, World.size_setCell, World.size_drew] at hz3)
  have c3_0 : ∀ o, x3.cell? ⟨w.heap.size, o, none⟩ = _ := fun o => hb3.cell (p := ⟨w.heap.size, o, none⟩) (by simp only [World.size_alloc, World.size_setCell, World.size_drew] <;> omega)
  have g3_0 : ∀ o, x3.frozen? ⟨w.heap.size, o, none⟩ = _ := fun o => hb3.frozen (p := ⟨w.heap.size, o, none⟩) (by simp only [World.size_alloc, World.size_setCell, World.size_drew] <;> omega)
  have f3_0 : w.heap.size < x3.heap.size := by omega
  have c3_1 : ∀ o, x3.cell? ⟨w.heap.size + 1, o, none⟩ = _ := fun o => hb3.cell (p := ⟨w.heap.size + 1, o, none⟩) (by simp only [World.size_alloc, World.size_setCell, World.size_drew] <;> omega)
  have g3_1 : ∀ o, x3.frozen? ⟨w.heap.size + 1, o, none⟩ = _ := fun o => hb3.frozen (p := ⟨w.heap.size + 1, o, none⟩) (by simp only [World.size_alloc, World.size_setCell, World.size_drew] <;> omega)
  have f3_1 : w.heap.size + 1 < x3.heap.size := by omega
  go_wp2_with fail
  with_reducible refine add_k (by assumption) (fun x4 hb4 => ?_)
  try dsimp only
  have hz4 := hb4.size; (try simp only [World.size_alloc, World.size_setCell, World.size_drew] at hz4)
  have c4_0 : ∀ o, x4.cell? ⟨w.heap.size, o, none⟩ = _ := fun o => hb4.cell (p := ⟨w.heap.size, o, none⟩) (by simp only [World.size_alloc, World.size_setCell, World.size_drew] <;> omega)
  have g4_0 : ∀ o, x4.frozen? ⟨w.heap.size, o, none⟩ = _ := fun o => hb4.frozen (p := ⟨w.heap.size, o, none⟩) (by simp only [World.size_alloc, World.size_setCell, World.size_drew] <;> omega)
  have f4_0 : w.heap.size < x4.heap.size := by omega
  have c4_1 : ∀ o, x4.cell? ⟨w.heap.size + 1, o, none⟩ = _ := fun o => hb4.cell (p := ⟨w.heap.size + 1, o, none⟩) (by simp only [World.size_alloc, World.size_setCell, World.size_drew] <;> omega)
  have g4_1 : ∀ o, x4.frozen? ⟨w.heap.size + 1, o, none⟩ = _ := fun o => hb4.frozen (p := ⟨w.heap.size + 1, o, none⟩) (by simp only [World.size_alloc, World.size_setCell, World.size_drew] <;> omega)
  have f4_1 : w.heap.size + 1 < x4.heap.size := by omega
  go_wp2_with fail
  with_reducible refine sub_k (by assumption) (fun x5 hb5 => ?_)
  try dsimp only
  have hz5 := hb5.size; (try simp only [World.size_alloc, World.size_setCell, World.size_drew] at hz5)
  have c5_0 : ∀ o, x5.cell? ⟨w.heap.size, o, none⟩ = _ := fun o => hb5.cell (p := ⟨w.heap.size, o, none⟩) (by simp only [World.size_alloc, World.size_setCell, World.size_drew] <;> omega)
  have g5_0 : ∀ o, x5.frozen? ⟨w.heap.size, o, none⟩ = _ := fun o => hb5.frozen (p := ⟨w.heap.size, o, none⟩) (by simp only [World.size_alloc, World.size_setCell, World.size_drew] <;> omega)
  have f5_0 : w.heap.size < x5.heap.size := by omega
  have c5_1 : ∀ o, x5.cell? ⟨w.heap.size + 1, o, none⟩ = _ := fun o => hb5.cell (p := ⟨w.heap.size + 1, o, none⟩) (by simp only [World.size_alloc, World.size_setCell, World.size_drew] <;> omega)
  have g5_1 : ∀ o, x5.frozen? ⟨w.heap.size + 1, o, none⟩ = _ := fun o => hb5.frozen (p := ⟨w.heap.size + 1, o, none⟩) (by simp only [World.size_alloc, World.size_setCell, World.size_drew] <;> omega)
  have f5_1 : w.heap.size + 1 < x5.heap.size := by omega
  have c5_2 : ∀ o, x5.cell? ⟨x4.heap.size, o, none⟩ = _ := fun o => hb5.cell (p := ⟨x4.heap.size, o, none⟩) (by simp only [World.size_alloc, World.size_setCell, World.size_drew] <;> omega)
  have g5_2 : ∀ o, x5.frozen? ⟨x4.heap.size, o, none⟩ = _ := fun o => hb5.frozen (p := ⟨x4.heap.size, o, none⟩) (by simp only [World.size_alloc, World.size_setCell, World.size_drew] <;> omega)
  have f5_2 : x4.heap.size < x5.heap.size := by omega
  go_wp2_with fail
  with_reducible refine fits_k (by assumption) (fun x6 hb6 => ?_)
  try dsimp only
  have hz6 := hb6.size; (try simp only [World.size_alloc, World.size_setCell, World.size_drew] at hz6)
  have c6_0 : ∀ o, x6.cell? ⟨w.heap.size, o, none⟩ = _ := fun o => hb6.cell (p := ⟨w.heap.size, o, none⟩) (by simp only [World.size_alloc, World.size_setCell, World.size_drew] <;> omega)
  have g6_0 : ∀ o, x6.frozen? ⟨w.heap.size, o, none⟩ = _ := fun o => hb6.frozen (p := ⟨w.heap.size, o, none⟩) (by simp only [World.size_alloc, World.size_setCell, World.size_drew] <;> omega)
  have f6_0 : w.heap.size < x6.heap.size := by omega
  have c6_1 : ∀ o, x6.cell? ⟨w.heap.size + 1, o, none⟩ = _ := fun o => hb6.cell (p := ⟨w.heap.size + 1, o, none⟩) (by simp only [World.size_alloc, World.size_setCell, World.size_drew] <;> omega)
  have g6_1 : ∀ o, x6.frozen? ⟨w.heap.size + 1, o, none⟩ = _ := fun o => hb6.frozen (p := ⟨w.heap.size + 1, o, none⟩) (by simp only [World.size_alloc, World.size_setCell, World.size_drew] <;> omega)
  have f6_1 : w.heap.size + 1 < x6.heap.size := by omega
  have c6_2 : ∀ o, x6.cell? ⟨x4.heap.size, o, none⟩ = _ := fun o => hb6.cell (p := ⟨x4.heap.size, o, none⟩) (by simp only [World.size_alloc, World.size_setCell, World.size_drew] <;> omega)
  have g6_2 : ∀ o, x6.frozen? ⟨x4.heap.size, o, none⟩ = _ := fun o => hb6.frozen (p := ⟨x4.heap.size, o, none⟩) (by simp only [World.size_alloc, World.size_setCell, World.size_drew] <;> omega)
  have f6_2 : x4.heap.size < x6.heap.size := by omega
  have c6_3 : ∀ o, x6.cell? ⟨x5.heap.size, o, none⟩ = _ := fun o => hb6.cell (p := ⟨x5.heap.size, o, none⟩) (by simp only [World.size_alloc, World.size_setCell, World.size_drew] <;> omega)
  have g6_3 : ∀ o, x6.frozen? ⟨x5.heap.size, o, none⟩ = _ := fun o => hb6.frozen (p := ⟨x5.heap.size, o, none⟩) (by simp only [World.size_alloc, World.size_setCell, World.size_drew] <;> omega)
  have f6_3 : x5.heap.size < x6.heap.size := by omega
  go_wp2_with fail
  with_reducible refine fits_k (by assumption) (fun x7 hb7 => ?_)
  try dsimp only
  have hz7 := hb7.size; (try simp only [World.size_alloc, World.size_setCell, World.size_drew] at hz7)
  have c7_0 : ∀ o, x7.cell? ⟨w.heap.size, o, none⟩ = _ := fun o => hb7.cell (p := ⟨w.heap.size, o, none⟩) (by simp only [World.size_alloc, World.size_setCell, World.size_drew] <;> omega)
  have g7_0 : ∀ o, x7.frozen? ⟨w.heap.size, o, none⟩ = _ := fun o => hb7.frozen (p := ⟨w.heap.size, o, none⟩) (by simp only [World.size_alloc, World.size_setCell, World.size_drew] <;> omega)
  have f7_0 : w.heap.size < x7.heap.size := by omega
  have c7_1 : ∀ o, x7.cell? ⟨w.heap.size + 1, o, none⟩ = _ := fun o => hb7.cell (p := ⟨w.heap.size + 1, o, none⟩) (by simp only [World.size_alloc, World.size_setCell, World.size_drew] <;> omega)
  have g7_1 : ∀ o, x7.frozen? ⟨w.heap.size + 1, o, none⟩ = _ := fun o => hb7.frozen (p := ⟨w.heap.size + 1, o, none⟩) (by simp only [World.size_alloc, World.size_setCell, World.size_drew] <;> omega)
  have f7_1 : w.heap.size + 1 < x7.heap.size := by omega
  have c7_2 : ∀ o, x7.cell? ⟨x4.heap.size, o, none⟩ = _ := fun o => hb7.cell (p := ⟨x4.heap.size, o, none⟩) (by simp only [World.size_alloc, World.size_setCell, World.size_drew] <;> omega)
  have g7_2 : ∀ o, x7.frozen? ⟨x4.heap.size, o, none⟩ = _ := fun o => hb7.frozen (p := ⟨x4.heap.size, o, none⟩) (by simp only [World.size_alloc, World.size_setCell, World.size_drew] <;> omega)
  have f7_2 : x4.heap.size < x7.heap.size := by omega
  have c7_3 : ∀ o, x7.cell? ⟨x5.heap.size, o, none⟩ = _ := fun o => hb7.cell (p := ⟨x5.heap.size, o, none⟩) (by simp only [World.size_alloc, World.size_setCell, World.size_drew] <;> omega)
  have g7_3 : ∀ o, x7.frozen? ⟨x5.heap.size, o, none⟩ = _ := fun o => hb7.frozen (p := ⟨x5.heap.size, o, none⟩) (by simp only [World.size_alloc, World.size_setCell, World.size_drew] <;> omega)
  have f7_3 : x5.heap.size < x7.heap.size := by omega
  go_wp2_with fail
  with_reducible refine sub_k (by assumption) (fun x8 hb8 => ?_)
  try dsimp only
  have hz8 := hb8.size; (try simp only [World.size_alloc, World.size_setCell, World.size_drew] at hz8)
  have c8_0 : ∀ o, x8.cell? ⟨w.heap.size, o, none⟩ = _ := fun o => hb8.cell (p := ⟨w.heap.size, o, none⟩) (by simp only [World.size_alloc, World.size_setCell, World.size_drew] <;> omega)
  have g8_0 : ∀ o, x8.frozen? ⟨w.heap.size, o, none⟩ = _ := fun o => hb8.frozen (p := ⟨w.heap.size, o, none⟩) (by simp only [World.size_alloc, World.size_setCell, World.size_drew] <;> omega)
  have f8_0 : w.heap.size < x8.heap.size := by omega
  have c8_1 : ∀ o, x8.cell? ⟨w.heap.size + 1, o, none⟩ = _ := fun o => hb8.cell (p := ⟨w.heap.size + 1, o, none⟩) (by simp only [World.size_alloc, World.size_setCell, World.size_drew] <;> omega)
  have g8_1 : ∀ o, x8.frozen? ⟨w.heap.size + 1, o, none⟩ = _ := fun o => hb8.frozen (p := ⟨w.heap.size + 1, o, none⟩) (by simp only [World.size_alloc, World.size_setCell, World.size_drew] <;> omega)
  have f8_1 : w.heap.size + 1 < x8.heap.size := by omega
  have c8_2 : ∀ o, x8.cell? ⟨x4.heap.size, o, none⟩ = _ := fun o => hb8.cell (p := ⟨x4.heap.size, o, none⟩) (by simp only [World.size_alloc, World.size_setCell, World.size_drew] <;> omega)
  have g8_2 : ∀ o, x8.frozen? ⟨x4.heap.size, o, none⟩ = _ := fun o => hb8.frozen (p := ⟨x4.heap.size, o, none⟩) (by simp only [World.size_alloc, World.size_setCell, World.size_drew] <;> omega)
  have f8_2 : x4.heap.size < x8.heap.size := by omega
  have c8_3 : ∀ o, x8.cell? ⟨x5.heap.size, o, none⟩ = _ := fun o => hb8.cell (p := ⟨x5.heap.size, o, none⟩) (by simp only [World.size_alloc, World.size_setCell, World.size_drew] <;> omega)
  have g8_3 : ∀ o, x8.frozen? ⟨x5.heap.size, o, none⟩ = _ := fun o => hb8.frozen (p := ⟨x5.heap.size, o, none⟩) (by simp only [World.size_alloc, World.size_setCell, World.size_drew] <;> omega)
  have f8_3 : x5.heap.size < x8.heap.size := by omega
  go_wp2_with fail
  with_reducible refine fits_k (by assumption) (fun x9 hb9 => ?_)
  try dsimp only
  have hz9 := hb9.size; (try simp only [World.size_alloc, World.size_setCell, World.size_drew] at hz9)
  have c9_0 : ∀ o, x9.cell? ⟨w.heap.size, o, none⟩ = _ := fun o => hb9.cell (p := ⟨w.heap.size, o, none⟩) (by simp only [World.size_alloc, World.size_setCell, World.size_drew] <;> omega)
  have g9_0 : ∀ o, x9.frozen? ⟨w.heap.size, o, none⟩ = _ := fun o => hb9.frozen (p := ⟨w.heap.size, o, none⟩) (by simp only [World.size_alloc, World.size_setCell, World.size_drew] <;> omega)
  have f9_0 : w.heap.size < x9.heap.size := by omega
  have c9_1 : ∀ o, x9.cell? ⟨w.heap.size + 1, o, none⟩ = _ := fun o => hb9.cell (p := ⟨w.heap.size + 1, o, none⟩) (by simp only [World.size_alloc, World.size_setCell, World.size_drew] <;> omega)
  have g9_1 : ∀ o, x9.frozen? ⟨w.heap.size + 1, o, none⟩ = _ := fun o => hb9.frozen (p := ⟨w.heap.size + 1, o, none⟩) (by simp only [World.size_alloc, World.size_setCell, World.size_drew] <;> omega)
  have f9_1 : w.heap.size + 1 < x9.heap.size := by omega
  have c9_2 : ∀ o, x9.cell? ⟨x4.heap.size, o, none⟩ = _ := fun o => hb9.cell (p := ⟨x4.heap.size, o, none⟩) (by simp only [World.size_alloc, World.size_setCell, World.size_drew] <;> omega)
  have g9_2 : ∀ o, x9.frozen? ⟨x4.heap.size, o, none⟩ = _ := fun o => hb9.frozen (p := ⟨x4.heap.size, o, none⟩) (by simp only [World.size_alloc, World.size_setCell, World.size_drew] <;> omega)
  have f9_2 : x4.heap.size < x9.heap.size := by omega
  have c9_3 : ∀ o, x9.cell? ⟨x5.heap.size, o, none⟩ = _ := fun o => hb9.cell (p := ⟨x5.heap.size, o, none⟩) (by simp only [World.size_alloc, World.size_setCell, World.size_drew] <;> omega)
  have g9_3 : ∀ o, x9.frozen? ⟨x5.heap.size, o, none⟩ = _ := fun o => hb9.frozen (p := ⟨x5.heap.size, o, none⟩) (by simp only [World.size_alloc, World.size_setCell, World.size_drew] <;> omega)
  have f9_3 : x5.heap.size < x9.heap.size := by omega
  have c9_4 : ∀ o, x9.cell? ⟨x8.heap.size, o, none⟩ = _ := fun o => hb9.cell (p := ⟨x8.heap.size, o, none⟩) (by simp only [World.size_alloc, World.size_setCell, World.size_drew] <;> omega)
  have g9_4 : ∀ o, x9.frozen? ⟨x8.heap.size, o, none⟩ = _ := fun o => hb9.frozen (p := ⟨x8.heap.size, o, none⟩) (by simp only [World.size_alloc, World.size_setCell, World.size_drew] <;> omega)
  have f9_4 : x8.heap.size < x9.heap.size := by omega
  go_wp2
  go_ret
  exact ⟨rfl, by (repeat (first | with_reducible exact Below.refl _ _ | with_reducible assumption | with_reducible refine Below.drew ?_ | with_reducible refine bl_drewN ?_ | (with_reducible refine bl_alloc ?_ ?_; · (first | omega | (simp; done) | (simp; omega))) | (with_reducible refine bl_set ?_ ?_; · (first | omega | (simp; done) | (simp; omega))) | (with_reducible refine bl_trans hb9 ?_ ?_; · (first | omega | (simp; done) | (simp; omega))) | (with_reducible refine bl_trans hb8 ?_ ?_; · (first | omega | (simp; done) | (simp; omega))) | (with_reducible refine bl_trans hb7 ?_ ?_; · (first | omega | (simp; done) | (simp; omega))) | (with_reducible refine bl_trans hb6 ?_ ?_; · (first | omega | (simp; done) | (simp; omega))) | (with_reducible refine bl_trans hb5 ?_ ?_; · (first | omega | (simp; done) | (simp; omega))) | (with_reducible refine bl_trans hb4 ?_ ?_; · (first | omega | (simp; done) | (simp; omega))) | (with_reducible refine bl_trans hb3 ?_ ?_; · (first | omega | (simp; done) | (simp; omega))) | (with_reducible refine bl_trans hb2 ?_ ?_; · (first | omega | (simp; done) | (simp; omega))) | (with_reducible refine bl_trans hb1 ?_ ?_; · (first | omega | (simp; done) | (simp; omega)))))⟩

set_option maxHeartbeats 8000000 in
theorem resBack_60 (a0 a1 a2 b0 b1 b2 : Int) (w : World) (ra : rightB a0 a1 a2 = true) (rb : rightB b0 b1 b2 = true) (hp : rightB (a0 + 1 * b0) (a1 + 1 * b1) (a2 + 1 * b2) = false) (hm : rightB (a0 + -1 * b0) (a1 + -1 * b1) (a2 + -1 * b2) = true) :
    Calls Try.prog 4 #[rv a0 a1 a2, rv b0 b1 b2] w fun e w' => e = .returned (.bool true) ∧ Below w.heap.size w w' := by
  obtain ⟨_, _, _, _, _, _⟩ := right_out ra
  obtain ⟨_, _, _, _, _, _⟩ := right_out rb
  have h1 := addV_6 ra rb hp
  have h3 : addV a0 a1 a2 b0 b1 b2 (-1) = .tuple #[rv (a0 - b0) (a1 - b1) (a2 - b2), .int .i64 0] := (addV_0 ra rb hm).trans (rtuple (by omega) (by omega) (by omega) rfl)
  have hm' : rightB (a0 - b0) (a1 - b1) (a2 - b2) = true := right_mk (by obtain ⟨_, _, _, _, _, _⟩ := right_out hm; omega)
  have h4 : addV (a0 - b0) (a1 - b1) (a2 - b2) b0 b1 b2 1 = .tuple #[rv a0 a1 a2, .int .i64 0] := (addV_0 hm' rb (right_mk (by omega))).trans (rtuple (by omega) (by omega) (by omega) rfl)
  have f3 : fitsB b0 b1 b2 a0 a1 a2 = true := by obtain ⟨_, _, _, _, _, _⟩ := right_out hm; unfold fitsB; rw [decide_eq_true_eq]; omega
  have e1 := eq3 a0 a1 a2 a0 a1 a2
  simp only [beq_self_eq_true, Bool.and_self] at e1
  clear hp hm
  go_enter Try.func4, Try.ntmps4
  go_wp2_with fail
  with_reducible refine awake_k (fun x1 hb1 => ?_)
  try dsimp only
  have hz1 := hb1.size; (try simp only [World.size_alloc, World.size_setCell, World.size_drew] at hz1)
  have c1_0 : ∀ o, x1.cell? ⟨w.heap.size, o, none⟩ = _ := fun o => hb1.cell (p := ⟨w.heap.size, o, none⟩) (by simp only [World.size_alloc, World.size_setCell, World.size_drew] <;> omega)
  have g1_0 : ∀ o, x1.frozen? ⟨w.heap.size, o, none⟩ = _ := fun o => hb1.frozen (p := ⟨w.heap.size, o, none⟩) (by simp only [World.size_alloc, World.size_setCell, World.size_drew] <;> omega)
  have f1_0 : w.heap.size < x1.heap.size := by omega
  have c1_1 : ∀ o, x1.cell? ⟨w.heap.size + 1, o, none⟩ = _ := fun o => hb1.cell (p := ⟨w.heap.size + 1, o, none⟩) (by simp only [World.size_alloc, World.size_setCell, World.size_drew] <;> omega)
  have g1_1 : ∀ o, x1.frozen? ⟨w.heap.size + 1, o, none⟩ = _ := fun o => hb1.frozen (p := ⟨w.heap.size + 1, o, none⟩) (by simp only [World.size_alloc, World.size_setCell, World.size_drew] <;> omega)
  have f1_1 : w.heap.size + 1 < x1.heap.size := by omega
  go_wp2_with fail
  with_reducible refine right_k (by assumption) (fun x2 hb2 => ?_)
  try dsimp only
  have hz2 := hb2.size; (try simp only [World.size_alloc, World.size_setCell, World.size_drew] at hz2)
  have c2_0 : ∀ o, x2.cell? ⟨w.heap.size, o, none⟩ = _ := fun o => hb2.cell (p := ⟨w.heap.size, o, none⟩) (by simp only [World.size_alloc, World.size_setCell, World.size_drew] <;> omega)
  have g2_0 : ∀ o, x2.frozen? ⟨w.heap.size, o, none⟩ = _ := fun o => hb2.frozen (p := ⟨w.heap.size, o, none⟩) (by simp only [World.size_alloc, World.size_setCell, World.size_drew] <;> omega)
  have f2_0 : w.heap.size < x2.heap.size := by omega
  have c2_1 : ∀ o, x2.cell? ⟨w.heap.size + 1, o, none⟩ = _ := fun o => hb2.cell (p := ⟨w.heap.size + 1, o, none⟩) (by simp only [World.size_alloc, World.size_setCell, World.size_drew] <;> omega)
  have g2_1 : ∀ o, x2.frozen? ⟨w.heap.size + 1, o, none⟩ = _ := fun o => hb2.frozen (p := ⟨w.heap.size + 1, o, none⟩) (by simp only [World.size_alloc, World.size_setCell, World.size_drew] <;> omega)
  have f2_1 : w.heap.size + 1 < x2.heap.size := by omega
  go_wp2_with fail
  with_reducible refine right_k (by assumption) (fun x3 hb3 => ?_)
  try dsimp only
  have hz3 := hb3.size; (try simp only [World.size_alloc, World.size_setCell, World.size_drew] at hz3)
  have c3_0 : ∀ o, x3.cell? ⟨w.heap.size, o, none⟩ = _ := fun o => hb3.cell (p := ⟨w.heap.size, o, none⟩) (by simp only [World.size_alloc, World.size_setCell, World.size_drew] <;> omega)
  have g3_0 : ∀ o, x3.frozen? ⟨w.heap.size, o, none⟩ = _ := fun o => hb3.frozen (p := ⟨w.heap.size, o, none⟩) (by simp only [World.size_alloc, World.size_setCell, World.size_drew] <;> omega)
  have f3_0 : w.heap.size < x3.heap.size := by omega
  have c3_1 : ∀ o, x3.cell? ⟨w.heap.size + 1, o, none⟩ = _ := fun o => hb3.cell (p := ⟨w.heap.size + 1, o, none⟩) (by simp only [World.size_alloc, World.size_setCell, World.size_drew] <;> omega)
  have g3_1 : ∀ o, x3.frozen? ⟨w.heap.size + 1, o, none⟩ = _ := fun o => hb3.frozen (p := ⟨w.heap.size + 1, o, none⟩) (by simp only [World.size_alloc, World.size_setCell, World.size_drew] <;> omega)
  have f3_1 : w.heap.size + 1 < x3.heap.size := by omega
  go_wp2_with fail
  with_reducible refine add_k (by assumption) (fun x4 hb4 => ?_)
  try dsimp only
  have hz4 := hb4.size; (try simp only [World.size_alloc, World.size_setCell, World.size_drew] at hz4)
  have c4_0 : ∀ o, x4.cell? ⟨w.heap.size, o, none⟩ = _ := fun o => hb4.cell (p := ⟨w.heap.size, o, none⟩) (by simp only [World.size_alloc, World.size_setCell, World.size_drew] <;> omega)
  have g4_0 : ∀ o, x4.frozen? ⟨w.heap.size, o, none⟩ = _ := fun o => hb4.frozen (p := ⟨w.heap.size, o, none⟩) (by simp only [World.size_alloc, World.size_setCell, World.size_drew] <;> omega)
  have f4_0 : w.heap.size < x4.heap.size := by omega
  have c4_1 : ∀ o, x4.cell? ⟨w.heap.size + 1, o, none⟩ = _ := fun o => hb4.cell (p := ⟨w.heap.size + 1, o, none⟩) (by simp only [World.size_alloc, World.size_setCell, World.size_drew] <;> omega)
  have g4_1 : ∀ o, x4.frozen? ⟨w.heap.size + 1, o, none⟩ = _ := fun o => hb4.frozen (p := ⟨w.heap.size + 1, o, none⟩) (by simp only [World.size_alloc, World.size_setCell, World.size_drew] <;> omega)
  have f4_1 : w.heap.size + 1 < x4.heap.size := by omega
  go_wp2_with fail
  with_reducible refine sub_k (by assumption) (fun x5 hb5 => ?_)
  try dsimp only
  have hz5 := hb5.size; (try simp only [World.size_alloc, World.size_setCell, World.size_drew] at hz5)
  have c5_0 : ∀ o, x5.cell? ⟨w.heap.size, o, none⟩ = _ := fun o => hb5.cell (p := ⟨w.heap.size, o, none⟩) (by simp only [World.size_alloc, World.size_setCell, World.size_drew] <;> omega)
  have g5_0 : ∀ o, x5.frozen? ⟨w.heap.size, o, none⟩ = _ := fun o => hb5.frozen (p := ⟨w.heap.size, o, none⟩) (by simp only [World.size_alloc, World.size_setCell, World.size_drew] <;> omega)
  have f5_0 : w.heap.size < x5.heap.size := by omega
  have c5_1 : ∀ o, x5.cell? ⟨w.heap.size + 1, o, none⟩ = _ := fun o => hb5.cell (p := ⟨w.heap.size + 1, o, none⟩) (by simp only [World.size_alloc, World.size_setCell, World.size_drew] <;> omega)
  have g5_1 : ∀ o, x5.frozen? ⟨w.heap.size + 1, o, none⟩ = _ := fun o => hb5.frozen (p := ⟨w.heap.size + 1, o, none⟩) (by simp only [World.size_alloc, World.size_setCell, World.size_drew] <;> omega)
  have f5_1 : w.heap.size + 1 < x5.heap.size := by omega
  have c5_2 : ∀ o, x5.cell? ⟨x4.heap.size, o, none⟩ = _ := fun o => hb5.cell (p := ⟨x4.heap.size, o, none⟩) (by simp only [World.size_alloc, World.size_setCell, World.size_drew] <;> omega)
  have g5_2 : ∀ o, x5.frozen? ⟨x4.heap.size, o, none⟩ = _ := fun o => hb5.frozen (p := ⟨x4.heap.size, o, none⟩) (by simp only [World.size_alloc, World.size_setCell, World.size_drew] <;> omega)
  have f5_2 : x4.heap.size < x5.heap.size := by omega
  go_wp2_with fail
  with_reducible refine fits_k (by assumption) (fun x6 hb6 => ?_)
  try dsimp only
  have hz6 := hb6.size; (try simp only [World.size_alloc, World.size_setCell, World.size_drew] at hz6)
  have c6_0 : ∀ o, x6.cell? ⟨w.heap.size, o, none⟩ = _ := fun o => hb6.cell (p := ⟨w.heap.size, o, none⟩) (by simp only [World.size_alloc, World.size_setCell, World.size_drew] <;> omega)
  have g6_0 : ∀ o, x6.frozen? ⟨w.heap.size, o, none⟩ = _ := fun o => hb6.frozen (p := ⟨w.heap.size, o, none⟩) (by simp only [World.size_alloc, World.size_setCell, World.size_drew] <;> omega)
  have f6_0 : w.heap.size < x6.heap.size := by omega
  have c6_1 : ∀ o, x6.cell? ⟨w.heap.size + 1, o, none⟩ = _ := fun o => hb6.cell (p := ⟨w.heap.size + 1, o, none⟩) (by simp only [World.size_alloc, World.size_setCell, World.size_drew] <;> omega)
  have g6_1 : ∀ o, x6.frozen? ⟨w.heap.size + 1, o, none⟩ = _ := fun o => hb6.frozen (p := ⟨w.heap.size + 1, o, none⟩) (by simp only [World.size_alloc, World.size_setCell, World.size_drew] <;> omega)
  have f6_1 : w.heap.size + 1 < x6.heap.size := by omega
  have c6_2 : ∀ o, x6.cell? ⟨x4.heap.size, o, none⟩ = _ := fun o => hb6.cell (p := ⟨x4.heap.size, o, none⟩) (by simp only [World.size_alloc, World.size_setCell, World.size_drew] <;> omega)
  have g6_2 : ∀ o, x6.frozen? ⟨x4.heap.size, o, none⟩ = _ := fun o => hb6.frozen (p := ⟨x4.heap.size, o, none⟩) (by simp only [World.size_alloc, World.size_setCell, World.size_drew] <;> omega)
  have f6_2 : x4.heap.size < x6.heap.size := by omega
  have c6_3 : ∀ o, x6.cell? ⟨x5.heap.size, o, none⟩ = _ := fun o => hb6.cell (p := ⟨x5.heap.size, o, none⟩) (by simp only [World.size_alloc, World.size_setCell, World.size_drew] <;> omega)
  have g6_3 : ∀ o, x6.frozen? ⟨x5.heap.size, o, none⟩ = _ := fun o => hb6.frozen (p := ⟨x5.heap.size, o, none⟩) (by simp only [World.size_alloc, World.size_setCell, World.size_drew] <;> omega)
  have f6_3 : x5.heap.size < x6.heap.size := by omega
  go_wp2_with fail
  with_reducible refine add_k (by assumption) (fun x7 hb7 => ?_)
  try dsimp only
  have hz7 := hb7.size; (try simp only [World.size_alloc, World.size_setCell, World.size_drew] at hz7)
  have c7_0 : ∀ o, x7.cell? ⟨w.heap.size, o, none⟩ = _ := fun o => hb7.cell (p := ⟨w.heap.size, o, none⟩) (by simp only [World.size_alloc, World.size_setCell, World.size_drew] <;> omega)
  have g7_0 : ∀ o, x7.frozen? ⟨w.heap.size, o, none⟩ = _ := fun o => hb7.frozen (p := ⟨w.heap.size, o, none⟩) (by simp only [World.size_alloc, World.size_setCell, World.size_drew] <;> omega)
  have f7_0 : w.heap.size < x7.heap.size := by omega
  have c7_1 : ∀ o, x7.cell? ⟨w.heap.size + 1, o, none⟩ = _ := fun o => hb7.cell (p := ⟨w.heap.size + 1, o, none⟩) (by simp only [World.size_alloc, World.size_setCell, World.size_drew] <;> omega)
  have g7_1 : ∀ o, x7.frozen? ⟨w.heap.size + 1, o, none⟩ = _ := fun o => hb7.frozen (p := ⟨w.heap.size + 1, o, none⟩) (by simp only [World.size_alloc, World.size_setCell, World.size_drew] <;> omega)
  have f7_1 : w.heap.size + 1 < x7.heap.size := by omega
  have c7_2 : ∀ o, x7.cell? ⟨x4.heap.size, o, none⟩ = _ := fun o => hb7.cell (p := ⟨x4.heap.size, o, none⟩) (by simp only [World.size_alloc, World.size_setCell, World.size_drew] <;> omega)
  have g7_2 : ∀ o, x7.frozen? ⟨x4.heap.size, o, none⟩ = _ := fun o => hb7.frozen (p := ⟨x4.heap.size, o, none⟩) (by simp only [World.size_alloc, World.size_setCell, World.size_drew] <;> omega)
  have f7_2 : x4.heap.size < x7.heap.size := by omega
  have c7_3 : ∀ o, x7.cell? ⟨x5.heap.size, o, none⟩ = _ := fun o => hb7.cell (p := ⟨x5.heap.size, o, none⟩) (by simp only [World.size_alloc, World.size_setCell, World.size_drew] <;> omega)
  have g7_3 : ∀ o, x7.frozen? ⟨x5.heap.size, o, none⟩ = _ := fun o => hb7.frozen (p := ⟨x5.heap.size, o, none⟩) (by simp only [World.size_alloc, World.size_setCell, World.size_drew] <;> omega)
  have f7_3 : x5.heap.size < x7.heap.size := by omega
  go_wp2
  go_ret
  exact ⟨rfl, by (repeat (first | with_reducible exact Below.refl _ _ | with_reducible assumption | with_reducible refine Below.drew ?_ | with_reducible refine bl_drewN ?_ | (with_reducible refine bl_alloc ?_ ?_; · (first | omega | (simp; done) | (simp; omega))) | (with_reducible refine bl_set ?_ ?_; · (first | omega | (simp; done) | (simp; omega))) | (with_reducible refine bl_trans hb7 ?_ ?_; · (first | omega | (simp; done) | (simp; omega))) | (with_reducible refine bl_trans hb6 ?_ ?_; · (first | omega | (simp; done) | (simp; omega))) | (with_reducible refine bl_trans hb5 ?_ ?_; · (first | omega | (simp; done) | (simp; omega))) | (with_reducible refine bl_trans hb4 ?_ ?_; · (first | omega | (simp; done) | (simp; omega))) | (with_reducible refine bl_trans hb3 ?_ ?_; · (first | omega | (simp; done) | (simp; omega))) | (with_reducible refine bl_trans hb2 ?_ ?_; · (first | omega | (simp; done) | (simp; omega))) | (with_reducible refine bl_trans hb1 ?_ ?_; · (first | omega | (simp; done) | (simp; omega)))))⟩

set_option maxHeartbeats 8000000 in
theorem resBack_66 (a0 a1 a2 b0 b1 b2 : Int) (w : World) (ra : rightB a0 a1 a2 = true) (rb : rightB b0 b1 b2 = true) (hp : rightB (a0 + 1 * b0) (a1 + 1 * b1) (a2 + 1 * b2) = false) (hm : rightB (a0 + -1 * b0) (a1 + -1 * b1) (a2 + -1 * b2) = false) :
    Calls Try.prog 4 #[rv a0 a1 a2, rv b0 b1 b2] w fun e w' => e = .returned (.bool true) ∧ Below w.heap.size w w' := by
  obtain ⟨_, _, _, _, _, _⟩ := right_out ra
  obtain ⟨_, _, _, _, _, _⟩ := right_out rb
  have h1 := addV_6 ra rb hp
  have h3 := addV_6 ra rb hm
  have f3 : fitsB b0 b1 b2 a0 a1 a2 = false := by
    unfold fitsB; rw [decide_eq_false_iff_not]; intro hf
    have : rightB (a0 + -1 * b0) (a1 + -1 * b1) (a2 + -1 * b2) = true := right_mk (by omega)
    rw [hm] at this; cases this
  have e1 := eq3 a0 a1 a2 a0 a1 a2
  simp only [beq_self_eq_true, Bool.and_self] at e1
  clear hp hm
  go_enter Try.func4, Try.ntmps4
  go_wp2_with fail
  with_reducible refine awake_k (fun x1 hb1 => ?_)
  try dsimp only
  have hz1 := hb1.size; (try simp only [World.size_alloc, World.size_setCell, World.size_drew] at hz1)
  have c1_0 : ∀ o, x1.cell? ⟨w.heap.size, o, none⟩ = _ := fun o => hb1.cell (p := ⟨w.heap.size, o, none⟩) (by simp only [World.size_alloc, World.size_setCell, World.size_drew] <;> omega)
  have g1_0 : ∀ o, x1.frozen? ⟨w.heap.size, o, none⟩ = _ := fun o => hb1.frozen (p := ⟨w.heap.size, o, none⟩) (by simp only [World.size_alloc, World.size_setCell, World.size_drew] <;> omega)
  have f1_0 : w.heap.size < x1.heap.size := by omega
  have c1_1 : ∀ o, x1.cell? ⟨w.heap.size + 1, o, none⟩ = _ := fun o => hb1.cell (p := ⟨w.heap.size + 1, o, none⟩) (by simp only [World.size_alloc, World.size_setCell, World.size_drew] <;> omega)
  have g1_1 : ∀ o, x1.frozen? ⟨w.heap.size + 1, o, none⟩ = _ := fun o => hb1.frozen (p := ⟨w.heap.size + 1, o, none⟩) (by simp only [World.size_alloc, World.size_setCell, World.size_drew] <;> omega)
  have f1_1 : w.heap.size + 1 < x1.heap.size := by omega
  go_wp2_with fail
  with_reducible refine right_k (by assumption) (fun x2 hb2 => ?_)
  try dsimp only
  have hz2 := hb2.size; (try simp only [World.size_alloc, World.size_setCell, World.size_drew] at hz2)
  have c2_0 : ∀ o, x2.cell? ⟨w.heap.size, o, none⟩ = _ := fun o => hb2.cell (p := ⟨w.heap.size, o, none⟩) (by simp only [World.size_alloc, World.size_setCell, World.size_drew] <;> omega)
  have g2_0 : ∀ o, x2.frozen? ⟨w.heap.size, o, none⟩ = _ := fun o => hb2.frozen (p := ⟨w.heap.size, o, none⟩) (by simp only [World.size_alloc, World.size_setCell, World.size_drew] <;> omega)
  have f2_0 : w.heap.size < x2.heap.size := by omega
  have c2_1 : ∀ o, x2.cell? ⟨w.heap.size + 1, o, none⟩ = _ := fun o => hb2.cell (p := ⟨w.heap.size + 1, o, none⟩) (by simp only [World.size_alloc, World.size_setCell, World.size_drew] <;> omega)
  have g2_1 : ∀ o, x2.frozen? ⟨w.heap.size + 1, o, none⟩ = _ := fun o => hb2.frozen (p := ⟨w.heap.size + 1, o, none⟩) (by simp only [World.size_alloc, World.size_setCell, World.size_drew] <;> omega)
  have f2_1 : w.heap.size + 1 < x2.heap.size := by omega
  go_wp2_with fail
  with_reducible refine right_k (by assumption) (fun x3 hb3 => ?_)
  try dsimp only
  have hz3 := hb3.size; (try simp only [World.size_alloc, World.size_setCell, World.size_drew] at hz3)
  have c3_0 : ∀ o, x3.cell? ⟨w.heap.size, o, none⟩ = _ := fun o => hb3.cell (p := ⟨w.heap.size, o, none⟩) (by simp only [World.size_alloc, World.size_setCell, World.size_drew] <;> omega)
  have g3_0 : ∀ o, x3.frozen? ⟨w.heap.size, o, none⟩ = _ := fun o => hb3.frozen (p := ⟨w.heap.size, o, none⟩) (by simp only [World.size_alloc, World.size_setCell, World.size_drew] <;> omega)
  have f3_0 : w.heap.size < x3.heap.size := by omega
  have c3_1 : ∀ o, x3.cell? ⟨w.heap.size + 1, o, none⟩ = _ := fun o => hb3.cell (p := ⟨w.heap.size + 1, o, none⟩) (by simp only [World.size_alloc, World.size_setCell, World.size_drew] <;> omega)
  have g3_1 : ∀ o, x3.frozen? ⟨w.heap.size + 1, o, none⟩ = _ := fun o => hb3.frozen (p := ⟨w.heap.size + 1, o, none⟩) (by simp only [World.size_alloc, World.size_setCell, World.size_drew] <;> omega)
  have f3_1 : w.heap.size + 1 < x3.heap.size := by omega
  go_wp2_with fail
  with_reducible refine add_k (by assumption) (fun x4 hb4 => ?_)
  try dsimp only
  have hz4 := hb4.size; (try simp only [World.size_alloc, World.size_setCell, World.size_drew] at hz4)
  have c4_0 : ∀ o, x4.cell? ⟨w.heap.size, o, none⟩ = _ := fun o => hb4.cell (p := ⟨w.heap.size, o, none⟩) (by simp only [World.size_alloc, World.size_setCell, World.size_drew] <;> omega)
  have g4_0 : ∀ o, x4.frozen? ⟨w.heap.size, o, none⟩ = _ := fun o => hb4.frozen (p := ⟨w.heap.size, o, none⟩) (by simp only [World.size_alloc, World.size_setCell, World.size_drew] <;> omega)
  have f4_0 : w.heap.size < x4.heap.size := by omega
  have c4_1 : ∀ o, x4.cell? ⟨w.heap.size + 1, o, none⟩ = _ := fun o => hb4.cell (p := ⟨w.heap.size + 1, o, none⟩) (by simp only [World.size_alloc, World.size_setCell, World.size_drew] <;> omega)
  have g4_1 : ∀ o, x4.frozen? ⟨w.heap.size + 1, o, none⟩ = _ := fun o => hb4.frozen (p := ⟨w.heap.size + 1, o, none⟩) (by simp only [World.size_alloc, World.size_setCell, World.size_drew] <;> omega)
  have f4_1 : w.heap.size + 1 < x4.heap.size := by omega
  go_wp2_with fail
  with_reducible refine sub_k (by assumption) (fun x5 hb5 => ?_)
  try dsimp only
  have hz5 := hb5.size; (try simp only [World.size_alloc, World.size_setCell, World.size_drew] at hz5)
  have c5_0 : ∀ o, x5.cell? ⟨w.heap.size, o, none⟩ = _ := fun o => hb5.cell (p := ⟨w.heap.size, o, none⟩) (by simp only [World.size_alloc, World.size_setCell, World.size_drew] <;> omega)
  have g5_0 : ∀ o, x5.frozen? ⟨w.heap.size, o, none⟩ = _ := fun o => hb5.frozen (p := ⟨w.heap.size, o, none⟩) (by simp only [World.size_alloc, World.size_setCell, World.size_drew] <;> omega)
  have f5_0 : w.heap.size < x5.heap.size := by omega
  have c5_1 : ∀ o, x5.cell? ⟨w.heap.size + 1, o, none⟩ = _ := fun o => hb5.cell (p := ⟨w.heap.size + 1, o, none⟩) (by simp only [World.size_alloc, World.size_setCell, World.size_drew] <;> omega)
  have g5_1 : ∀ o, x5.frozen? ⟨w.heap.size + 1, o, none⟩ = _ := fun o => hb5.frozen (p := ⟨w.heap.size + 1, o, none⟩) (by simp only [World.size_alloc, World.size_setCell, World.size_drew] <;> omega)
  have f5_1 : w.heap.size + 1 < x5.heap.size := by omega
  have c5_2 : ∀ o, x5.cell? ⟨x4.heap.size, o, none⟩ = _ := fun o => hb5.cell (p := ⟨x4.heap.size, o, none⟩) (by simp only [World.size_alloc, World.size_setCell, World.size_drew] <;> omega)
  have g5_2 : ∀ o, x5.frozen? ⟨x4.heap.size, o, none⟩ = _ := fun o => hb5.frozen (p := ⟨x4.heap.size, o, none⟩) (by simp only [World.size_alloc, World.size_setCell, World.size_drew] <;> omega)
  have f5_2 : x4.heap.size < x5.heap.size := by omega
  go_wp2_with fail
  with_reducible refine fits_k (by assumption) (fun x6 hb6 => ?_)
  try dsimp only
  have hz6 := hb6.size; (try simp only [World.size_alloc, World.size_setCell, World.size_drew] at hz6)
  have c6_0 : ∀ o, x6.cell? ⟨w.heap.size, o, none⟩ = _ := fun o => hb6.cell (p := ⟨w.heap.size, o, none⟩) (by simp only [World.size_alloc, World.size_setCell, World.size_drew] <;> omega)
  have g6_0 : ∀ o, x6.frozen? ⟨w.heap.size, o, none⟩ = _ := fun o => hb6.frozen (p := ⟨w.heap.size, o, none⟩) (by simp only [World.size_alloc, World.size_setCell, World.size_drew] <;> omega)
  have f6_0 : w.heap.size < x6.heap.size := by omega
  have c6_1 : ∀ o, x6.cell? ⟨w.heap.size + 1, o, none⟩ = _ := fun o => hb6.cell (p := ⟨w.heap.size + 1, o, none⟩) (by simp only [World.size_alloc, World.size_setCell, World.size_drew] <;> omega)
  have g6_1 : ∀ o, x6.frozen? ⟨w.heap.size + 1, o, none⟩ = _ := fun o => hb6.frozen (p := ⟨w.heap.size + 1, o, none⟩) (by simp only [World.size_alloc, World.size_setCell, World.size_drew] <;> omega)
  have f6_1 : w.heap.size + 1 < x6.heap.size := by omega
  have c6_2 : ∀ o, x6.cell? ⟨x4.heap.size, o, none⟩ = _ := fun o => hb6.cell (p := ⟨x4.heap.size, o, none⟩) (by simp only [World.size_alloc, World.size_setCell, World.size_drew] <;> omega)
  have g6_2 : ∀ o, x6.frozen? ⟨x4.heap.size, o, none⟩ = _ := fun o => hb6.frozen (p := ⟨x4.heap.size, o, none⟩) (by simp only [World.size_alloc, World.size_setCell, World.size_drew] <;> omega)
  have f6_2 : x4.heap.size < x6.heap.size := by omega
  have c6_3 : ∀ o, x6.cell? ⟨x5.heap.size, o, none⟩ = _ := fun o => hb6.cell (p := ⟨x5.heap.size, o, none⟩) (by simp only [World.size_alloc, World.size_setCell, World.size_drew] <;> omega)
  have g6_3 : ∀ o, x6.frozen? ⟨x5.heap.size, o, none⟩ = _ := fun o => hb6.frozen (p := ⟨x5.heap.size, o, none⟩) (by simp only [World.size_alloc, World.size_setCell, World.size_drew] <;> omega)
  have f6_3 : x5.heap.size < x6.heap.size := by omega
  go_wp2
  go_ret
  exact ⟨rfl, by (repeat (first | with_reducible exact Below.refl _ _ | with_reducible assumption | with_reducible refine Below.drew ?_ | with_reducible refine bl_drewN ?_ | (with_reducible refine bl_alloc ?_ ?_; · (first | omega | (simp; done) | (simp; omega))) | (with_reducible refine bl_set ?_ ?_; · (first | omega | (simp; done) | (simp; omega))) | (with_reducible refine bl_trans hb6 ?_ ?_; · (first | omega | (simp; done) | (simp; omega))) | (with_reducible refine bl_trans hb5 ?_ ?_; · (first | omega | (simp; done) | (simp; omega))) | (with_reducible refine bl_trans hb4 ?_ ?_; · (first | omega | (simp; done) | (simp; omega))) | (with_reducible refine bl_trans hb3 ?_ ?_; · (first | omega | (simp; done) | (simp; omega))) | (with_reducible refine bl_trans hb2 ?_ ?_; · (first | omega | (simp; done) | (simp; omega))) | (with_reducible refine bl_trans hb1 ?_ ?_; · (first | omega | (simp; done) | (simp; omega)))))⟩

theorem resBack_any (a0 a1 a2 b0 b1 b2 : Int) (w : World) :
    Calls Try.prog 4 #[rv a0 a1 a2, rv b0 b1 b2] w fun e w' => e = .returned (.bool true) ∧ Below w.heap.size w w' := by
  by_cases h : rightB a0 a1 a2 = true ∧ rightB b0 b1 b2 = true
  · obtain ⟨ra, rb⟩ := h
    cases hp : rightB (a0 + 1 * b0) (a1 + 1 * b1) (a2 + 1 * b2) <;> cases hm : rightB (a0 + -1 * b0) (a1 + -1 * b1) (a2 + -1 * b2)
    · exact resBack_66 _ _ _ _ _ _ _ ra rb hp hm
    · exact resBack_60 _ _ _ _ _ _ _ ra rb hp hm
    · exact resBack_06 _ _ _ _ _ _ _ ra rb hp hm
    · exact resBack_00 _ _ _ _ _ _ _ ra rb hp hm
  · exact resBack_bad _ _ _ _ _ _ _ h
end Go.Proofs.Ytlbingogclfdbaa
