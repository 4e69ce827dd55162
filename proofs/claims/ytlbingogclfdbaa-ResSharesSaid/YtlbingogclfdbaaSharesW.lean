/- ResShares, walked. No conditions. -/
import Derived.Test.YtlbingogclfdbaaK
namespace Go.Proofs.Ytlbingogclfdbaa
open Go.RowKit Go.Lw
attribute [local go_sem] lt_p2 le_p2 lt_p3 le_p3 lt_p4 le_p4 lt_p5 le_p5 lt_p6 le_p6 lt_p7 le_p7 lt_p8 le_p8 lt_p9 le_p9 lt_p10 le_p10 lt_p11 le_p11 lt_p12 le_p12 lt_p13 le_p13 lt_p14 le_p14 lt_p15 le_p15 lt_p16 le_p16 le_c0 le_c1 lt_c2 le_c2 lt_c3 le_c3 lt_c4 le_c4 lt_c5 le_c5 lt_c6 le_c6 lt_c7 le_c7 lt_c8 le_c8 lt_c9 le_c9 lt_c10 le_c10 lt_c11 le_c11 lt_c12 le_c12 lt_c13 le_c13 lt_c14 le_c14 lt_c15 le_c15 lt_c16 le_c16 cell_set uponV_value uponV_skip uponV_enter
set_option linter.unusedVariables false
set_option linter.unusedSimpArgs false

set_option maxHeartbeats 4000000 in
theorem sh_a (a0 a1 a2 b0 b1 b2 d0 d1 d2 : Int) (w : World) (ra : rightB a0 a1 a2 = false) (hs : shareI a0 a1 a2 d0 d1 d2 = 0) :
    Calls Try.prog 7 #[rv a0 a1 a2, rv b0 b1 b2, rv d0 d1 d2] w fun e w' => e = .returned (.bool true) ∧ Below w.heap.size w w' := by
  go_enter Try.func7, Try.ntmps7
  go_wp2_with fail
  with_reducible refine awake_k (fun x1 hb1 => ?_)
  try dsimp only
  have hz1 := hb1.size; (try simp only [World.size_alloc, World.size_setCell, World.size_drew] at hz1)
  have c1_0 : ∀ o, x1.cell? ⟨w.heap.size, o, none⟩ = _ := fun o => hb1.cell (p := ⟨w.heap.size, o, none⟩) (by simp only [World.size_alloc, World.size_setCell, World.size_drew] <;> omega)
  have g1_0 : ∀ o, x1.frozen? ⟨w.heap.size, o, none⟩ = _ := fun o => hb1.frozen (p := ⟨w.heap.size, o, none⟩) (by simp only [World.size_alloc, World.size_setCell, World.size_drew] <;> omega)
  have f1_0 : w.heap.size < x1.heap.size := by omega
  have c1_1 : ∀ o, x1.cell? ⟨w.heap.size + 1, o, none⟩ = _ := fun o => hb1.cell (p := ⟨w.heap.size + 1, o, none⟩) (by simp only [World.size_alloc, World.size_setCell, World.size_drew] <;> omega)
  have g1_1 : ∀ o, x1.frozen? ⟨w.heap.size + 1, o, none⟩ = _ := fun o => hb1.frozen (p := ⟨w.heap.size + 1, o, none⟩) (by simp only [World.size_alloc, World.size_setCell, World.size_drew] <;> omega)
  have f1_1 : w.heap.size + 1 < x1.heap.size := by omega
  have c1_2 : ∀ o, x1.cell? ⟨w.heap.size + 1 + 1, o, none⟩ = _ := fun o => hb1.cell (p := ⟨w.heap.size + 1 + 1, o, none⟩) (by simp only [World.size_alloc, World.size_setCell, World.size_drew] <;> omega)
  have g1_2 : ∀ o, x1.frozen? ⟨w.heap.size + 1 + 1, o, none⟩ = _ := fun o => hb1.frozen (p := ⟨w.heap.size + 1 + 1, o, none⟩) (by simp only [World.size_alloc, World.size_setCell, World.size_drew] <;> omega)
  have f1_2 : w.heap.size + 1 + 1 < x1.heap.size := by omega
  go_wp2_with fail
  with_reducible refine right_k (by assumption) (fun x2 hb2 => ?_)
  try dsimp only
  have hz2 := hb2.size; (try simp only [World.size_alloc, World.size_setCell, World.size_drew] at hz2)
  have c2_0 : ∀ o, x2.cell? ⟨w.heap.size, o, none⟩ = _ := fun o => hb2.cell (p := ⟨w.heap.size, o, none⟩) (by simp only [World.size_alloc, World.size_setCell, World.size_drew] <;> omega)
  have g2_0 : ∀ o, x2.frozen? ⟨w.heap.size, o, none⟩ = _ := fun o => hb2.frozen (p := ⟨w.heap.size, o, none⟩) (by simp only [World.size_alloc, World.size_setCell, World.size_drew] <;> omega)
  have f2_0 : w.heap.size < x2.heap.size := by omega
  have c2_1 : ∀ o, x2.cell? ⟨w.heap.size + 1, o, none⟩ = _ := fun o => hb2.cell (p := ⟨w.heap.size + 1, o, none⟩) (by simp only [World.size_alloc, World.size_setCell, World.size_drew] <;> omega)
  have g2_1 : ∀ o, x2.frozen? ⟨w.heap.size + 1, o, none⟩ = _ := fun o => hb2.frozen (p := ⟨w.heap.size + 1, o, none⟩) (by simp only [World.size_alloc, World.size_setCell, World.size_drew] <;> omega)
  have f2_1 : w.heap.size + 1 < x2.heap.size := by omega
  have c2_2 : ∀ o, x2.cell? ⟨w.heap.size + 1 + 1, o, none⟩ = _ := fun o => hb2.cell (p := ⟨w.heap.size + 1 + 1, o, none⟩) (by simp only [World.size_alloc, World.size_setCell, World.size_drew] <;> omega)
  have g2_2 : ∀ o, x2.frozen? ⟨w.heap.size + 1 + 1, o, none⟩ = _ := fun o => hb2.frozen (p := ⟨w.heap.size + 1 + 1, o, none⟩) (by simp only [World.size_alloc, World.size_setCell, World.size_drew] <;> omega)
  have f2_2 : w.heap.size + 1 + 1 < x2.heap.size := by omega
  go_wp2_with fail
  with_reducible refine right_k (by assumption) (fun x3 hb3 => ?_)
  try dsimp only
  have hz3 := hb3.size; (try simp only [World.size_alloc, World.size_setCell, World.size_drew] at hz3)
  have c3_0 : ∀ o, x3.cell? ⟨w.heap.size, o, none⟩ = _ := fun o => hb3.cell (p := ⟨w.heap.size, o, none⟩) (by simp only [World.size_alloc, World.size_setCell, World.size_drew] <;> omega)
  have g3_0 : ∀ o, x3.frozen? ⟨w.heap.size, o, none⟩ = _ := fun o => hb3.frozen (p := ⟨w.heap.size, o, none⟩) (by simp only [World.size_alloc, World.size_setCell, World.size_drew] <;> omega)
  have f3_0 : w.heap.size < x3.heap.size := by omega
  have c3_1 : ∀ o, x3.cell? ⟨w.heap.size + 1, o, none⟩ = _ := fun o => hb3.cell (p := ⟨w.heap.size + 1, o, none⟩) (by simp only [World.size_alloc, World.size_setCell, World.size_drew] <;> omega)
  have g3_1 : ∀ o, x3.frozen? ⟨w.heap.size + 1, o, none⟩ = _ := fun o => hb3.frozen (p := ⟨w.heap.size + 1, o, none⟩) (by simp only [World.size_alloc, World.size_setCell, World.size_drew] <;> omega)
  have f3_1 : w.heap.size + 1 < x3.heap.size := by omega
  have c3_2 : ∀ o, x3.cell? ⟨w.heap.size + 1 + 1, o, none⟩ = _ := fun o => hb3.cell (p := ⟨w.heap.size + 1 + 1, o, none⟩) (by simp only [World.size_alloc, World.size_setCell, World.size_drew] <;> omega)
  have g3_2 : ∀ o, x3.frozen? ⟨w.heap.size + 1 + 1, o, none⟩ = _ := fun o => hb3.frozen (p := ⟨w.heap.size + 1 + 1, o, none⟩) (by simp only [World.size_alloc, World.size_setCell, World.size_drew] <;> omega)
  have f3_2 : w.heap.size + 1 + 1 < x3.heap.size := by omega
  go_wp2_with fail
  with_reducible refine share_k (by assumption) (fun x4 hb4 => ?_)
  try dsimp only
  have hz4 := hb4.size; (try simp only [World.size_alloc, World.size_setCell, World.size_drew] at hz4)
  have c4_0 : ∀ o, x4.cell? ⟨w.heap.size, o, none⟩ = _ := fun o => hb4.cell (p := ⟨w.heap.size, o, none⟩) (by simp only [World.size_alloc, World.size_setCell, World.size_drew] <;> omega)
  have g4_0 : ∀ o, x4.frozen? ⟨w.heap.size, o, none⟩ = _ := fun o => hb4.frozen (p := ⟨w.heap.size, o, none⟩) (by simp only [World.size_alloc, World.size_setCell, World.size_drew] <;> omega)
  have f4_0 : w.heap.size < x4.heap.size := by omega
  have c4_1 : ∀ o, x4.cell? ⟨w.heap.size + 1, o, none⟩ = _ := fun o => hb4.cell (p := ⟨w.heap.size + 1, o, none⟩) (by simp only [World.size_alloc, World.size_setCell, World.size_drew] <;> omega)
  have g4_1 : ∀ o, x4.frozen? ⟨w.heap.size + 1, o, none⟩ = _ := fun o => hb4.frozen (p := ⟨w.heap.size + 1, o, none⟩) (by simp only [World.size_alloc, World.size_setCell, World.size_drew] <;> omega)
  have f4_1 : w.heap.size + 1 < x4.heap.size := by omega
  have c4_2 : ∀ o, x4.cell? ⟨w.heap.size + 1 + 1, o, none⟩ = _ := fun o => hb4.cell (p := ⟨w.heap.size + 1 + 1, o, none⟩) (by simp only [World.size_alloc, World.size_setCell, World.size_drew] <;> omega)
  have g4_2 : ∀ o, x4.frozen? ⟨w.heap.size + 1 + 1, o, none⟩ = _ := fun o => hb4.frozen (p := ⟨w.heap.size + 1 + 1, o, none⟩) (by simp only [World.size_alloc, World.size_setCell, World.size_drew] <;> omega)
  have f4_2 : w.heap.size + 1 + 1 < x4.heap.size := by omega
  go_wp2
  go_ret
  exact ⟨rfl, by (repeat (first | with_reducible exact Below.refl _ _ | with_reducible assumption | with_reducible refine Below.drew ?_ | with_reducible refine bl_drewN ?_ | (with_reducible refine bl_alloc ?_ ?_; · (first | omega | (simp; done) | (simp; omega))) | (with_reducible refine bl_set ?_ ?_; · (first | omega | (simp; done) | (simp; omega))) | (with_reducible refine bl_trans hb4 ?_ ?_; · (first | omega | (simp; done) | (simp; omega))) | (with_reducible refine bl_trans hb3 ?_ ?_; · (first | omega | (simp; done) | (simp; omega))) | (with_reducible refine bl_trans hb2 ?_ ?_; · (first | omega | (simp; done) | (simp; omega))) | (with_reducible refine bl_trans hb1 ?_ ?_; · (first | omega | (simp; done) | (simp; omega)))))⟩

set_option maxHeartbeats 4000000 in
theorem sh_b1 (a0 a1 a2 b0 b1 b2 d0 d1 d2 : Int) (w : World) (ra : rightB a0 a1 a2 = true) (rb : rightB b0 b1 b2 = false) (rd : rightB d0 d1 d2 = true) :
    Calls Try.prog 7 #[rv a0 a1 a2, rv b0 b1 b2, rv d0 d1 d2] w fun e w' => e = .returned (.bool true) ∧ Below w.heap.size w w' := by
  go_enter Try.func7, Try.ntmps7
  go_wp2_with fail
  with_reducible refine awake_k (fun x1 hb1 => ?_)
  try dsimp only
  have hz1 := hb1.size; (try simp only [World.size_alloc, World.size_setCell, World.size_drew] at hz1)
  have c1_0 : ∀ o, x1.cell? ⟨w.heap.size, o, none⟩ = _ := fun o => hb1.cell (p := ⟨w.heap.size, o, none⟩) (by simp only [World.size_alloc, World.size_setCell, World.size_drew] <;> omega)
  have g1_0 : ∀ o, x1.frozen? ⟨w.heap.size, o, none⟩ = _ := fun o => hb1.frozen (p := ⟨w.heap.size, o, none⟩) (by simp only [World.size_alloc, World.size_setCell, World.size_drew] <;> omega)
  have f1_0 : w.heap.size < x1.heap.size := by omega
  have c1_1 : ∀ o, x1.cell? ⟨w.heap.size + 1, o, none⟩ = _ := fun o => hb1.cell (p := ⟨w.heap.size + 1, o, none⟩) (by simp only [World.size_alloc, World.size_setCell, World.size_drew] <;> omega)
  have g1_1 : ∀ o, x1.frozen? ⟨w.heap.size + 1, o, none⟩ = _ := fun o => hb1.frozen (p := ⟨w.heap.size + 1, o, none⟩) (by simp only [World.size_alloc, World.size_setCell, World.size_drew] <;> omega)
  have f1_1 : w.heap.size + 1 < x1.heap.size := by omega
  have c1_2 : ∀ o, x1.cell? ⟨w.heap.size + 1 + 1, o, none⟩ = _ := fun o => hb1.cell (p := ⟨w.heap.size + 1 + 1, o, none⟩) (by simp only [World.size_alloc, World.size_setCell, World.size_drew] <;> omega)
  have g1_2 : ∀ o, x1.frozen? ⟨w.heap.size + 1 + 1, o, none⟩ = _ := fun o => hb1.frozen (p := ⟨w.heap.size + 1 + 1, o, none⟩) (by simp only [World.size_alloc, World.size_setCell, World.size_drew] <;> omega)
  have f1_2 : w.heap.size + 1 + 1 < x1.heap.size := by omega
  go_wp2_with fail
  with_reducible refine right_k (by assumption) (fun x2 hb2 => ?_)
  try dsimp only
  have hz2 := hb2.size; (try simp only [World.size_alloc, World.size_setCell, World.size_drew] at hz2)
  have c2_0 : ∀ o, x2.cell? ⟨w.heap.size, o, none⟩ = _ := fun o => hb2.cell (p := ⟨w.heap.size, o, none⟩) (by simp only [World.size_alloc, World.size_setCell, World.size_drew] <;> omega)
  have g2_0 : ∀ o, x2.frozen? ⟨w.heap.size, o, none⟩ = _ := fun o => hb2.frozen (p := ⟨w.heap.size, o, none⟩) (by simp only [World.size_alloc, World.size_setCell, World.size_drew] <;> omega)
  have f2_0 : w.heap.size < x2.heap.size := by omega
  have c2_1 : ∀ o, x2.cell? ⟨w.heap.size + 1, o, none⟩ = _ := fun o => hb2.cell (p := ⟨w.heap.size + 1, o, none⟩) (by simp only [World.size_alloc, World.size_setCell, World.size_drew] <;> omega)
  have g2_1 : ∀ o, x2.frozen? ⟨w.heap.size + 1, o, none⟩ = _ := fun o => hb2.frozen (p := ⟨w.heap.size + 1, o, none⟩) (by simp only [World.size_alloc, World.size_setCell, World.size_drew] <;> omega)
  have f2_1 : w.heap.size + 1 < x2.heap.size := by omega
  have c2_2 : ∀ o, x2.cell? ⟨w.heap.size + 1 + 1, o, none⟩ = _ := fun o => hb2.cell (p := ⟨w.heap.size + 1 + 1, o, none⟩) (by simp only [World.size_alloc, World.size_setCell, World.size_drew] <;> omega)
  have g2_2 : ∀ o, x2.frozen? ⟨w.heap.size + 1 + 1, o, none⟩ = _ := fun o => hb2.frozen (p := ⟨w.heap.size + 1 + 1, o, none⟩) (by simp only [World.size_alloc, World.size_setCell, World.size_drew] <;> omega)
  have f2_2 : w.heap.size + 1 + 1 < x2.heap.size := by omega
  go_wp2_with fail
  with_reducible refine right_k (by assumption) (fun x3 hb3 => ?_)
  try dsimp only
  have hz3 := hb3.size; (try simp only [World.size_alloc, World.size_setCell, World.size_drew] at hz3)
  have c3_0 : ∀ o, x3.cell? ⟨w.heap.size, o, none⟩ = _ := fun o => hb3.cell (p := ⟨w.heap.size, o, none⟩) (by simp only [World.size_alloc, World.size_setCell, World.size_drew] <;> omega)
  have g3_0 : ∀ o, x3.frozen? ⟨w.heap.size, o, none⟩ = _ := fun o => hb3.frozen (p := ⟨w.heap.size, o, none⟩) (by simp only [World.size_alloc, World.size_setCell, World.size_drew] <;> omega)
  have f3_0 : w.heap.size < x3.heap.size := by omega
  have c3_1 : ∀ o, x3.cell? ⟨w.heap.size + 1, o, none⟩ = _ := fun o => hb3.cell (p := ⟨w.heap.size + 1, o, none⟩) (by simp only [World.size_alloc, World.size_setCell, World.size_drew] <;> omega)
  have g3_1 : ∀ o, x3.frozen? ⟨w.heap.size + 1, o, none⟩ = _ := fun o => hb3.frozen (p := ⟨w.heap.size + 1, o, none⟩) (by simp only [World.size_alloc, World.size_setCell, World.size_drew] <;> omega)
  have f3_1 : w.heap.size + 1 < x3.heap.size := by omega
  have c3_2 : ∀ o, x3.cell? ⟨w.heap.size + 1 + 1, o, none⟩ = _ := fun o => hb3.cell (p := ⟨w.heap.size + 1 + 1, o, none⟩) (by simp only [World.size_alloc, World.size_setCell, World.size_drew] <;> omega)
  have g3_2 : ∀ o, x3.frozen? ⟨w.heap.size + 1 + 1, o, none⟩ = _ := fun o => hb3.frozen (p := ⟨w.heap.size + 1 + 1, o, none⟩) (by simp only [World.size_alloc, World.size_setCell, World.size_drew] <;> omega)
  have f3_2 : w.heap.size + 1 + 1 < x3.heap.size := by omega
  go_wp2_with fail
  with_reducible refine right_k (by assumption) (fun x4 hb4 => ?_)
  try dsimp only
  have hz4 := hb4.size; (try simp only [World.size_alloc, World.size_setCell, World.size_drew] at hz4)
  have c4_0 : ∀ o, x4.cell? ⟨w.heap.size, o, none⟩ = _ := fun o => hb4.cell (p := ⟨w.heap.size, o, none⟩) (by simp only [World.size_alloc, World.size_setCell, World.size_drew] <;> omega)
  have g4_0 : ∀ o, x4.frozen? ⟨w.heap.size, o, none⟩ = _ := fun o => hb4.frozen (p := ⟨w.heap.size, o, none⟩) (by simp only [World.size_alloc, World.size_setCell, World.size_drew] <;> omega)
  have f4_0 : w.heap.size < x4.heap.size := by omega
  have c4_1 : ∀ o, x4.cell? ⟨w.heap.size + 1, o, none⟩ = _ := fun o => hb4.cell (p := ⟨w.heap.size + 1, o, none⟩) (by simp only [World.size_alloc, World.size_setCell, World.size_drew] <;> omega)
  have g4_1 : ∀ o, x4.frozen? ⟨w.heap.size + 1, o, none⟩ = _ := fun o => hb4.frozen (p := ⟨w.heap.size + 1, o, none⟩) (by simp only [World.size_alloc, World.size_setCell, World.size_drew] <;> omega)
  have f4_1 : w.heap.size + 1 < x4.heap.size := by omega
  have c4_2 : ∀ o, x4.cell? ⟨w.heap.size + 1 + 1, o, none⟩ = _ := fun o => hb4.cell (p := ⟨w.heap.size + 1 + 1, o, none⟩) (by simp only [World.size_alloc, World.size_setCell, World.size_drew] <;> omega)
  have g4_2 : ∀ o, x4.frozen? ⟨w.heap.size + 1 + 1, o, none⟩ = _ := fun o => hb4.frozen (p := ⟨w.heap.size + 1 + 1, o, none⟩) (by simp only [World.size_alloc, World.size_setCell, World.size_drew] <;> omega)
  have f4_2 : w.heap.size + 1 + 1 < x4.heap.size := by omega
  go_wp2_with fail
  with_reducible refine right_k (by assumption) (fun x5 hb5 => ?_)
  try dsimp only
  have hz5 := hb5.size; (try simp only [World.size_alloc, World.size_setCell, World.size_drew] at hz5)
  have c5_0 : ∀ o, x5.cell? ⟨w.heap.size, o, none⟩ = _ := fun o => hb5.cell (p := ⟨w.heap.size, o, none⟩) (by simp only [World.size_alloc, World.size_setCell, World.size_drew] <;> omega)
  have g5_0 : ∀ o, x5.frozen? ⟨w.heap.size, o, none⟩ = _ := fun o => hb5.frozen (p := ⟨w.heap.size, o, none⟩) (by simp only [World.size_alloc, World.size_setCell, World.size_drew] <;> omega)
  have f5_0 : w.heap.size < x5.heap.size := by omega
  have c5_1 : ∀ o, x5.cell? ⟨w.heap.size + 1, o, none⟩ = _ := fun o => hb5.cell (p := ⟨w.heap.size + 1, o, none⟩) (by simp only [World.size_alloc, World.size_setCell, World.size_drew] <;> omega)
  have g5_1 : ∀ o, x5.frozen? ⟨w.heap.size + 1, o, none⟩ = _ := fun o => hb5.frozen (p := ⟨w.heap.size + 1, o, none⟩) (by simp only [World.size_alloc, World.size_setCell, World.size_drew] <;> omega)
  have f5_1 : w.heap.size + 1 < x5.heap.size := by omega
  have c5_2 : ∀ o, x5.cell? ⟨w.heap.size + 1 + 1, o, none⟩ = _ := fun o => hb5.cell (p := ⟨w.heap.size + 1 + 1, o, none⟩) (by simp only [World.size_alloc, World.size_setCell, World.size_drew] <;> omega)
  have g5_2 : ∀ o, x5.frozen? ⟨w.heap.size + 1 + 1, o, none⟩ = _ := fun o => hb5.frozen (p := ⟨w.heap.size + 1 + 1, o, none⟩) (by simp only [World.size_alloc, World.size_setCell, World.size_drew] <;> omega)
  have f5_2 : w.heap.size + 1 + 1 < x5.heap.size := by omega
  go_wp2
  go_ret
  exact ⟨rfl, by (repeat (first | with_reducible exact Below.refl _ _ | with_reducible assumption | with_reducible refine Below.drew ?_ | with_reducible refine bl_drewN ?_ | (with_reducible refine bl_alloc ?_ ?_; · (first | omega | (simp; done) | (simp; omega))) | (with_reducible refine bl_set ?_ ?_; · (first | omega | (simp; done) | (simp; omega))) | (with_reducible refine bl_trans hb5 ?_ ?_; · (first | omega | (simp; done) | (simp; omega))) | (with_reducible refine bl_trans hb4 ?_ ?_; · (first | omega | (simp; done) | (simp; omega))) | (with_reducible refine bl_trans hb3 ?_ ?_; · (first | omega | (simp; done) | (simp; omega))) | (with_reducible refine bl_trans hb2 ?_ ?_; · (first | omega | (simp; done) | (simp; omega))) | (with_reducible refine bl_trans hb1 ?_ ?_; · (first | omega | (simp; done) | (simp; omega)))))⟩

set_option maxHeartbeats 4000000 in
theorem sh_b0 (a0 a1 a2 b0 b1 b2 d0 d1 d2 : Int) (w : World) (ra : rightB a0 a1 a2 = true) (rb : rightB b0 b1 b2 = false) (rd : rightB d0 d1 d2 = false) (hs : shareI a0 a1 a2 d0 d1 d2 = 0) :
    Calls Try.prog 7 #[rv a0 a1 a2, rv b0 b1 b2, rv d0 d1 d2] w fun e w' => e = .returned (.bool true) ∧ Below w.heap.size w w' := by
  go_enter Try.func7, Try.ntmps7
  go_wp2_with fail
  with_reducible refine awake_k (fun x1 hb1 => ?_)
  try dsimp only
  have hz1 := hb1.size; (try simp only [World.size_alloc, World.size_setCell, World.size_drew] at hz1)
  have c1_0 : ∀ o, x1.cell? ⟨w.heap.size, o, none⟩ = _ := fun o => hb1.cell (p := ⟨w.heap.size, o, none⟩) (by simp only [World.size_alloc, World.size_setCell, World.size_drew] <;> omega)
  have g1_0 : ∀ o, x1.frozen? ⟨w.heap.size, o, none⟩ = _ := fun o => hb1.frozen (p := ⟨w.heap.size, o, none⟩) (by simp only [World.size_alloc, World.size_setCell, World.size_drew] <;> omega)
  have f1_0 : w.heap.size < x1.heap.size := by omega
  have c1_1 : ∀ o, x1.cell? ⟨w.heap.size + 1, o, none⟩ = _ := fun o => hb1.cell (p := ⟨w.heap.size + 1, o, none⟩) (by simp only [World.size_alloc, World.size_setCell, World.size_drew] <;> omega)
  have g1_1 : ∀ o, x1.frozen? ⟨w.heap.size + 1, o, none⟩ = _ := fun o => hb1.frozen (p := ⟨w.heap.size + 1, o, none⟩) (by simp only [World.size_alloc, World.size_setCell, World.size_drew] <;> omega)
  have f1_1 : w.heap.size + 1 < x1.heap.size := by omega
  have c1_2 : ∀ o, x1.cell? ⟨w.heap.size + 1 + 1, o, none⟩ = _ := fun o => hb1.cell (p := ⟨w.heap.size + 1 + 1, o, none⟩) (by simp only [World.size_alloc, World.size_setCell, World.size_drew] <;> omega)
  have g1_2 : ∀ o, x1.frozen? ⟨w.heap.size + 1 + 1, o, none⟩ = _ := fun o => hb1.frozen (p := ⟨w.heap.size + 1 + 1, o, none⟩) (by simp only [World.size_alloc, World.size_setCell, World.size_drew] <;> omega)
  have f1_2 : w.heap.size + 1 + 1 < x1.heap.size := by omega
  go_wp2_with fail
  with_reducible refine right_k (by assumption) (fun x2 hb2 => ?_)
  try dsimp only
  have hz2 := hb2.size; (try simp only [World.size_alloc, World.size_setCell, World.size_drew] at hz2)
  have c2_0 : ∀ o, x2.cell? ⟨w.heap.size, o, none⟩ = _ := fun o => hb2.cell (p := ⟨w.heap.size, o, none⟩) (by simp only [World.size_alloc, World.size_setCell, World.size_drew] <;> omega)
  have g2_0 : ∀ o, x2.frozen? ⟨w.heap.size, o, none⟩ = _ := fun o => hb2.frozen (p := ⟨w.heap.size, o, none⟩) (by simp only [World.size_alloc, World.size_setCell, World.size_drew] <;> omega)
  have f2_0 : w.heap.size < x2.heap.size := by omega
  have c2_1 : ∀ o, x2.cell? ⟨w.heap.size + 1, o, none⟩ = _ := fun o => hb2.cell (p := ⟨w.heap.size + 1, o, none⟩) (by simp only [World.size_alloc, World.size_setCell, World.size_drew] <;> omega)
  have g2_1 : ∀ o, x2.frozen? ⟨w.heap.size + 1, o, none⟩ = _ := fun o => hb2.frozen (p := ⟨w.heap.size + 1, o, none⟩) (by simp only [World.size_alloc, World.size_setCell, World.size_drew] <;> omega)
  have f2_1 : w.heap.size + 1 < x2.heap.size := by omega
  have c2_2 : ∀ o, x2.cell? ⟨w.heap.size + 1 + 1, o, none⟩ = _ := fun o => hb2.cell (p := ⟨w.heap.size + 1 + 1, o, none⟩) (by simp only [World.size_alloc, World.size_setCell, World.size_drew] <;> omega)
  have g2_2 : ∀ o, x2.frozen? ⟨w.heap.size + 1 + 1, o, none⟩ = _ := fun o => hb2.frozen (p := ⟨w.heap.size + 1 + 1, o, none⟩) (by simp only [World.size_alloc, World.size_setCell, World.size_drew] <;> omega)
  have f2_2 : w.heap.size + 1 + 1 < x2.heap.size := by omega
  go_wp2_with fail
  with_reducible refine right_k (by assumption) (fun x3 hb3 => ?_)
  try dsimp only
  have hz3 := hb3.size; (try simp only [World.size_alloc, World.size_setCell, World.size_drew] at hz3)
  have c3_0 : ∀ o, x3.cell? ⟨w.heap.size, o, none⟩ = _ := fun o => hb3.cell (p := ⟨w.heap.size, o, none⟩) (by simp only [World.size_alloc, World.size_setCell, World.size_drew] <;> omega)
  have g3_0 : ∀ o, x3.frozen? ⟨w.heap.size, o, none⟩ = _ := fun o => hb3.frozen (p := ⟨w.heap.size, o, none⟩) (by simp only [World.size_alloc, World.size_setCell, World.size_drew] <;> omega)
  have f3_0 : w.heap.size < x3.heap.size := by omega
  have c3_1 : ∀ o, x3.cell? ⟨w.heap.size + 1, o, none⟩ = _ := fun o => hb3.cell (p := ⟨w.heap.size + 1, o, none⟩) (by simp only [World.size_alloc, World.size_setCell, World.size_drew] <;> omega)
  have g3_1 : ∀ o, x3.frozen? ⟨w.heap.size + 1, o, none⟩ = _ := fun o => hb3.frozen (p := ⟨w.heap.size + 1, o, none⟩) (by simp only [World.size_alloc, World.size_setCell, World.size_drew] <;> omega)
  have f3_1 : w.heap.size + 1 < x3.heap.size := by omega
  have c3_2 : ∀ o, x3.cell? ⟨w.heap.size + 1 + 1, o, none⟩ = _ := fun o => hb3.cell (p := ⟨w.heap.size + 1 + 1, o, none⟩) (by simp only [World.size_alloc, World.size_setCell, World.size_drew] <;> omega)
  have g3_2 : ∀ o, x3.frozen? ⟨w.heap.size + 1 + 1, o, none⟩ = _ := fun o => hb3.frozen (p := ⟨w.heap.size + 1 + 1, o, none⟩) (by simp only [World.size_alloc, World.size_setCell, World.size_drew] <;> omega)
  have f3_2 : w.heap.size + 1 + 1 < x3.heap.size := by omega
  go_wp2_with fail
  with_reducible refine right_k (by assumption) (fun x4 hb4 => ?_)
  try dsimp only
  have hz4 := hb4.size; (try simp only [World.size_alloc, World.size_setCell, World.size_drew] at hz4)
  have c4_0 : ∀ o, x4.cell? ⟨w.heap.size, o, none⟩ = _ := fun o => hb4.cell (p := ⟨w.heap.size, o, none⟩) (by simp only [World.size_alloc, World.size_setCell, World.size_drew] <;> omega)
  have g4_0 : ∀ o, x4.frozen? ⟨w.heap.size, o, none⟩ = _ := fun o => hb4.frozen (p := ⟨w.heap.size, o, none⟩) (by simp only [World.size_alloc, World.size_setCell, World.size_drew] <;> omega)
  have f4_0 : w.heap.size < x4.heap.size := by omega
  have c4_1 : ∀ o, x4.cell? ⟨w.heap.size + 1, o, none⟩ = _ := fun o => hb4.cell (p := ⟨w.heap.size + 1, o, none⟩) (by simp only [World.size_alloc, World.size_setCell, World.size_drew] <;> omega)
  have g4_1 : ∀ o, x4.frozen? ⟨w.heap.size + 1, o, none⟩ = _ := fun o => hb4.frozen (p := ⟨w.heap.size + 1, o, none⟩) (by simp only [World.size_alloc, World.size_setCell, World.size_drew] <;> omega)
  have f4_1 : w.heap.size + 1 < x4.heap.size := by omega
  have c4_2 : ∀ o, x4.cell? ⟨w.heap.size + 1 + 1, o, none⟩ = _ := fun o => hb4.cell (p := ⟨w.heap.size + 1 + 1, o, none⟩) (by simp only [World.size_alloc, World.size_setCell, World.size_drew] <;> omega)
  have g4_2 : ∀ o, x4.frozen? ⟨w.heap.size + 1 + 1, o, none⟩ = _ := fun o => hb4.frozen (p := ⟨w.heap.size + 1 + 1, o, none⟩) (by simp only [World.size_alloc, World.size_setCell, World.size_drew] <;> omega)
  have f4_2 : w.heap.size + 1 + 1 < x4.heap.size := by omega
  go_wp2_with fail
  with_reducible refine right_k (by assumption) (fun x5 hb5 => ?_)
  try dsimp only
  have hz5 := hb5.size; (try simp only [World.size_alloc, World.size_setCell, World.size_drew] at hz5)
  have c5_0 : ∀ o, x5.cell? ⟨w.heap.size, o, none⟩ = _ := fun o => hb5.cell (p := ⟨w.heap.size, o, none⟩) (by simp only [World.size_alloc, World.size_setCell, World.size_drew] <;> omega)
  have g5_0 : ∀ o, x5.frozen? ⟨w.heap.size, o, none⟩ = _ := fun o => hb5.frozen (p := ⟨w.heap.size, o, none⟩) (by simp only [World.size_alloc, World.size_setCell, World.size_drew] <;> omega)
  have f5_0 : w.heap.size < x5.heap.size := by omega
  have c5_1 : ∀ o, x5.cell? ⟨w.heap.size + 1, o, none⟩ = _ := fun o => hb5.cell (p := ⟨w.heap.size + 1, o, none⟩) (by simp only [World.size_alloc, World.size_setCell, World.size_drew] <;> omega)
  have g5_1 : ∀ o, x5.frozen? ⟨w.heap.size + 1, o, none⟩ = _ := fun o => hb5.frozen (p := ⟨w.heap.size + 1, o, none⟩) (by simp only [World.size_alloc, World.size_setCell, World.size_drew] <;> omega)
  have f5_1 : w.heap.size + 1 < x5.heap.size := by omega
  have c5_2 : ∀ o, x5.cell? ⟨w.heap.size + 1 + 1, o, none⟩ = _ := fun o => hb5.cell (p := ⟨w.heap.size + 1 + 1, o, none⟩) (by simp only [World.size_alloc, World.size_setCell, World.size_drew] <;> omega)
  have g5_2 : ∀ o, x5.frozen? ⟨w.heap.size + 1 + 1, o, none⟩ = _ := fun o => hb5.frozen (p := ⟨w.heap.size + 1 + 1, o, none⟩) (by simp only [World.size_alloc, World.size_setCell, World.size_drew] <;> omega)
  have f5_2 : w.heap.size + 1 + 1 < x5.heap.size := by omega
  go_wp2_with fail
  with_reducible refine share_k (by assumption) (fun x6 hb6 => ?_)
  try dsimp only
  have hz6 := hb6.size; (try simp only [World.size_alloc, World.size_setCell, World.size_drew] at hz6)
  have c6_0 : ∀ o, x6.cell? ⟨w.heap.size, o, none⟩ = _ := fun o => hb6.cell (p := ⟨w.heap.size, o, none⟩) (by simp only [World.size_alloc, World.size_setCell, World.size_drew] <;> omega)
  have g6_0 : ∀ o, x6.frozen? ⟨w.heap.size, o, none⟩ = _ := fun o => hb6.frozen (p := ⟨w.heap.size, o, none⟩) (by simp only [World.size_alloc, World.size_setCell, World.size_drew] <;> omega)
  have f6_0 : w.heap.size < x6.heap.size := by omega
  have c6_1 : ∀ o, x6.cell? ⟨w.heap.size + 1, o, none⟩ = _ := fun o => hb6.cell (p := ⟨w.heap.size + 1, o, none⟩) (by simp only [World.size_alloc, World.size_setCell, World.size_drew] <;> omega)
  have g6_1 : ∀ o, x6.frozen? ⟨w.heap.size + 1, o, none⟩ = _ := fun o => hb6.frozen (p := ⟨w.heap.size + 1, o, none⟩) (by simp only [World.size_alloc, World.size_setCell, World.size_drew] <;> omega)
  have f6_1 : w.heap.size + 1 < x6.heap.size := by omega
  have c6_2 : ∀ o, x6.cell? ⟨w.heap.size + 1 + 1, o, none⟩ = _ := fun o => hb6.cell (p := ⟨w.heap.size + 1 + 1, o, none⟩) (by simp only [World.size_alloc, World.size_setCell, World.size_drew] <;> omega)
  have g6_2 : ∀ o, x6.frozen? ⟨w.heap.size + 1 + 1, o, none⟩ = _ := fun o => hb6.frozen (p := ⟨w.heap.size + 1 + 1, o, none⟩) (by simp only [World.size_alloc, World.size_setCell, World.size_drew] <;> omega)
  have f6_2 : w.heap.size + 1 + 1 < x6.heap.size := by omega
  go_wp2
  go_ret
  exact ⟨rfl, by (repeat (first | with_reducible exact Below.refl _ _ | with_reducible assumption | with_reducible refine Below.drew ?_ | with_reducible refine bl_drewN ?_ | (with_reducible refine bl_alloc ?_ ?_; · (first | omega | (simp; done) | (simp; omega))) | (with_reducible refine bl_set ?_ ?_; · (first | omega | (simp; done) | (simp; omega))) | (with_reducible refine bl_trans hb6 ?_ ?_; · (first | omega | (simp; done) | (simp; omega))) | (with_reducible refine bl_trans hb5 ?_ ?_; · (first | omega | (simp; done) | (simp; omega))) | (with_reducible refine bl_trans hb4 ?_ ?_; · (first | omega | (simp; done) | (simp; omega))) | (with_reducible refine bl_trans hb3 ?_ ?_; · (first | omega | (simp; done) | (simp; omega))) | (with_reducible refine bl_trans hb2 ?_ ?_; · (first | omega | (simp; done) | (simp; omega))) | (with_reducible refine bl_trans hb1 ?_ ?_; · (first | omega | (simp; done) | (simp; omega)))))⟩

set_option maxHeartbeats 4000000 in
theorem sh_d (a0 a1 a2 b0 b1 b2 d0 d1 d2 : Int) (w : World) (ra : rightB a0 a1 a2 = true) (rb : rightB b0 b1 b2 = true) (rd : rightB d0 d1 d2 = false) (hs : shareI a0 a1 a2 d0 d1 d2 = 0) :
    Calls Try.prog 7 #[rv a0 a1 a2, rv b0 b1 b2, rv d0 d1 d2] w fun e w' => e = .returned (.bool true) ∧ Below w.heap.size w w' := by
  go_enter Try.func7, Try.ntmps7
  go_wp2_with fail
  with_reducible refine awake_k (fun x1 hb1 => ?_)
  try dsimp only
  have hz1 := hb1.size; (try simp only [World.size_alloc, World.size_setCell, World.size_drew] at hz1)
  have c1_0 : ∀ o, x1.cell? ⟨w.heap.size, o, none⟩ = _ := fun o => hb1.cell (p := ⟨w.heap.size, o, none⟩) (by simp only [World.size_alloc, World.size_setCell, World.size_drew] <;> omega)
  have g1_0 : ∀ o, x1.frozen? ⟨w.heap.size, o, none⟩ = _ := fun o => hb1.frozen (p := ⟨w.heap.size, o, none⟩) (by simp only [World.size_alloc, World.size_setCell, World.size_drew] <;> omega)
  have f1_0 : w.heap.size < x1.heap.size := by omega
  have c1_1 : ∀ o, x1.cell? ⟨w.heap.size + 1, o, none⟩ = _ := fun o => hb1.cell (p := ⟨w.heap.size + 1, o, none⟩) (by simp only [World.size_alloc, World.size_setCell, World.size_drew] <;> omega)
  have g1_1 : ∀ o, x1.frozen? ⟨w.heap.size + 1, o, none⟩ = _ := fun o => hb1.frozen (p := ⟨w.heap.size + 1, o, none⟩) (by simp only [World.size_alloc, World.size_setCell, World.size_drew] <;> omega)
  have f1_1 : w.heap.size + 1 < x1.heap.size := by omega
  have c1_2 : ∀ o, x1.cell? ⟨w.heap.size + 1 + 1, o, none⟩ = _ := fun o => hb1.cell (p := ⟨w.heap.size + 1 + 1, o, none⟩) (by simp only [World.size_alloc, World.size_setCell, World.size_drew] <;> omega)
  have g1_2 : ∀ o, x1.frozen? ⟨w.heap.size + 1 + 1, o, none⟩ = _ := fun o => hb1.frozen (p := ⟨w.heap.size + 1 + 1, o, none⟩) (by simp only [World.size_alloc, World.size_setCell, World.size_drew] <;> omega)
  have f1_2 : w.heap.size + 1 + 1 < x1.heap.size := by omega
  go_wp2_with fail
  with_reducible refine right_k (by assumption) (fun x2 hb2 => ?_)
  try dsimp only
  have hz2 := hb2.size; (try simp only [World.size_alloc, World.size_setCell, World.size_drew] at hz2)
  have c2_0 : ∀ o, x2.cell? ⟨w.heap.size, o, none⟩ = _ := fun o => hb2.cell (p := ⟨w.heap.size, o, none⟩) (by simp only [World.size_alloc, World.size_setCell, World.size_drew] <;> omega)
  have g2_0 : ∀ o, x2.frozen? ⟨w.heap.size, o, none⟩ = _ := fun o => hb2.frozen (p := ⟨w.heap.size, o, none⟩) (by simp only [World.size_alloc, World.size_setCell, World.size_drew] <;> omega)
  have f2_0 : w.heap.size < x2.heap.size := by omega
  have c2_1 : ∀ o, x2.cell? ⟨w.heap.size + 1, o, none⟩ = _ := fun o => hb2.cell (p := ⟨w.heap.size + 1, o, none⟩) (by simp only [World.size_alloc, World.size_setCell, World.size_drew] <;> omega)
  have g2_1 : ∀ o, x2.frozen? ⟨w.heap.size + 1, o, none⟩ = _ := fun o => hb2.frozen (p := ⟨w.heap.size + 1, o, none⟩) (by simp only [World.size_alloc, World.size_setCell, World.size_drew] <;> omega)
  have f2_1 : w.heap.size + 1 < x2.heap.size := by omega
  have c2_2 : ∀ o, x2.cell? ⟨w.heap.size + 1 + 1, o, none⟩ = _ := fun o => hb2.cell (p := ⟨w.heap.size + 1 + 1, o, none⟩) (by simp only [World.size_alloc, World.size_setCell, World.size_drew] <;> omega)
  have g2_2 : ∀ o, x2.frozen? ⟨w.heap.size + 1 + 1, o, none⟩ = _ := fun o => hb2.frozen (p := ⟨w.heap.size + 1 + 1, o, none⟩) (by simp only [World.size_alloc, World.size_setCell, World.size_drew] <;> omega)
  have f2_2 : w.heap.size + 1 + 1 < x2.heap.size := by omega
  go_wp2_with fail
  with_reducible refine right_k (by assumption) (fun x3 hb3 => ?_)
  try dsimp only
  have hz3 := hb3.size; (try simp only [World.size_alloc, World.size_setCell, World.size_drew] at hz3)
  have c3_0 : ∀ o, x3.cell? ⟨w.heap.size, o, none⟩ = _ := fun o => hb3.cell (p := ⟨w.heap.size, o, none⟩) (by simp only [World.size_alloc, World.size_setCell, World.size_drew] <;> omega)
  have g3_0 : ∀ o, x3.frozen? ⟨w.heap.size, o, none⟩ = _ := fun o => hb3.frozen (p := ⟨w.heap.size, o, none⟩) (by simp only [World.size_alloc, World.size_setCell, World.size_drew] <;> omega)
  have f3_0 : w.heap.size < x3.heap.size := by omega
  have c3_1 : ∀ o, x3.cell? ⟨w.heap.size + 1, o, none⟩ = _ := fun o => hb3.cell (p := ⟨w.heap.size + 1, o, none⟩) (by simp only [World.size_alloc, World.size_setCell, World.size_drew] <;> omega)
  have g3_1 : ∀ o, x3.frozen? ⟨w.heap.size + 1, o, none⟩ = _ := fun o => hb3.frozen (p := ⟨w.heap.size + 1, o, none⟩) (by simp only [World.size_alloc, World.size_setCell, World.size_drew] <;> omega)
  have f3_1 : w.heap.size + 1 < x3.heap.size := by omega
  have c3_2 : ∀ o, x3.cell? ⟨w.heap.size + 1 + 1, o, none⟩ = _ := fun o => hb3.cell (p := ⟨w.heap.size + 1 + 1, o, none⟩) (by simp only [World.size_alloc, World.size_setCell, World.size_drew] <;> omega)
  have g3_2 : ∀ o, x3.frozen? ⟨w.heap.size + 1 + 1, o, none⟩ = _ := fun o => hb3.frozen (p := ⟨w.heap.size + 1 + 1, o, none⟩) (by simp only [World.size_alloc, World.size_setCell, World.size_drew] <;> omega)
  have f3_2 : w.heap.size + 1 + 1 < x3.heap.size := by omega
  go_wp2_with fail
  with_reducible refine right_k (by assumption) (fun x4 hb4 => ?_)
  try dsimp only
  have hz4 := hb4.size; (try simp only [World.size_alloc, World.size_setCell, World.size_drew] at hz4)
  have c4_0 : ∀ o, x4.cell? ⟨w.heap.size, o, none⟩ = _ := fun o => hb4.cell (p := ⟨w.heap.size, o, none⟩) (by simp only [World.size_alloc, World.size_setCell, World.size_drew] <;> omega)
  have g4_0 : ∀ o, x4.frozen? ⟨w.heap.size, o, none⟩ = _ := fun o => hb4.frozen (p := ⟨w.heap.size, o, none⟩) (by simp only [World.size_alloc, World.size_setCell, World.size_drew] <;> omega)
  have f4_0 : w.heap.size < x4.heap.size := by omega
  have c4_1 : ∀ o, x4.cell? ⟨w.heap.size + 1, o, none⟩ = _ := fun o => hb4.cell (p := ⟨w.heap.size + 1, o, none⟩) (by simp only [World.size_alloc, World.size_setCell, World.size_drew] <;> omega)
  have g4_1 : ∀ o, x4.frozen? ⟨w.heap.size + 1, o, none⟩ = _ := fun o => hb4.frozen (p := ⟨w.heap.size + 1, o, none⟩) (by simp only [World.size_alloc, World.size_setCell, World.size_drew] <;> omega)
  have f4_1 : w.heap.size + 1 < x4.heap.size := by omega
  have c4_2 : ∀ o, x4.cell? ⟨w.heap.size + 1 + 1, o, none⟩ = _ := fun o => hb4.cell (p := ⟨w.heap.size + 1 + 1, o, none⟩) (by simp only [World.size_alloc, World.size_setCell, World.size_drew] <;> omega)
  have g4_2 : ∀ o, x4.frozen? ⟨w.heap.size + 1 + 1, o, none⟩ = _ := fun o => hb4.frozen (p := ⟨w.heap.size + 1 + 1, o, none⟩) (by simp only [World.size_alloc, World.size_setCell, World.size_drew] <;> omega)
  have f4_2 : w.heap.size + 1 + 1 < x4.heap.size := by omega
  go_wp2_with fail
  with_reducible refine right_k (by assumption) (fun x5 hb5 => ?_)
  try dsimp only
  have hz5 := hb5.size; (try simp only [World.size_alloc, World.size_setCell, World.size_drew] at hz5)
  have c5_0 : ∀ o, x5.cell? ⟨w.heap.size, o, none⟩ = _ := fun o => hb5.cell (p := ⟨w.heap.size, o, none⟩) (by simp only [World.size_alloc, World.size_setCell, World.size_drew] <;> omega)
  have g5_0 : ∀ o, x5.frozen? ⟨w.heap.size, o, none⟩ = _ := fun o => hb5.frozen (p := ⟨w.heap.size, o, none⟩) (by simp only [World.size_alloc, World.size_setCell, World.size_drew] <;> omega)
  have f5_0 : w.heap.size < x5.heap.size := by omega
  have c5_1 : ∀ o, x5.cell? ⟨w.heap.size + 1, o, none⟩ = _ := fun o => hb5.cell (p := ⟨w.heap.size + 1, o, none⟩) (by simp only [World.size_alloc, World.size_setCell, World.size_drew] <;> omega)
  have g5_1 : ∀ o, x5.frozen? ⟨w.heap.size + 1, o, none⟩ = _ := fun o => hb5.frozen (p := ⟨w.heap.size + 1, o, none⟩) (by simp only [World.size_alloc, World.size_setCell, World.size_drew] <;> omega)
  have f5_1 : w.heap.size + 1 < x5.heap.size := by omega
  have c5_2 : ∀ o, x5.cell? ⟨w.heap.size + 1 + 1, o, none⟩ = _ := fun o => hb5.cell (p := ⟨w.heap.size + 1 + 1, o, none⟩) (by simp only [World.size_alloc, World.size_setCell, World.size_drew] <;> omega)
  have g5_2 : ∀ o, x5.frozen? ⟨w.heap.size + 1 + 1, o, none⟩ = _ := fun o => hb5.frozen (p := ⟨w.heap.size + 1 + 1, o, none⟩) (by simp only [World.size_alloc, World.size_setCell, World.size_drew] <;> omega)
  have f5_2 : w.heap.size + 1 + 1 < x5.heap.size := by omega
  go_wp2_with fail
  with_reducible refine right_k (by assumption) (fun x6 hb6 => ?_)
  try dsimp only
  have hz6 := hb6.size; (try simp only [World.size_alloc, World.size_setCell, World.size_drew] at hz6)
  have c6_0 : ∀ o, x6.cell? ⟨w.heap.size, o, none⟩ = _ := fun o => hb6.cell (p := ⟨w.heap.size, o, none⟩) (by simp only [World.size_alloc, World.size_setCell, World.size_drew] <;> omega)
  have g6_0 : ∀ o, x6.frozen? ⟨w.heap.size, o, none⟩ = _ := fun o => hb6.frozen (p := ⟨w.heap.size, o, none⟩) (by simp only [World.size_alloc, World.size_setCell, World.size_drew] <;> omega)
  have f6_0 : w.heap.size < x6.heap.size := by omega
  have c6_1 : ∀ o, x6.cell? ⟨w.heap.size + 1, o, none⟩ = _ := fun o => hb6.cell (p := ⟨w.heap.size + 1, o, none⟩) (by simp only [World.size_alloc, World.size_setCell, World.size_drew] <;> omega)
  have g6_1 : ∀ o, x6.frozen? ⟨w.heap.size + 1, o, none⟩ = _ := fun o => hb6.frozen (p := ⟨w.heap.size + 1, o, none⟩) (by simp only [World.size_alloc, World.size_setCell, World.size_drew] <;> omega)
  have f6_1 : w.heap.size + 1 < x6.heap.size := by omega
  have c6_2 : ∀ o, x6.cell? ⟨w.heap.size + 1 + 1, o, none⟩ = _ := fun o => hb6.cell (p := ⟨w.heap.size + 1 + 1, o, none⟩) (by simp only [World.size_alloc, World.size_setCell, World.size_drew] <;> omega)
  have g6_2 : ∀ o, x6.frozen? ⟨w.heap.size + 1 + 1, o, none⟩ = _ := fun o => hb6.frozen (p := ⟨w.heap.size + 1 + 1, o, none⟩) (by simp only [World.size_alloc, World.size_setCell, World.size_drew] <;> omega)
  have f6_2 : w.heap.size + 1 + 1 < x6.heap.size := by omega
  go_wp2_with fail
  with_reducible refine share_k (by assumption) (fun x7 hb7 => ?_)
  try dsimp only
  have hz7 := hb7.size; (try simp only [World.size_alloc, World.size_setCell, World.size_drew] at hz7)
  have c7_0 : ∀ o, x7.cell? ⟨w.heap.size, o, none⟩ = _ := fun o => hb7.cell (p := ⟨w.heap.size, o, none⟩) (by simp only [World.size_alloc, World.size_setCell, World.size_drew] <;> omega)
  have g7_0 : ∀ o, x7.frozen? ⟨w.heap.size, o, none⟩ = _ := fun o => hb7.frozen (p := ⟨w.heap.size, o, none⟩) (by simp only [World.size_alloc, World.size_setCell, World.size_drew] <;> omega)
  have f7_0 : w.heap.size < x7.heap.size := by omega
  have c7_1 : ∀ o, x7.cell? ⟨w.heap.size + 1, o, none⟩ = _ := fun o => hb7.cell (p := ⟨w.heap.size + 1, o, none⟩) (by simp only [World.size_alloc, World.size_setCell, World.size_drew] <;> omega)
  have g7_1 : ∀ o, x7.frozen? ⟨w.heap.size + 1, o, none⟩ = _ := fun o => hb7.frozen (p := ⟨w.heap.size + 1, o, none⟩) (by simp only [World.size_alloc, World.size_setCell, World.size_drew] <;> omega)
  have f7_1 : w.heap.size + 1 < x7.heap.size := by omega
  have c7_2 : ∀ o, x7.cell? ⟨w.heap.size + 1 + 1, o, none⟩ = _ := fun o => hb7.cell (p := ⟨w.heap.size + 1 + 1, o, none⟩) (by simp only [World.size_alloc, World.size_setCell, World.size_drew] <;> omega)
  have g7_2 : ∀ o, x7.frozen? ⟨w.heap.size + 1 + 1, o, none⟩ = _ := fun o => hb7.frozen (p := ⟨w.heap.size + 1 + 1, o, none⟩) (by simp only [World.size_alloc, World.size_setCell, World.size_drew] <;> omega)
  have f7_2 : w.heap.size + 1 + 1 < x7.heap.size := by omega
  go_wp2
  go_ret
  exact ⟨rfl, by (repeat (first | with_reducible exact Below.refl _ _ | with_reducible assumption | with_reducible refine Below.drew ?_ | with_reducible refine bl_drewN ?_ | (with_reducible refine bl_alloc ?_ ?_; · (first | omega | (simp; done) | (simp; omega))) | (with_reducible refine bl_set ?_ ?_; · (first | omega | (simp; done) | (simp; omega))) | (with_reducible refine bl_trans hb7 ?_ ?_; · (first | omega | (simp; done) | (simp; omega))) | (with_reducible refine bl_trans hb6 ?_ ?_; · (first | omega | (simp; done) | (simp; omega))) | (with_reducible refine bl_trans hb5 ?_ ?_; · (first | omega | (simp; done) | (simp; omega))) | (with_reducible refine bl_trans hb4 ?_ ?_; · (first | omega | (simp; done) | (simp; omega))) | (with_reducible refine bl_trans hb3 ?_ ?_; · (first | omega | (simp; done) | (simp; omega))) | (with_reducible refine bl_trans hb2 ?_ ?_; · (first | omega | (simp; done) | (simp; omega))) | (with_reducible refine bl_trans hb1 ?_ ?_; · (first | omega | (simp; done) | (simp; omega)))))⟩

def cnt (d : Int) : Int := if 0 < d then 1000 else 0
theorem shr_self (d : Int) : shr d d = cnt d := by
  unfold shr cnt
  by_cases h : 0 < d
  · rw [if_pos h, if_pos h]; exact Int.mul_ediv_cancel _ (by omega)
  · rw [if_neg h, if_neg h]
theorem shr_mono {a b d : Int} (h : a ≤ b) : shr a d ≤ shr b d := by
  unfold shr
  by_cases hd : 0 < d
  · rw [if_pos hd, if_pos hd]; exact Int.ediv_le_ediv hd (by omega)
  · rw [if_neg hd, if_neg hd]; omega
theorem shr_nonneg {a d : Int} (h : 0 ≤ a) : 0 ≤ shr a d := by
  unfold shr
  by_cases hd : 0 < d
  · rw [if_pos hd]; exact Int.ediv_nonneg (by omega) (by omega)
  · rw [if_neg hd]; omega

set_option maxHeartbeats 4000000 in
theorem sh_t0 (a0 a1 a2 b0 b1 b2 d0 d1 d2 : Int) (w : World) (s1 s2 : Int) (h0 : d0 ≤ 0) (h1 : d1 ≤ 0) (h2 : d2 ≤ 0) (ra : rightB a0 a1 a2 = true) (rb : rightB b0 b1 b2 = true) (rd : rightB d0 d1 d2 = true) (hw : shareI d0 d1 d2 d0 d1 d2 = 0) (hf : fitsB a0 a1 a2 b0 b1 b2 = true) (hs1 : shareI a0 a1 a2 d0 d1 d2 = s1) (hs2 : shareI b0 b1 b2 d0 d1 d2 = s2) (hp : 0 ≤ s1) (hle : s1 ≤ s2) :
    Calls Try.prog 7 #[rv a0 a1 a2, rv b0 b1 b2, rv d0 d1 d2] w fun e w' => e = .returned (.bool true) ∧ Below w.heap.size w w' := by
  go_enter Try.func7, Try.ntmps7
  go_wp2_with fail
  with_reducible refine awake_k (fun x1 hb1 => ?_)
  try dsimp only
  have hz1 := hb1.size; (try simp only [World.size_alloc, World.size_setCell, World.size_drew] at hz1)
  have c1_0 : ∀ o, x1.cell? ⟨w.heap.size, o, none⟩ = _ := fun o => hb1.cell (p := ⟨w.heap.size, o, none⟩) (by simp only [World.size_alloc, World.size_setCell, World.size_drew] <;> omega)
  have g1_0 : ∀ o, x1.frozen? ⟨w.heap.size, o, none⟩ = _ := fun o => hb1.frozen (p := ⟨w.heap.size, o, none⟩) (by simp only [World.size_alloc, World.size_setCell, World.size_drew] <;> omega)
  have f1_0 : w.heap.size < x1.heap.size := by omega
  have c1_1 : ∀ o, x1.cell? ⟨w.heap.size + 1, o, none⟩ = _ := fun o => hb1.cell (p := ⟨w.heap.size + 1, o, none⟩) (by simp only [World.size_alloc, World.size_setCell, World.size_drew] <;> omega)
  have g1_1 : ∀ o, x1.frozen? ⟨w.heap.size + 1, o, none⟩ = _ := fun o => hb1.frozen (p := ⟨w.heap.size + 1, o, none⟩) (by simp only [World.size_alloc, World.size_setCell, World.size_drew] <;> omega)
  have f1_1 : w.heap.size + 1 < x1.heap.size := by omega
  have c1_2 : ∀ o, x1.cell? ⟨w.heap.size + 1 + 1, o, none⟩ = _ := fun o => hb1.cell (p := ⟨w.heap.size + 1 + 1, o, none⟩) (by simp only [World.size_alloc, World.size_setCell, World.size_drew] <;> omega)
  have g1_2 : ∀ o, x1.frozen? ⟨w.heap.size + 1 + 1, o, none⟩ = _ := fun o => hb1.frozen (p := ⟨w.heap.size + 1 + 1, o, none⟩) (by simp only [World.size_alloc, World.size_setCell, World.size_drew] <;> omega)
  have f1_2 : w.heap.size + 1 + 1 < x1.heap.size := by omega
  go_wp2_with fail
  with_reducible refine right_k (by assumption) (fun x2 hb2 => ?_)
  try dsimp only
  have hz2 := hb2.size; (try simp only [World.size_alloc, World.size_setCell, World.size_drew] at hz2)
  have c2_0 : ∀ o, x2.cell? ⟨w.heap.size, o, none⟩ = _ := fun o => hb2.cell (p := ⟨w.heap.size, o, none⟩) (by simp only [World.size_alloc, World.size_setCell, World.size_drew] <;> omega)
  have g2_0 : ∀ o, x2.frozen? ⟨w.heap.size, o, none⟩ = _ := fun o => hb2.frozen (p := ⟨w.heap.size, o, none⟩) (by simp only [World.size_alloc, World.size_setCell, World.size_drew] <;> omega)
  have f2_0 : w.heap.size < x2.heap.size := by omega
  have c2_1 : ∀ o, x2.cell? ⟨w.heap.size + 1, o, none⟩ = _ := fun o => hb2.cell (p := ⟨w.heap.size + 1, o, none⟩) (by simp only [World.size_alloc, World.size_setCell, World.size_drew] <;> omega)
  have g2_1 : ∀ o, x2.frozen? ⟨w.heap.size + 1, o, none⟩ = _ := fun o => hb2.frozen (p := ⟨w.heap.size + 1, o, none⟩) (by simp only [World.size_alloc, World.size_setCell, World.size_drew] <;> omega)
  have f2_1 : w.heap.size + 1 < x2.heap.size := by omega
  have c2_2 : ∀ o, x2.cell? ⟨w.heap.size + 1 + 1, o, none⟩ = _ := fun o => hb2.cell (p := ⟨w.heap.size + 1 + 1, o, none⟩) (by simp only [World.size_alloc, World.size_setCell, World.size_drew] <;> omega)
  have g2_2 : ∀ o, x2.frozen? ⟨w.heap.size + 1 + 1, o, none⟩ = _ := fun o => hb2.frozen (p := ⟨w.heap.size + 1 + 1, o, none⟩) (by simp only [World.size_alloc, World.size_setCell, World.size_drew] <;> omega)
  have f2_2 : w.heap.size + 1 + 1 < x2.heap.size := by omega
  go_wp2_with fail
  with_reducible refine right_k (by assumption) (fun x3 hb3 => ?_)
  try dsimp only
  have hz3 := hb3.size; (try simp only [World.size_alloc, World.size_setCell, World.size_drew] at hz3)
  have c3_0 : ∀ o, x3.cell? ⟨w.heap.size, o, none⟩ = _ := fun o => hb3.cell (p := ⟨w.heap.size, o, none⟩) (by simp only [World.size_alloc, World.size_setCell, World.size_drew] <;> omega)
  have g3_0 : ∀ o, x3.frozen? ⟨w.heap.size, o, none⟩ = _ := fun o => hb3.frozen (p := ⟨w.heap.size, o, none⟩) (by simp only [World.size_alloc, World.size_setCell, World.size_drew] <;> omega)
  have f3_0 : w.heap.size < x3.heap.size := by omega
  have c3_1 : ∀ o, x3.cell? ⟨w.heap.size + 1, o, none⟩ = _ := fun o => hb3.cell (p := ⟨w.heap.size + 1, o, none⟩) (by simp only [World.size_alloc, World.size_setCell, World.size_drew] <;> omega)
  have g3_1 : ∀ o, x3.frozen? ⟨w.heap.size + 1, o, none⟩ = _ := fun o => hb3.frozen (p := ⟨w.heap.size + 1, o, none⟩) (by simp only [World.size_alloc, World.size_setCell, World.size_drew] <;> omega)
  have f3_1 : w.heap.size + 1 < x3.heap.size := by omega
  have c3_2 : ∀ o, x3.cell? ⟨w.heap.size + 1 + 1, o, none⟩ = _ := fun o => hb3.cell (p := ⟨w.heap.size + 1 + 1, o, none⟩) (by simp only [World.size_alloc, World.size_setCell, World.size_drew] <;> omega)
  have g3_2 : ∀ o, x3.frozen? ⟨w.heap.size + 1 + 1, o, none⟩ = _ := fun o => hb3.frozen (p := ⟨w.heap.size + 1 + 1, o, none⟩) (by simp only [World.size_alloc, World.size_setCell, World.size_drew] <;> omega)
  have f3_2 : w.heap.size + 1 + 1 < x3.heap.size := by omega
  go_wp2_with fail
  with_reducible refine right_k (by assumption) (fun x4 hb4 => ?_)
  try dsimp only
  have hz4 := hb4.size; (try simp only [World.size_alloc, World.size_setCell, World.size_drew] at hz4)
  have c4_0 : ∀ o, x4.cell? ⟨w.heap.size, o, none⟩ = _ := fun o => hb4.cell (p := ⟨w.heap.size, o, none⟩) (by simp only [World.size_alloc, World.size_setCell, World.size_drew] <;> omega)
  have g4_0 : ∀ o, x4.frozen? ⟨w.heap.size, o, none⟩ = _ := fun o => hb4.frozen (p := ⟨w.heap.size, o, none⟩) (by simp only [World.size_alloc, World.size_setCell, World.size_drew] <;> omega)
  have f4_0 : w.heap.size < x4.heap.size := by omega
  have c4_1 : ∀ o, x4.cell? ⟨w.heap.size + 1, o, none⟩ = _ := fun o => hb4.cell (p := ⟨w.heap.size + 1, o, none⟩) (by simp only [World.size_alloc, World.size_setCell, World.size_drew] <;> omega)
  have g4_1 : ∀ o, x4.frozen? ⟨w.heap.size + 1, o, none⟩ = _ := fun o => hb4.frozen (p := ⟨w.heap.size + 1, o, none⟩) (by simp only [World.size_alloc, World.size_setCell, World.size_drew] <;> omega)
  have f4_1 : w.heap.size + 1 < x4.heap.size := by omega
  have c4_2 : ∀ o, x4.cell? ⟨w.heap.size + 1 + 1, o, none⟩ = _ := fun o => hb4.cell (p := ⟨w.heap.size + 1 + 1, o, none⟩) (by simp only [World.size_alloc, World.size_setCell, World.size_drew] <;> omega)
  have g4_2 : ∀ o, x4.frozen? ⟨w.heap.size + 1 + 1, o, none⟩ = _ := fun o => hb4.frozen (p := ⟨w.heap.size + 1 + 1, o, none⟩) (by simp only [World.size_alloc, World.size_setCell, World.size_drew] <;> omega)
  have f4_2 : w.heap.size + 1 + 1 < x4.heap.size := by omega
  go_wp2
  refine wp_loop_rounds 4 ?_
  repeat (any_goals (rw [rounds_succ]; go_wp2))
  refine wp_region_B (by kernel_rfl) (by kernel_rfl) ?_
  (repeat (first | (apply runS_skip (by rfl); (try simp only [Act.put, List.setIfInBounds_toArray, List.set_cons_zero, List.set_cons_succ])) | (apply runS_cons (by rfl); (· (intro w1 hS K hK; obtain ⟨q1, q2⟩ := cells_B hS; (go_simp); (first | with_reducible exact hK _ hS | exact hK _ hS | (with_reducible refine fits_k (by assumption) (fun w2 hb => ?_); exact hK _ (bel_call hS hb)) | (with_reducible refine share_k (by assumption) (fun w2 hb => ?_); exact hK _ (bel_call hS hb))))); (try simp only [Act.put, List.setIfInBounds_toArray, List.set_cons_zero, List.set_cons_succ]))))
  refine runS_nil (fun w2 hbz => ?_)
  go_wp2
  go_ret
  exact ⟨rfl, by (repeat (first | with_reducible exact Below.refl _ _ | with_reducible assumption | with_reducible refine Below.drew ?_ | with_reducible refine bl_drewN ?_ | (with_reducible refine bl_alloc ?_ ?_; · (first | omega | (simp; done) | (simp; omega))) | (with_reducible refine bl_set ?_ ?_; · (first | omega | (simp; done) | (simp; omega))) | (with_reducible refine bl_trans hbz ?_ ?_; · (first | omega | (simp; done) | (simp; omega))) | (with_reducible refine bl_trans hb4 ?_ ?_; · (first | omega | (simp; done) | (simp; omega))) | (with_reducible refine bl_trans hb3 ?_ ?_; · (first | omega | (simp; done) | (simp; omega))) | (with_reducible refine bl_trans hb2 ?_ ?_; · (first | omega | (simp; done) | (simp; omega))) | (with_reducible refine bl_trans hb1 ?_ ?_; · (first | omega | (simp; done) | (simp; omega)))))⟩

set_option maxHeartbeats 4000000 in
theorem sh_t1 (a0 a1 a2 b0 b1 b2 d0 d1 d2 : Int) (w : World) (s1 s2 : Int) (h0 : 0 < d0) (h1 : d1 ≤ 0) (h2 : d2 ≤ 0) (ra : rightB a0 a1 a2 = true) (rb : rightB b0 b1 b2 = true) (rd : rightB d0 d1 d2 = true) (hw : shareI d0 d1 d2 d0 d1 d2 = 1000) (hf : fitsB a0 a1 a2 b0 b1 b2 = true) (hs1 : shareI a0 a1 a2 d0 d1 d2 = s1) (hs2 : shareI b0 b1 b2 d0 d1 d2 = s2) (hp : 0 ≤ s1) (hle : s1 ≤ s2) :
    Calls Try.prog 7 #[rv a0 a1 a2, rv b0 b1 b2, rv d0 d1 d2] w fun e w' => e = .returned (.bool true) ∧ Below w.heap.size w w' := by
  go_enter Try.func7, Try.ntmps7
  go_wp2_with fail
  with_reducible refine awake_k (fun x1 hb1 => ?_)
  try dsimp only
  have hz1 := hb1.size; (try simp only [World.size_alloc, World.size_setCell, World.size_drew] at hz1)
  have c1_0 : ∀ o, x1.cell? ⟨w.heap.size, o, none⟩ = _ := fun o => hb1.cell (p := ⟨w.heap.size, o, none⟩) (by simp only [World.size_alloc, World.size_setCell, World.size_drew] <;> omega)
  have g1_0 : ∀ o, x1.frozen? ⟨w.heap.size, o, none⟩ = _ := fun o => hb1.frozen (p := ⟨w.heap.size, o, none⟩) (by simp only [World.size_alloc, World.size_setCell, World.size_drew] <;> omega)
  have f1_0 : w.heap.size < x1.heap.size := by omega
  have c1_1 : ∀ o, x1.cell? ⟨w.heap.size + 1, o, none⟩ = _ := fun o => hb1.cell (p := ⟨w.heap.size + 1, o, none⟩) (by simp only [World.size_alloc, World.size_setCell, World.size_drew] <;> omega)
  have g1_1 : ∀ o, x1.frozen? ⟨w.heap.size + 1, o, none⟩ = _ := fun o => hb1.frozen (p := ⟨w.heap.size + 1, o, none⟩) (by simp only [World.size_alloc, World.size_setCell, World.size_drew] <;> omega)
  have f1_1 : w.heap.size + 1 < x1.heap.size := by omega
  have c1_2 : ∀ o, x1.cell? ⟨w.heap.size + 1 + 1, o, none⟩ = _ := fun o => hb1.cell (p := ⟨w.heap.size + 1 + 1, o, none⟩) (by simp only [World.size_alloc, World.size_setCell, World.size_drew] <;> omega)
  have g1_2 : ∀ o, x1.frozen? ⟨w.heap.size + 1 + 1, o, none⟩ = _ := fun o => hb1.frozen (p := ⟨w.heap.size + 1 + 1, o, none⟩) (by simp only [World.size_alloc, World.size_setCell, World.size_drew] <;> omega)
  have f1_2 : w.heap.size + 1 + 1 < x1.heap.size := by omega
  go_wp2_with fail
  with_reducible refine right_k (by assumption) (fun x2 hb2 => ?_)
  try dsimp only
  have hz2 := hb2.size; (try simp only [World.size_alloc, World.size_setCell, World.size_drew] at hz2)
  have c2_0 : ∀ o, x2.cell? ⟨w.heap.size, o, none⟩ = _ := fun o => hb2.cell (p := ⟨w.heap.size, o, none⟩) (by simp only [World.size_alloc, World.size_setCell, World.size_drew] <;> omega)
  have g2_0 : ∀ o, x2.frozen? ⟨w.heap.size, o, none⟩ = _ := fun o => hb2.frozen (p := ⟨w.heap.size, o, none⟩) (by simp only [World.size_alloc, World.size_setCell, World.size_drew] <;> omega)
  have f2_0 : w.heap.size < x2.heap.size := by omega
  have c2_1 : ∀ o, x2.cell? ⟨w.heap.size + 1, o, none⟩ = _ := fun o => hb2.cell (p := ⟨w.heap.size + 1, o, none⟩) (by simp only [World.size_alloc, World.size_setCell, World.size_drew] <;> omega)
  have g2_1 : ∀ o, x2.frozen? ⟨w.heap.size + 1, o, none⟩ = _ := fun o => hb2.frozen (p := ⟨w.heap.size + 1, o, none⟩) (by simp only [World.size_alloc, World.size_setCell, World.size_drew] <;> omega)
  have f2_1 : w.heap.size + 1 < x2.heap.size := by omega
  have c2_2 : ∀ o, x2.cell? ⟨w.heap.size + 1 + 1, o, none⟩ = _ := fun o => hb2.cell (p := ⟨w.heap.size + 1 + 1, o, none⟩) (by simp only [World.size_alloc, World.size_setCell, World.size_drew] <;> omega)
  have g2_2 : ∀ o, x2.frozen? ⟨w.heap.size + 1 + 1, o, none⟩ = _ := fun o => hb2.frozen (p := ⟨w.heap.size + 1 + 1, o, none⟩) (by simp only [World.size_alloc, World.size_setCell, World.size_drew] <;> omega)
  have f2_2 : w.heap.size + 1 + 1 < x2.heap.size := by omega
  go_wp2_with fail
  with_reducible refine right_k (by assumption) (fun x3 hb3 => ?_)
  try dsimp only
  have hz3 := hb3.size; (try simp only [World.size_alloc, World.size_setCell, World.size_drew] at hz3)
  have c3_0 : ∀ o, x3.cell? ⟨w.heap.size, o, none⟩ = _ := fun o => hb3.cell (p := ⟨w.heap.size, o, none⟩) (by simp only [World.size_alloc, World.size_setCell, World.size_drew] <;> omega)
  have g3_0 : ∀ o, x3.frozen? ⟨w.heap.size, o, none⟩ = _ := fun o => hb3.frozen (p := ⟨w.heap.size, o, none⟩) (by simp only [World.size_alloc, World.size_setCell, World.size_drew] <;> omega)
  have f3_0 : w.heap.size < x3.heap.size := by omega
  have c3_1 : ∀ o, x3.cell? ⟨w.heap.size + 1, o, none⟩ = _ := fun o => hb3.cell (p := ⟨w.heap.size + 1, o, none⟩) (by simp only [World.size_alloc, World.size_setCell, World.size_drew] <;> omega)
  have g3_1 : ∀ o, x3.frozen? ⟨w.heap.size + 1, o, none⟩ = _ := fun o => hb3.frozen (p := ⟨w.heap.size + 1, o, none⟩) (by simp only [World.size_alloc, World.size_setCell, World.size_drew] <;> omega)
  have f3_1 : w.heap.size + 1 < x3.heap.size := by omega
  have c3_2 : ∀ o, x3.cell? ⟨w.heap.size + 1 + 1, o, none⟩ = _ := fun o => hb3.cell (p := ⟨w.heap.size + 1 + 1, o, none⟩) (by simp only [World.size_alloc, World.size_setCell, World.size_drew] <;> omega)
  have g3_2 : ∀ o, x3.frozen? ⟨w.heap.size + 1 + 1, o, none⟩ = _ := fun o => hb3.frozen (p := ⟨w.heap.size + 1 + 1, o, none⟩) (by simp only [World.size_alloc, World.size_setCell, World.size_drew] <;> omega)
  have f3_2 : w.heap.size + 1 + 1 < x3.heap.size := by omega
  go_wp2_with fail
  with_reducible refine right_k (by assumption) (fun x4 hb4 => ?_)
  try dsimp only
  have hz4 := hb4.size; (try simp only [World.size_alloc, World.size_setCell, World.size_drew] at hz4)
  have c4_0 : ∀ o, x4.cell? ⟨w.heap.size, o, none⟩ = _ := fun o => hb4.cell (p := ⟨w.heap.size, o, none⟩) (by simp only [World.size_alloc, World.size_setCell, World.size_drew] <;> omega)
  have g4_0 : ∀ o, x4.frozen? ⟨w.heap.size, o, none⟩ = _ := fun o => hb4.frozen (p := ⟨w.heap.size, o, none⟩) (by simp only [World.size_alloc, World.size_setCell, World.size_drew] <;> omega)
  have f4_0 : w.heap.size < x4.heap.size := by omega
  have c4_1 : ∀ o, x4.cell? ⟨w.heap.size + 1, o, none⟩ = _ := fun o => hb4.cell (p := ⟨w.heap.size + 1, o, none⟩) (by simp only [World.size_alloc, World.size_setCell, World.size_drew] <;> omega)
  have g4_1 : ∀ o, x4.frozen? ⟨w.heap.size + 1, o, none⟩ = _ := fun o => hb4.frozen (p := ⟨w.heap.size + 1, o, none⟩) (by simp only [World.size_alloc, World.size_setCell, World.size_drew] <;> omega)
  have f4_1 : w.heap.size + 1 < x4.heap.size := by omega
  have c4_2 : ∀ o, x4.cell? ⟨w.heap.size + 1 + 1, o, none⟩ = _ := fun o => hb4.cell (p := ⟨w.heap.size + 1 + 1, o, none⟩) (by simp only [World.size_alloc, World.size_setCell, World.size_drew] <;> omega)
  have g4_2 : ∀ o, x4.frozen? ⟨w.heap.size + 1 + 1, o, none⟩ = _ := fun o => hb4.frozen (p := ⟨w.heap.size + 1 + 1, o, none⟩) (by simp only [World.size_alloc, World.size_setCell, World.size_drew] <;> omega)
  have f4_2 : w.heap.size + 1 + 1 < x4.heap.size := by omega
  go_wp2
  refine wp_loop_rounds 4 ?_
  repeat (any_goals (rw [rounds_succ]; go_wp2))
  refine wp_region_B (by kernel_rfl) (by kernel_rfl) ?_
  (repeat (first | (apply runS_skip (by rfl); (try simp only [Act.put, List.setIfInBounds_toArray, List.set_cons_zero, List.set_cons_succ])) | (apply runS_cons (by rfl); (· (intro w1 hS K hK; obtain ⟨q1, q2⟩ := cells_B hS; (go_simp); (first | with_reducible exact hK _ hS | exact hK _ hS | (with_reducible refine fits_k (by assumption) (fun w2 hb => ?_); exact hK _ (bel_call hS hb)) | (with_reducible refine share_k (by assumption) (fun w2 hb => ?_); exact hK _ (bel_call hS hb))))); (try simp only [Act.put, List.setIfInBounds_toArray, List.set_cons_zero, List.set_cons_succ]))))
  refine runS_nil (fun w2 hbz => ?_)
  go_wp2
  go_ret
  exact ⟨rfl, by (repeat (first | with_reducible exact Below.refl _ _ | with_reducible assumption | with_reducible refine Below.drew ?_ | with_reducible refine bl_drewN ?_ | (with_reducible refine bl_alloc ?_ ?_; · (first | omega | (simp; done) | (simp; omega))) | (with_reducible refine bl_set ?_ ?_; · (first | omega | (simp; done) | (simp; omega))) | (with_reducible refine bl_trans hbz ?_ ?_; · (first | omega | (simp; done) | (simp; omega))) | (with_reducible refine bl_trans hb4 ?_ ?_; · (first | omega | (simp; done) | (simp; omega))) | (with_reducible refine bl_trans hb3 ?_ ?_; · (first | omega | (simp; done) | (simp; omega))) | (with_reducible refine bl_trans hb2 ?_ ?_; · (first | omega | (simp; done) | (simp; omega))) | (with_reducible refine bl_trans hb1 ?_ ?_; · (first | omega | (simp; done) | (simp; omega)))))⟩

set_option maxHeartbeats 4000000 in
theorem sh_t2 (a0 a1 a2 b0 b1 b2 d0 d1 d2 : Int) (w : World) (s1 s2 : Int) (h0 : d0 ≤ 0) (h1 : 0 < d1) (h2 : d2 ≤ 0) (ra : rightB a0 a1 a2 = true) (rb : rightB b0 b1 b2 = true) (rd : rightB d0 d1 d2 = true) (hw : shareI d0 d1 d2 d0 d1 d2 = 1000) (hf : fitsB a0 a1 a2 b0 b1 b2 = true) (hs1 : shareI a0 a1 a2 d0 d1 d2 = s1) (hs2 : shareI b0 b1 b2 d0 d1 d2 = s2) (hp : 0 ≤ s1) (hle : s1 ≤ s2) :
    Calls Try.prog 7 #[rv a0 a1 a2, rv b0 b1 b2, rv d0 d1 d2] w fun e w' => e = .returned (.bool true) ∧ Below w.heap.size w w' := by
  go_enter Try.func7, Try.ntmps7
  go_wp2_with fail
  with_reducible refine awake_k (fun x1 hb1 => ?_)
  try dsimp only
  have hz1 := hb1.size; (try simp only [World.size_alloc, World.size_setCell, World.size_drew] at hz1)
  have c1_0 : ∀ o, x1.cell? ⟨w.heap.size, o, none⟩ = _ := fun o => hb1.cell (p := ⟨w.heap.size, o, none⟩) (by simp only [World.size_alloc, World.size_setCell, World.size_drew] <;> omega)
  have g1_0 : ∀ o, x1.frozen? ⟨w.heap.size, o, none⟩ = _ := fun o => hb1.frozen (p := ⟨w.heap.size, o, none⟩) (by simp only [World.size_alloc, World.size_setCell, World.size_drew] <;> omega)
  have f1_0 : w.heap.size < x1.heap.size := by omega
  have c1_1 : ∀ o, x1.cell? ⟨w.heap.size + 1, o, none⟩ = _ := fun o => hb1.cell (p := ⟨w.heap.size + 1, o, none⟩) (by simp only [World.size_alloc, World.size_setCell, World.size_drew] <;> omega)
  have g1_1 : ∀ o, x1.frozen? ⟨w.heap.size + 1, o, none⟩ = _ := fun o => hb1.frozen (p := ⟨w.heap.size + 1, o, none⟩) (by simp only [World.size_alloc, World.size_setCell, World.size_drew] <;> omega)
  have f1_1 : w.heap.size + 1 < x1.heap.size := by omega
  have c1_2 : ∀ o, x1.cell? ⟨w.heap.size + 1 + 1, o, none⟩ = _ := fun o => hb1.cell (p := ⟨w.heap.size + 1 + 1, o, none⟩) (by simp only [World.size_alloc, World.size_setCell, World.size_drew] <;> omega)
  have g1_2 : ∀ o, x1.frozen? ⟨w.heap.size + 1 + 1, o, none⟩ = _ := fun o => hb1.frozen (p := ⟨w.heap.size + 1 + 1, o, none⟩) (by simp only [World.size_alloc, World.size_setCell, World.size_drew] <;> omega)
  have f1_2 : w.heap.size + 1 + 1 < x1.heap.size := by omega
  go_wp2_with fail
  with_reducible refine right_k (by assumption) (fun x2 hb2 => ?_)
  try dsimp only
  have hz2 := hb2.size; (try simp only [World.size_alloc, World.size_setCell, World.size_drew] at hz2)
  have c2_0 : ∀ o, x2.cell? ⟨w.heap.size, o, none⟩ = _ := fun o => hb2.cell (p := ⟨w.heap.size, o, none⟩) (by simp only [World.size_alloc, World.size_setCell, World.size_drew] <;> omega)
  have g2_0 : ∀ o, x2.frozen? ⟨w.heap.size, o, none⟩ = _ := fun o => hb2.frozen (p := ⟨w.heap.size, o, none⟩) (by simp only [World.size_alloc, World.size_setCell, World.size_drew] <;> omega)
  have f2_0 : w.heap.size < x2.heap.size := by omega
  have c2_1 : ∀ o, x2.cell? ⟨w.heap.size + 1, o, none⟩ = _ := fun o => hb2.cell (p := ⟨w.heap.size + 1, o, none⟩) (by simp only [World.size_alloc, World.size_setCell, World.size_drew] <;> omega)
  have g2_1 : ∀ o, x2.frozen? ⟨w.heap.size + 1, o, none⟩ = _ := fun o => hb2.frozen (p := ⟨w.heap.size + 1, o, none⟩) (by simp only [World.size_alloc, World.size_setCell, World.size_drew] <;> omega)
  have f2_1 : w.heap.size + 1 < x2.heap.size := by omega
  have c2_2 : ∀ o, x2.cell? ⟨w.heap.size + 1 + 1, o, none⟩ = _ := fun o => hb2.cell (p := ⟨w.heap.size + 1 + 1, o, none⟩) (by simp only [World.size_alloc, World.size_setCell, World.size_drew] <;> omega)
  have g2_2 : ∀ o, x2.frozen? ⟨w.heap.size + 1 + 1, o, none⟩ = _ := fun o => hb2.frozen (p := ⟨w.heap.size + 1 + 1, o, none⟩) (by simp only [World.size_alloc, World.size_setCell, World.size_drew] <;> omega)
  have f2_2 : w.heap.size + 1 + 1 < x2.heap.size := by omega
  go_wp2_with fail
  with_reducible refine right_k (by assumption) (fun x3 hb3 => ?_)
  try dsimp only
  have hz3 := hb3.size; (try simp only [World.size_alloc, World.size_setCell, World.size_drew] at hz3)
  have c3_0 : ∀ o, x3.cell? ⟨w.heap.size, o, none⟩ = _ := fun o => hb3.cell (p := ⟨w.heap.size, o, none⟩) (by simp only [World.size_alloc, World.size_setCell, World.size_drew] <;> omega)
  have g3_0 : ∀ o, x3.frozen? ⟨w.heap.size, o, none⟩ = _ := fun o => hb3.frozen (p := ⟨w.heap.size, o, none⟩) (by simp only [World.size_alloc, World.size_setCell, World.size_drew] <;> omega)
  have f3_0 : w.heap.size < x3.heap.size := by omega
  have c3_1 : ∀ o, x3.cell? ⟨w.heap.size + 1, o, none⟩ = _ := fun o => hb3.cell (p := ⟨w.heap.size + 1, o, none⟩) (by simp only [World.size_alloc, World.size_setCell, World.size_drew] <;> omega)
  have g3_1 : ∀ o, x3.frozen? ⟨w.heap.size + 1, o, none⟩ = _ := fun o => hb3.frozen (p := ⟨w.heap.size + 1, o, none⟩) (by simp only [World.size_alloc, World.size_setCell, World.size_drew] <;> omega)
  have f3_1 : w.heap.size + 1 < x3.heap.size := by omega
  have c3_2 : ∀ o, x3.cell? ⟨w.heap.size + 1 + 1, o, none⟩ = _ := fun o => hb3.cell (p := ⟨w.heap.size + 1 + 1, o, none⟩) (by simp only [World.size_alloc, World.size_setCell, World.size_drew] <;> omega)
  have g3_2 : ∀ o, x3.frozen? ⟨w.heap.size + 1 + 1, o, none⟩ = _ := fun o => hb3.frozen (p := ⟨w.heap.size + 1 + 1, o, none⟩) (by simp only [World.size_alloc, World.size_setCell, World.size_drew] <;> omega)
  have f3_2 : w.heap.size + 1 + 1 < x3.heap.size := by omega
  go_wp2_with fail
  with_reducible refine right_k (by assumption) (fun x4 hb4 => ?_)
  try dsimp only
  have hz4 := hb4.size; (try simp only [World.size_alloc, World.size_setCell, World.size_drew] at hz4)
  have c4_0 : ∀ o, x4.cell? ⟨w.heap.size, o, none⟩ = _ := fun o => hb4.cell (p := ⟨w.heap.size, o, none⟩) (by simp only [World.size_alloc, World.size_setCell, World.size_drew] <;> omega)
  have g4_0 : ∀ o, x4.frozen? ⟨w.heap.size, o, none⟩ = _ := fun o => hb4.frozen (p := ⟨w.heap.size, o, none⟩) (by simp only [World.size_alloc, World.size_setCell, World.size_drew] <;> omega)
  have f4_0 : w.heap.size < x4.heap.size := by omega
  have c4_1 : ∀ o, x4.cell? ⟨w.heap.size + 1, o, none⟩ = _ := fun o => hb4.cell (p := ⟨w.heap.size + 1, o, none⟩) (by simp only [World.size_alloc, World.size_setCell, World.size_drew] <;> omega)
  have g4_1 : ∀ o, x4.frozen? ⟨w.heap.size + 1, o, none⟩ = _ := fun o => hb4.frozen (p := ⟨w.heap.size + 1, o, none⟩) (by simp only [World.size_alloc, World.size_setCell, World.size_drew] <;> omega)
  have f4_1 : w.heap.size + 1 < x4.heap.size := by omega
  have c4_2 : ∀ o, x4.cell? ⟨w.heap.size + 1 + 1, o, none⟩ = _ := fun o => hb4.cell (p := ⟨w.heap.size + 1 + 1, o, none⟩) (by simp only [World.size_alloc, World.size_setCell, World.size_drew] <;> omega)
  have g4_2 : ∀ o, x4.frozen? ⟨w.heap.size + 1 + 1, o, none⟩ = _ := fun o => hb4.frozen (p := ⟨w.heap.size + 1 + 1, o, none⟩) (by simp only [World.size_alloc, World.size_setCell, World.size_drew] <;> omega)
  have f4_2 : w.heap.size + 1 + 1 < x4.heap.size := by omega
  go_wp2
  refine wp_loop_rounds 4 ?_
  repeat (any_goals (rw [rounds_succ]; go_wp2))
  refine wp_region_B (by kernel_rfl) (by kernel_rfl) ?_
  (repeat (first | (apply runS_skip (by rfl); (try simp only [Act.put, List.setIfInBounds_toArray, List.set_cons_zero, List.set_cons_succ])) | (apply runS_cons (by rfl); (· (intro w1 hS K hK; obtain ⟨q1, q2⟩ := cells_B hS; (go_simp); (first | with_reducible exact hK _ hS | exact hK _ hS | (with_reducible refine fits_k (by assumption) (fun w2 hb => ?_); exact hK _ (bel_call hS hb)) | (with_reducible refine share_k (by assumption) (fun w2 hb => ?_); exact hK _ (bel_call hS hb))))); (try simp only [Act.put, List.setIfInBounds_toArray, List.set_cons_zero, List.set_cons_succ]))))
  refine runS_nil (fun w2 hbz => ?_)
  go_wp2
  go_ret
  exact ⟨rfl, by (repeat (first | with_reducible exact Below.refl _ _ | with_reducible assumption | with_reducible refine Below.drew ?_ | with_reducible refine bl_drewN ?_ | (with_reducible refine bl_alloc ?_ ?_; · (first | omega | (simp; done) | (simp; omega))) | (with_reducible refine bl_set ?_ ?_; · (first | omega | (simp; done) | (simp; omega))) | (with_reducible refine bl_trans hbz ?_ ?_; · (first | omega | (simp; done) | (simp; omega))) | (with_reducible refine bl_trans hb4 ?_ ?_; · (first | omega | (simp; done) | (simp; omega))) | (with_reducible refine bl_trans hb3 ?_ ?_; · (first | omega | (simp; done) | (simp; omega))) | (with_reducible refine bl_trans hb2 ?_ ?_; · (first | omega | (simp; done) | (simp; omega))) | (with_reducible refine bl_trans hb1 ?_ ?_; · (first | omega | (simp; done) | (simp; omega)))))⟩

set_option maxHeartbeats 4000000 in
theorem sh_t3 (a0 a1 a2 b0 b1 b2 d0 d1 d2 : Int) (w : World) (s1 s2 : Int) (h0 : 0 < d0) (h1 : 0 < d1) (h2 : d2 ≤ 0) (ra : rightB a0 a1 a2 = true) (rb : rightB b0 b1 b2 = true) (rd : rightB d0 d1 d2 = true) (hw : shareI d0 d1 d2 d0 d1 d2 = 2000) (hf : fitsB a0 a1 a2 b0 b1 b2 = true) (hs1 : shareI a0 a1 a2 d0 d1 d2 = s1) (hs2 : shareI b0 b1 b2 d0 d1 d2 = s2) (hp : 0 ≤ s1) (hle : s1 ≤ s2) :
    Calls Try.prog 7 #[rv a0 a1 a2, rv b0 b1 b2, rv d0 d1 d2] w fun e w' => e = .returned (.bool true) ∧ Below w.heap.size w w' := by
  go_enter Try.func7, Try.ntmps7
  go_wp2_with fail
  with_reducible refine awake_k (fun x1 hb1 => ?_)
  try dsimp only
  have hz1 := hb1.size; (try simp only [World.size_alloc, World.size_setCell, World.size_drew] at hz1)
  have c1_0 : ∀ o, x1.cell? ⟨w.heap.size, o, none⟩ = _ := fun o => hb1.cell (p := ⟨w.heap.size, o, none⟩) (by simp only [World.size_alloc, World.size_setCell, World.size_drew] <;> omega)
  have g1_0 : ∀ o, x1.frozen? ⟨w.heap.size, o, none⟩ = _ := fun o => hb1.frozen (p := ⟨w.heap.size, o, none⟩) (by simp only [World.size_alloc, World.size_setCell, World.size_drew] <;> omega)
  have f1_0 : w.heap.size < x1.heap.size := by omega
  have c1_1 : ∀ o, x1.cell? ⟨w.heap.size + 1, o, none⟩ = _ := fun o => hb1.cell (p := ⟨w.heap.size + 1, o, none⟩) (by simp only [World.size_alloc, World.size_setCell, World.size_drew] <;> omega)
  have g1_1 : ∀ o, x1.frozen? ⟨w.heap.size + 1, o, none⟩ = _ := fun o => hb1.frozen (p := ⟨w.heap.size + 1, o, none⟩) (by simp only [World.size_alloc, World.size_setCell, World.size_drew] <;> omega)
  have f1_1 : w.heap.size + 1 < x1.heap.size := by omega
  have c1_2 : ∀ o, x1.cell? ⟨w.heap.size + 1 + 1, o, none⟩ = _ := fun o => hb1.cell (p := ⟨w.heap.size + 1 + 1, o, none⟩) (by simp only [World.size_alloc, World.size_setCell, World.size_drew] <;> omega)
  have g1_2 : ∀ o, x1.frozen? ⟨w.heap.size + 1 + 1, o, none⟩ = _ := fun o => hb1.frozen (p := ⟨w.heap.size + 1 + 1, o, none⟩) (by simp only [World.size_alloc, World.size_setCell, World.size_drew] <;> omega)
  have f1_2 : w.heap.size + 1 + 1 < x1.heap.size := by omega
  go_wp2_with fail
  with_reducible refine right_k (by assumption) (fun x2 hb2 => ?_)
  try dsimp only
  have hz2 := hb2.size; (try simp only [World.size_alloc, World.size_setCell, World.size_drew] at hz2)
  have c2_0 : ∀ o, x2.cell? ⟨w.heap.size, o, none⟩ = _ := fun o => hb2.cell (p := ⟨w.heap.size, o, none⟩) (by simp only [World.size_alloc, World.size_setCell, World.size_drew] <;> omega)
  have g2_0 : ∀ o, x2.frozen? ⟨w.heap.size, o, none⟩ = _ := fun o => hb2.frozen (p := ⟨w.heap.size, o, none⟩) (by simp only [World.size_alloc, World.size_setCell, World.size_drew] <;> omega)
  have f2_0 : w.heap.size < x2.heap.size := by omega
  have c2_1 : ∀ o, x2.cell? ⟨w.heap.size + 1, o, none⟩ = _ := fun o => hb2.cell (p := ⟨w.heap.size + 1, o, none⟩) (by simp only [World.size_alloc, World.size_setCell, World.size_drew] <;> omega)
  have g2_1 : ∀ o, x2.frozen? ⟨w.heap.size + 1, o, none⟩ = _ := fun o => hb2.frozen (p := ⟨w.heap.size + 1, o, none⟩) (by simp only [World.size_alloc, World.size_setCell, World.size_drew] <;> omega)
  have f2_1 : w.heap.size + 1 < x2.heap.size := by omega
  have c2_2 : ∀ o, x2.cell? ⟨w.heap.size + 1 + 1, o, none⟩ = _ := fun o => hb2.cell (p := ⟨w.heap.size + 1 + 1, o, none⟩) (by simp only [World.size_alloc, World.size_setCell, World.size_drew] <;> omega)
  have g2_2 : ∀ o, x2.frozen? ⟨w.heap.size + 1 + 1, o, none⟩ = _ := fun o => hb2.frozen (p := ⟨w.heap.size + 1 + 1, o, none⟩) (by simp only [World.size_alloc, World.size_setCell, World.size_drew] <;> omega)
  have f2_2 : w.heap.size + 1 + 1 < x2.heap.size := by omega
  go_wp2_with fail
  with_reducible refine right_k (by assumption) (fun x3 hb3 => ?_)
  try dsimp only
  have hz3 := hb3.size; (try simp only [World.size_alloc, World.size_setCell, World.size_drew] at hz3)
  have c3_0 : ∀ o, x3.cell? ⟨w.heap.size, o, none⟩ = _ := fun o => hb3.cell (p := ⟨w.heap.size, o, none⟩) (by simp only [World.size_alloc, World.size_setCell, World.size_drew] <;> omega)
  have g3_0 : ∀ o, x3.frozen? ⟨w.heap.size, o, none⟩ = _ := fun o => hb3.frozen (p := ⟨w.heap.size, o, none⟩) (by simp only [World.size_alloc, World.size_setCell, World.size_drew] <;> omega)
  have f3_0 : w.heap.size < x3.heap.size := by omega
  have c3_1 : ∀ o, x3.cell? ⟨w.heap.size + 1, o, none⟩ = _ := fun o => hb3.cell (p := ⟨w.heap.size + 1, o, none⟩) (by simp only [World.size_alloc, World.size_setCell, World.size_drew] <;> omega)
  have g3_1 : ∀ o, x3.frozen? ⟨w.heap.size + 1, o, none⟩ = _ := fun o => hb3.frozen (p := ⟨w.heap.size + 1, o, none⟩) (by simp only [World.size_alloc, World.size_setCell, World.size_drew] <;> omega)
  have f3_1 : w.heap.size + 1 < x3.heap.size := by omega
  have c3_2 : ∀ o, x3.cell? ⟨w.heap.size + 1 + 1, o, none⟩ = _ := fun o => hb3.cell (p := ⟨w.heap.size + 1 + 1, o, none⟩) (by simp only [World.size_alloc, World.size_setCell, World.size_drew] <;> omega)
  have g3_2 : ∀ o, x3.frozen? ⟨w.heap.size + 1 + 1, o, none⟩ = _ := fun o => hb3.frozen (p := ⟨w.heap.size + 1 + 1, o, none⟩) (by simp only [World.size_alloc, World.size_setCell, World.size_drew] <;> omega)
  have f3_2 : w.heap.size + 1 + 1 < x3.heap.size := by omega
  go_wp2_with fail
  with_reducible refine right_k (by assumption) (fun x4 hb4 => ?_)
  try dsimp only
  have hz4 := hb4.size; (try simp only [World.size_alloc, World.size_setCell, World.size_drew] at hz4)
  have c4_0 : ∀ o, x4.cell? ⟨w.heap.size, o, none⟩ = _ := fun o => hb4.cell (p := ⟨w.heap.size, o, none⟩) (by simp only [World.size_alloc, World.size_setCell, World.size_drew] <;> omega)
  have g4_0 : ∀ o, x4.frozen? ⟨w.heap.size, o, none⟩ = _ := fun o => hb4.frozen (p := ⟨w.heap.size, o, none⟩) (by simp only [World.size_alloc, World.size_setCell, World.size_drew] <;> omega)
  have f4_0 : w.heap.size < x4.heap.size := by omega
  have c4_1 : ∀ o, x4.cell? ⟨w.heap.size + 1, o, none⟩ = _ := fun o => hb4.cell (p := ⟨w.heap.size + 1, o, none⟩) (by simp only [World.size_alloc, World.size_setCell, World.size_drew] <;> omega)
  have g4_1 : ∀ o, x4.frozen? ⟨w.heap.size + 1, o, none⟩ = _ := fun o => hb4.frozen (p := ⟨w.heap.size + 1, o, none⟩) (by simp only [World.size_alloc, World.size_setCell, World.size_drew] <;> omega)
  have f4_1 : w.heap.size + 1 < x4.heap.size := by omega
  have c4_2 : ∀ o, x4.cell? ⟨w.heap.size + 1 + 1, o, none⟩ = _ := fun o => hb4.cell (p := ⟨w.heap.size + 1 + 1, o, none⟩) (by simp only [World.size_alloc, World.size_setCell, World.size_drew] <;> omega)
  have g4_2 : ∀ o, x4.frozen? ⟨w.heap.size + 1 + 1, o, none⟩ = _ := fun o => hb4.frozen (p := ⟨w.heap.size + 1 + 1, o, none⟩) (by simp only [World.size_alloc, World.size_setCell, World.size_drew] <;> omega)
  have f4_2 : w.heap.size + 1 + 1 < x4.heap.size := by omega
  go_wp2
  refine wp_loop_rounds 4 ?_
  repeat (any_goals (rw [rounds_succ]; go_wp2))
  refine wp_region_B (by kernel_rfl) (by kernel_rfl) ?_
  (repeat (first | (apply runS_skip (by rfl); (try simp only [Act.put, List.setIfInBounds_toArray, List.set_cons_zero, List.set_cons_succ])) | (apply runS_cons (by rfl); (· (intro w1 hS K hK; obtain ⟨q1, q2⟩ := cells_B hS; (go_simp); (first | with_reducible exact hK _ hS | exact hK _ hS | (with_reducible refine fits_k (by assumption) (fun w2 hb => ?_); exact hK _ (bel_call hS hb)) | (with_reducible refine share_k (by assumption) (fun w2 hb => ?_); exact hK _ (bel_call hS hb))))); (try simp only [Act.put, List.setIfInBounds_toArray, List.set_cons_zero, List.set_cons_succ]))))
  refine runS_nil (fun w2 hbz => ?_)
  go_wp2
  go_ret
  exact ⟨rfl, by (repeat (first | with_reducible exact Below.refl _ _ | with_reducible assumption | with_reducible refine Below.drew ?_ | with_reducible refine bl_drewN ?_ | (with_reducible refine bl_alloc ?_ ?_; · (first | omega | (simp; done) | (simp; omega))) | (with_reducible refine bl_set ?_ ?_; · (first | omega | (simp; done) | (simp; omega))) | (with_reducible refine bl_trans hbz ?_ ?_; · (first | omega | (simp; done) | (simp; omega))) | (with_reducible refine bl_trans hb4 ?_ ?_; · (first | omega | (simp; done) | (simp; omega))) | (with_reducible refine bl_trans hb3 ?_ ?_; · (first | omega | (simp; done) | (simp; omega))) | (with_reducible refine bl_trans hb2 ?_ ?_; · (first | omega | (simp; done) | (simp; omega))) | (with_reducible refine bl_trans hb1 ?_ ?_; · (first | omega | (simp; done) | (simp; omega)))))⟩

set_option maxHeartbeats 4000000 in
theorem sh_t4 (a0 a1 a2 b0 b1 b2 d0 d1 d2 : Int) (w : World) (s1 s2 : Int) (h0 : d0 ≤ 0) (h1 : d1 ≤ 0) (h2 : 0 < d2) (ra : rightB a0 a1 a2 = true) (rb : rightB b0 b1 b2 = true) (rd : rightB d0 d1 d2 = true) (hw : shareI d0 d1 d2 d0 d1 d2 = 1000) (hf : fitsB a0 a1 a2 b0 b1 b2 = true) (hs1 : shareI a0 a1 a2 d0 d1 d2 = s1) (hs2 : shareI b0 b1 b2 d0 d1 d2 = s2) (hp : 0 ≤ s1) (hle : s1 ≤ s2) :
    Calls Try.prog 7 #[rv a0 a1 a2, rv b0 b1 b2, rv d0 d1 d2] w fun e w' => e = .returned (.bool true) ∧ Below w.heap.size w w' := by
  go_enter Try.func7, Try.ntmps7
  go_wp2_with fail
  with_reducible refine awake_k (fun x1 hb1 => ?_)
  try dsimp only
  have hz1 := hb1.size; (try simp only [World.size_alloc, World.size_setCell, World.size_drew] at hz1)
  have c1_0 : ∀ o, x1.cell? ⟨w.heap.size, o, none⟩ = _ := fun o => hb1.cell (p := ⟨w.heap.size, o, none⟩) (by simp only [World.size_alloc, World.size_setCell, World.size_drew] <;> omega)
  have g1_0 : ∀ o, x1.frozen? ⟨w.heap.size, o, none⟩ = _ := fun o => hb1.frozen (p := ⟨w.heap.size, o, none⟩) (by simp only [World.size_alloc, World.size_setCell, World.size_drew] <;> omega)
  have f1_0 : w.heap.size < x1.heap.size := by omega
  have c1_1 : ∀ o, x1.cell? ⟨w.heap.size + 1, o, none⟩ = _ := fun o => hb1.cell (p := ⟨w.heap.size + 1, o, none⟩) (by simp only [World.size_alloc, World.size_setCell, World.size_drew] <;> omega)
  have g1_1 : ∀ o, x1.frozen? ⟨w.heap.size + 1, o, none⟩ = _ := fun o => hb1.frozen (p := ⟨w.heap.size + 1, o, none⟩) (by simp only [World.size_alloc, World.size_setCell, World.size_drew] <;> omega)
  have f1_1 : w.heap.size + 1 < x1.heap.size := by omega
  have c1_2 : ∀ o, x1.cell? ⟨w.heap.size + 1 + 1, o, none⟩ = _ := fun o => hb1.cell (p := ⟨w.heap.size + 1 + 1, o, none⟩) (by simp only [World.size_alloc, World.size_setCell, World.size_drew] <;> omega)
  have g1_2 : ∀ o, x1.frozen? ⟨w.heap.size + 1 + 1, o, none⟩ = _ := fun o => hb1.frozen (p := ⟨w.heap.size + 1 + 1, o, none⟩) (by simp only [World.size_alloc, World.size_setCell, World.size_drew] <;> omega)
  have f1_2 : w.heap.size + 1 + 1 < x1.heap.size := by omega
  go_wp2_with fail
  with_reducible refine right_k (by assumption) (fun x2 hb2 => ?_)
  try dsimp only
  have hz2 := hb2.size; (try simp only [World.size_alloc, World.size_setCell, World.size_drew] at hz2)
  have c2_0 : ∀ o, x2.cell? ⟨w.heap.size, o, none⟩ = _ := fun o => hb2.cell (p := ⟨w.heap.size, o, none⟩) (by simp only [World.size_alloc, World.size_setCell, World.size_drew] <;> omega)
  have g2_0 : ∀ o, x2.frozen? ⟨w.heap.size, o, none⟩ = _ := fun o => hb2.frozen (p := ⟨w.heap.size, o, none⟩) (by simp only [World.size_alloc, World.size_setCell, World.size_drew] <;> omega)
  have f2_0 : w.heap.size < x2.heap.size := by omega
  have c2_1 : ∀ o, x2.cell? ⟨w.heap.size + 1, o, none⟩ = _ := fun o => hb2.cell (p := ⟨w.heap.size + 1, o, none⟩) (by simp only [World.size_alloc, World.size_setCell, World.size_drew] <;> omega)
  have g2_1 : ∀ o, x2.frozen? ⟨w.heap.size + 1, o, none⟩ = _ := fun o => hb2.frozen (p := ⟨w.heap.size + 1, o, none⟩) (by simp only [World.size_alloc, World.size_setCell, World.size_drew] <;> omega)
  have f2_1 : w.heap.size + 1 < x2.heap.size := by omega
  have c2_2 : ∀ o, x2.cell? ⟨w.heap.size + 1 + 1, o, none⟩ = _ := fun o => hb2.cell (p := ⟨w.heap.size + 1 + 1, o, none⟩) (by simp only [World.size_alloc, World.size_setCell, World.size_drew] <;> omega)
  have g2_2 : ∀ o, x2.frozen? ⟨w.heap.size + 1 + 1, o, none⟩ = _ := fun o => hb2.frozen (p := ⟨w.heap.size + 1 + 1, o, none⟩) (by simp only [World.size_alloc, World.size_setCell, World.size_drew] <;> omega)
  have f2_2 : w.heap.size + 1 + 1 < x2.heap.size := by omega
  go_wp2_with fail
  with_reducible refine right_k (by assumption) (fun x3 hb3 => ?_)
  try dsimp only
  have hz3 := hb3.size; (try simp only [World.size_alloc, World.size_setCell, World.size_drew] at hz3)
  have c3_0 : ∀ o, x3.cell? ⟨w.heap.size, o, none⟩ = _ := fun o => hb3.cell (p := ⟨w.heap.size, o, none⟩) (by simp only [World.size_alloc, World.size_setCell, World.size_drew] <;> omega)
  have g3_0 : ∀ o, x3.frozen? ⟨w.heap.size, o, none⟩ = _ := fun o => hb3.frozen (p := ⟨w.heap.size, o, none⟩) (by simp only [World.size_alloc, World.size_setCell, World.size_drew] <;> omega)
  have f3_0 : w.heap.size < x3.heap.size := by omega
  have c3_1 : ∀ o, x3.cell? ⟨w.heap.size + 1, o, none⟩ = _ := fun o => hb3.cell (p := ⟨w.heap.size + 1, o, none⟩) (by simp only [World.size_alloc, World.size_setCell, World.size_drew] <;> omega)
  have g3_1 : ∀ o, x3.frozen? ⟨w.heap.size + 1, o, none⟩ = _ := fun o => hb3.frozen (p := ⟨w.heap.size + 1, o, none⟩) (by simp only [World.size_alloc, World.size_setCell, World.size_drew] <;> omega)
  have f3_1 : w.heap.size + 1 < x3.heap.size := by omega
  have c3_2 : ∀ o, x3.cell? ⟨w.heap.size + 1 + 1, o, none⟩ = _ := fun o => hb3.cell (p := ⟨w.heap.size + 1 + 1, o, none⟩) (by simp only [World.size_alloc, World.size_setCell, World.size_drew] <;> omega)
  have g3_2 : ∀ o, x3.frozen? ⟨w.heap.size + 1 + 1, o, none⟩ = _ := fun o => hb3.frozen (p := ⟨w.heap.size + 1 + 1, o, none⟩) (by simp only [World.size_alloc, World.size_setCell, World.size_drew] <;> omega)
  have f3_2 : w.heap.size + 1 + 1 < x3.heap.size := by omega
  go_wp2_with fail
  with_reducible refine right_k (by assumption) (fun x4 hb4 => ?_)
  try dsimp only
  have hz4 := hb4.size; (try simp only [World.size_alloc, World.size_setCell, World.size_drew] at hz4)
  have c4_0 : ∀ o, x4.cell? ⟨w.heap.size, o, none⟩ = _ := fun o => hb4.cell (p := ⟨w.heap.size, o, none⟩) (by simp only [World.size_alloc, World.size_setCell, World.size_drew] <;> omega)
  have g4_0 : ∀ o, x4.frozen? ⟨w.heap.size, o, none⟩ = _ := fun o => hb4.frozen (p := ⟨w.heap.size, o, none⟩) (by simp only [World.size_alloc, World.size_setCell, World.size_drew] <;> omega)
  have f4_0 : w.heap.size < x4.heap.size := by omega
  have c4_1 : ∀ o, x4.cell? ⟨w.heap.size + 1, o, none⟩ = _ := fun o => hb4.cell (p := ⟨w.heap.size + 1, o, none⟩) (by simp only [World.size_alloc, World.size_setCell, World.size_drew] <;> omega)
  have g4_1 : ∀ o, x4.frozen? ⟨w.heap.size + 1, o, none⟩ = _ := fun o => hb4.frozen (p := ⟨w.heap.size + 1, o, none⟩) (by simp only [World.size_alloc, World.size_setCell, World.size_drew] <;> omega)
  have f4_1 : w.heap.size + 1 < x4.heap.size := by omega
  have c4_2 : ∀ o, x4.cell? ⟨w.heap.size + 1 + 1, o, none⟩ = _ := fun o => hb4.cell (p := ⟨w.heap.size + 1 + 1, o, none⟩) (by simp only [World.size_alloc, World.size_setCell, World.size_drew] <;> omega)
  have g4_2 : ∀ o, x4.frozen? ⟨w.heap.size + 1 + 1, o, none⟩ = _ := fun o => hb4.frozen (p := ⟨w.heap.size + 1 + 1, o, none⟩) (by simp only [World.size_alloc, World.size_setCell, World.size_drew] <;> omega)
  have f4_2 : w.heap.size + 1 + 1 < x4.heap.size := by omega
  go_wp2
  refine wp_loop_rounds 4 ?_
  repeat (any_goals (rw [rounds_succ]; go_wp2))
  refine wp_region_B (by kernel_rfl) (by kernel_rfl) ?_
  (repeat (first | (apply runS_skip (by rfl); (try simp only [Act.put, List.setIfInBounds_toArray, List.set_cons_zero, List.set_cons_succ])) | (apply runS_cons (by rfl); (· (intro w1 hS K hK; obtain ⟨q1, q2⟩ := cells_B hS; (go_simp); (first | with_reducible exact hK _ hS | exact hK _ hS | (with_reducible refine fits_k (by assumption) (fun w2 hb => ?_); exact hK _ (bel_call hS hb)) | (with_reducible refine share_k (by assumption) (fun w2 hb => ?_); exact hK _ (bel_call hS hb))))); (try simp only [Act.put, List.setIfInBounds_toArray, List.set_cons_zero, List.set_cons_succ]))))
  refine runS_nil (fun w2 hbz => ?_)
  go_wp2
  go_ret
  exact ⟨rfl, by (repeat (first | with_reducible exact Below.refl _ _ | with_reducible assumption | with_reducible refine Below.drew ?_ | with_reducible refine bl_drewN ?_ | (with_reducible refine bl_alloc ?_ ?_; · (first | omega | (simp; done) | (simp; omega))) | (with_reducible refine bl_set ?_ ?_; · (first | omega | (simp; done) | (simp; omega))) | (with_reducible refine bl_trans hbz ?_ ?_; · (first | omega | (simp; done) | (simp; omega))) | (with_reducible refine bl_trans hb4 ?_ ?_; · (first | omega | (simp; done) | (simp; omega))) | (with_reducible refine bl_trans hb3 ?_ ?_; · (first | omega | (simp; done) | (simp; omega))) | (with_reducible refine bl_trans hb2 ?_ ?_; · (first | omega | (simp; done) | (simp; omega))) | (with_reducible refine bl_trans hb1 ?_ ?_; · (first | omega | (simp; done) | (simp; omega)))))⟩

set_option maxHeartbeats 4000000 in
theorem sh_t5 (a0 a1 a2 b0 b1 b2 d0 d1 d2 : Int) (w : World) (s1 s2 : Int) (h0 : 0 < d0) (h1 : d1 ≤ 0) (h2 : 0 < d2) (ra : rightB a0 a1 a2 = true) (rb : rightB b0 b1 b2 = true) (rd : rightB d0 d1 d2 = true) (hw : shareI d0 d1 d2 d0 d1 d2 = 2000) (hf : fitsB a0 a1 a2 b0 b1 b2 = true) (hs1 : shareI a0 a1 a2 d0 d1 d2 = s1) (hs2 : shareI b0 b1 b2 d0 d1 d2 = s2) (hp : 0 ≤ s1) (hle : s1 ≤ s2) :
    Calls Try.prog 7 #[rv a0 a1 a2, rv b0 b1 b2, rv d0 d1 d2] w fun e w' => e = .returned (.bool true) ∧ Below w.heap.size w w' := by
  go_enter Try.func7, Try.ntmps7
  go_wp2_with fail
  with_reducible refine awake_k (fun x1 hb1 => ?_)
  try dsimp only
  have hz1 := hb1.size; (try simp only [World.size_alloc, World.size_setCell, World.size_drew] at hz1)
  have c1_0 : ∀ o, x1.cell? ⟨w.heap.size, o, none⟩ = _ := fun o => hb1.cell (p := ⟨w.heap.size, o, none⟩) (by simp only [World.size_alloc, World.size_setCell, World.size_drew] <;> omega)
  have g1_0 : ∀ o, x1.frozen? ⟨w.heap.size, o, none⟩ = _ := fun o => hb1.frozen (p := ⟨w.heap.size, o, none⟩) (by simp only [World.size_alloc, World.size_setCell, World.size_drew] <;> omega)
  have f1_0 : w.heap.size < x1.heap.size := by omega
  have c1_1 : ∀ o, x1.cell? ⟨w.heap.size + 1, o, none⟩ = _ := fun o => hb1.cell (p := ⟨w.heap.size + 1, o, none⟩) (by simp only [World.size_alloc, World.size_setCell, World.size_drew] <;> omega)
  have g1_1 : ∀ o, x1.frozen? ⟨w.heap.size + 1, o, none⟩ = _ := fun o => hb1.frozen (p := ⟨w.heap.size + 1, o, none⟩) (by simp only [World.size_alloc, World.size_setCell, World.size_drew] <;> omega)
  have f1_1 : w.heap.size + 1 < x1.heap.size := by omega
  have c1_2 : ∀ o, x1.cell? ⟨w.heap.size + 1 + 1, o, none⟩ = _ := fun o => hb1.cell (p := ⟨w.heap.size + 1 + 1, o, none⟩) (by simp only [World.size_alloc, World.size_setCell, World.size_drew] <;> omega)
  have g1_2 : ∀ o, x1.frozen? ⟨w.heap.size + 1 + 1, o, none⟩ = _ := fun o => hb1.frozen (p := ⟨w.heap.size + 1 + 1, o, none⟩) (by simp only [World.size_alloc, World.size_setCell, World.size_drew] <;> omega)
  have f1_2 : w.heap.size + 1 + 1 < x1.heap.size := by omega
  go_wp2_with fail
  with_reducible refine right_k (by assumption) (fun x2 hb2 => ?_)
  try dsimp only
  have hz2 := hb2.size; (try simp only [World.size_alloc, World.size_setCell, World.size_drew] at hz2)
  have c2_0 : ∀ o, x2.cell? ⟨w.heap.size, o, none⟩ = _ := fun o => hb2.cell (p := ⟨w.heap.size, o, none⟩) (by simp only [World.size_alloc, World.size_setCell, World.size_drew] <;> omega)
  have g2_0 : ∀ o, x2.frozen? ⟨w.heap.size, o, none⟩ = _ := fun o => hb2.frozen (p := ⟨w.heap.size, o, none⟩) (by simp only [World.size_alloc, World.size_setCell, World.size_drew] <;> omega)
  have f2_0 : w.heap.size < x2.heap.size := by omega
  have c2_1 : ∀ o, x2.cell? ⟨w.heap.size + 1, o, none⟩ = _ := fun o => hb2.cell (p := ⟨w.heap.size + 1, o, none⟩) (by simp only [World.size_alloc, World.size_setCell, World.size_drew] <;> omega)
  have g2_1 : ∀ o, x2.frozen? ⟨w.heap.size + 1, o, none⟩ = _ := fun o => hb2.frozen (p := ⟨w.heap.size + 1, o, none⟩) (by simp only [World.size_alloc, World.size_setCell, World.size_drew] <;> omega)
  have f2_1 : w.heap.size + 1 < x2.heap.size := by omega
  have c2_2 : ∀ o, x2.cell? ⟨w.heap.size + 1 + 1, o, none⟩ = _ := fun o => hb2.cell (p := ⟨w.heap.size + 1 + 1, o, none⟩) (by simp only [World.size_alloc, World.size_setCell, World.size_drew] <;> omega)
  have g2_2 : ∀ o, x2.frozen? ⟨w.heap.size + 1 + 1, o, none⟩ = _ := fun o => hb2.frozen (p := ⟨w.heap.size + 1 + 1, o, none⟩) (by simp only [World.size_alloc, World.size_setCell, World.size_drew] <;> omega)
  have f2_2 : w.heap.size + 1 + 1 < x2.heap.size := by omega
  go_wp2_with fail
  with_reducible refine right_k (by assumption) (fun x3 hb3 => ?_)
  try dsimp only
  have hz3 := hb3.size; (try simp only [World.size_alloc, World.size_setCell, World.size_drew] at hz3)
  have c3_0 : ∀ o, x3.cell? ⟨w.heap.size, o, none⟩ = _ := fun o => hb3.cell (p := ⟨w.heap.size, o, none⟩) (by simp only [World.size_alloc, World.size_setCell, World.size_drew] <;> omega)
  have g3_0 : ∀ o, x3.frozen? ⟨w.heap.size, o, none⟩ = _ := fun o => hb3.frozen (p := ⟨w.heap.size, o, none⟩) (by simp only [World.size_alloc, World.size_setCell, World.size_drew] <;> omega)
  have f3_0 : w.heap.size < x3.heap.size := by omega
  have c3_1 : ∀ o, x3.cell? ⟨w.heap.size + 1, o, none⟩ = _ := fun o => hb3.cell (p := ⟨w.heap.size + 1, o, none⟩) (by simp only [World.size_alloc, World.size_setCell, World.size_drew] <;> omega)
  have g3_1 : ∀ o, x3.frozen? ⟨w.heap.size + 1, o, none⟩ = _ := fun o => hb3.frozen (p := ⟨w.heap.size + 1, o, none⟩) (by simp only [World.size_alloc, World.size_setCell, World.size_drew] <;> omega)
  have f3_1 : w.heap.size + 1 < x3.heap.size := by omega
  have c3_2 : ∀ o, x3.cell? ⟨w.heap.size + 1 + 1, o, none⟩ = _ := fun o => hb3.cell (p := ⟨w.heap.size + 1 + 1, o, none⟩) (by simp only [World.size_alloc, World.size_setCell, World.size_drew] <;> omega)
  have g3_2 : ∀ o, x3.frozen? ⟨w.heap.size + 1 + 1, o, none⟩ = _ := fun o => hb3.frozen (p := ⟨w.heap.size + 1 + 1, o, none⟩) (by simp only [World.size_alloc, World.size_setCell, World.size_drew] <;> omega)
  have f3_2 : w.heap.size + 1 + 1 < x3.heap.size := by omega
  go_wp2_with fail
  with_reducible refine right_k (by assumption) (fun x4 hb4 => ?_)
  try dsimp only
  have hz4 := hb4.size; (try simp only [World.size_alloc, World.size_setCell, World.size_drew] at hz4)
  have c4_0 : ∀ o, x4.cell? ⟨w.heap.size, o, none⟩ = _ := fun o => hb4.cell (p := ⟨w.heap.size, o, none⟩) (by simp only [World.size_alloc, World.size_setCell, World.size_drew] <;> omega)
  have g4_0 : ∀ o, x4.frozen? ⟨w.heap.size, o, none⟩ = _ := fun o => hb4.frozen (p := ⟨w.heap.size, o, none⟩) (by simp only [World.size_alloc, World.size_setCell, World.size_drew] <;> omega)
  have f4_0 : w.heap.size < x4.heap.size := by omega
  have c4_1 : ∀ o, x4.cell? ⟨w.heap.size + 1, o, none⟩ = _ := fun o => hb4.cell (p := ⟨w.heap.size + 1, o, none⟩) (by simp only [World.size_alloc, World.size_setCell, World.size_drew] <;> omega)
  have g4_1 : ∀ o, x4.frozen? ⟨w.heap.size + 1, o, none⟩ = _ := fun o => hb4.frozen (p := ⟨w.heap.size + 1, o, none⟩) (by simp only [World.size_alloc, World.size_setCell, World.size_drew] <;> omega)
  have f4_1 : w.heap.size + 1 < x4.heap.size := by omega
  have c4_2 : ∀ o, x4.cell? ⟨w.heap.size + 1 + 1, o, none⟩ = _ := fun o => hb4.cell (p := ⟨w.heap.size + 1 + 1, o, none⟩) (by simp only [World.size_alloc, World.size_setCell, World.size_drew] <;> omega)
  have g4_2 : ∀ o, x4.frozen? ⟨w.heap.size + 1 + 1, o, none⟩ = _ := fun o => hb4.frozen (p := ⟨w.heap.size + 1 + 1, o, none⟩) (by simp only [World.size_alloc, World.size_setCell, World.size_drew] <;> omega)
  have f4_2 : w.heap.size + 1 + 1 < x4.heap.size := by omega
  go_wp2
  refine wp_loop_rounds 4 ?_
  repeat (any_goals (rw [rounds_succ]; go_wp2))
  refine wp_region_B (by kernel_rfl) (by kernel_rfl) ?_
  (repeat (first | (apply runS_skip (by rfl); (try simp only [Act.put, List.setIfInBounds_toArray, List.set_cons_zero, List.set_cons_succ])) | (apply runS_cons (by rfl); (· (intro w1 hS K hK; obtain ⟨q1, q2⟩ := cells_B hS; (go_simp); (first | with_reducible exact hK _ hS | exact hK _ hS | (with_reducible refine fits_k (by assumption) (fun w2 hb => ?_); exact hK _ (bel_call hS hb)) | (with_reducible refine share_k (by assumption) (fun w2 hb => ?_); exact hK _ (bel_call hS hb))))); (try simp only [Act.put, List.setIfInBounds_toArray, List.set_cons_zero, List.set_cons_succ]))))
  refine runS_nil (fun w2 hbz => ?_)
  go_wp2
  go_ret
  exact ⟨rfl, by (repeat (first | with_reducible exact Below.refl _ _ | with_reducible assumption | with_reducible refine Below.drew ?_ | with_reducible refine bl_drewN ?_ | (with_reducible refine bl_alloc ?_ ?_; · (first | omega | (simp; done) | (simp; omega))) | (with_reducible refine bl_set ?_ ?_; · (first | omega | (simp; done) | (simp; omega))) | (with_reducible refine bl_trans hbz ?_ ?_; · (first | omega | (simp; done) | (simp; omega))) | (with_reducible refine bl_trans hb4 ?_ ?_; · (first | omega | (simp; done) | (simp; omega))) | (with_reducible refine bl_trans hb3 ?_ ?_; · (first | omega | (simp; done) | (simp; omega))) | (with_reducible refine bl_trans hb2 ?_ ?_; · (first | omega | (simp; done) | (simp; omega))) | (with_reducible refine bl_trans hb1 ?_ ?_; · (first | omega | (simp; done) | (simp; omega)))))⟩

set_option maxHeartbeats 4000000 in
theorem sh_t6 (a0 a1 a2 b0 b1 b2 d0 d1 d2 : Int) (w : World) (s1 s2 : Int) (h0 : d0 ≤ 0) (h1 : 0 < d1) (h2 : 0 < d2) (ra : rightB a0 a1 a2 = true) (rb : rightB b0 b1 b2 = true) (rd : rightB d0 d1 d2 = true) (hw : shareI d0 d1 d2 d0 d1 d2 = 2000) (hf : fitsB a0 a1 a2 b0 b1 b2 = true) (hs1 : shareI a0 a1 a2 d0 d1 d2 = s1) (hs2 : shareI b0 b1 b2 d0 d1 d2 = s2) (hp : 0 ≤ s1) (hle : s1 ≤ s2) :
    Calls Try.prog 7 #[rv a0 a1 a2, rv b0 b1 b2, rv d0 d1 d2] w fun e w' => e = .returned (.bool true) ∧ Below w.heap.size w w' := by
  go_enter Try.func7, Try.ntmps7
  go_wp2_with fail
  with_reducible refine awake_k (fun x1 hb1 => ?_)
  try dsimp only
  have hz1 := hb1.size; (try simp only [World.size_alloc, World.size_setCell, World.size_drew] at hz1)
  have c1_0 : ∀ o, x1.cell? ⟨w.heap.size, o, none⟩ = _ := fun o => hb1.cell (p := ⟨w.heap.size, o, none⟩) (by simp only [World.size_alloc, World.size_setCell, World.size_drew] <;> omega)
  have g1_0 : ∀ o, x1.frozen? ⟨w.heap.size, o, none⟩ = _ := fun o => hb1.frozen (p := ⟨w.heap.size, o, none⟩) (by simp only [World.size_alloc, World.size_setCell, World.size_drew] <;> omega)
  have f1_0 : w.heap.size < x1.heap.size := by omega
  have c1_1 : ∀ o, x1.cell? ⟨w.heap.size + 1, o, none⟩ = _ := fun o => hb1.cell (p := ⟨w.heap.size + 1, o, none⟩) (by simp only [World.size_alloc, World.size_setCell, World.size_drew] <;> omega)
  have g1_1 : ∀ o, x1.frozen? ⟨w.heap.size + 1, o, none⟩ = _ := fun o => hb1.frozen (p := ⟨w.heap.size + 1, o, none⟩) (by simp only [World.size_alloc, World.size_setCell, World.size_drew] <;> omega)
  have f1_1 : w.heap.size + 1 < x1.heap.size := by omega
  have c1_2 : ∀ o, x1.cell? ⟨w.heap.size + 1 + 1, o, none⟩ = _ := fun o => hb1.cell (p := ⟨w.heap.size + 1 + 1, o, none⟩) (by simp only [World.size_alloc, World.size_setCell, World.size_drew] <;> omega)
  have g1_2 : ∀ o, x1.frozen? ⟨w.heap.size + 1 + 1, o, none⟩ = _ := fun o => hb1.frozen (p := ⟨w.heap.size + 1 + 1, o, none⟩) (by simp only [World.size_alloc, World.size_setCell, World.size_drew] <;> omega)
  have f1_2 : w.heap.size + 1 + 1 < x1.heap.size := by omega
  go_wp2_with fail
  with_reducible refine right_k (by assumption) (fun x2 hb2 => ?_)
  try dsimp only
  have hz2 := hb2.size; (try simp only [World.size_alloc, World.size_setCell, World.size_drew] at hz2)
  have c2_0 : ∀ o, x2.cell? ⟨w.heap.size, o, none⟩ = _ := fun o => hb2.cell (p := ⟨w.heap.size, o, none⟩) (by simp only [World.size_alloc, World.size_setCell, World.size_drew] <;> omega)
  have g2_0 : ∀ o, x2.frozen? ⟨w.heap.size, o, none⟩ = _ := fun o => hb2.frozen (p := ⟨w.heap.size, o, none⟩) (by simp only [World.size_alloc, World.size_setCell, World.size_drew] <;> omega)
  have f2_0 : w.heap.size < x2.heap.size := by omega
  have c2_1 : ∀ o, x2.cell? ⟨w.heap.size + 1, o, none⟩ = _ := fun o => hb2.cell (p := ⟨w.heap.size + 1, o, none⟩) (by simp only [World.size_alloc, World.size_setCell, World.size_drew] <;> omega)
  have g2_1 : ∀ o, x2.frozen? ⟨w.heap.size + 1, o, none⟩ = _ := fun o => hb2.frozen (p := ⟨w.heap.size + 1, o, none⟩) (by simp only [World.size_alloc, World.size_setCell, World.size_drew] <;> omega)
  have f2_1 : w.heap.size + 1 < x2.heap.size := by omega
  have c2_2 : ∀ o, x2.cell? ⟨w.heap.size + 1 + 1, o, none⟩ = _ := fun o => hb2.cell (p := ⟨w.heap.size + 1 + 1, o, none⟩) (by simp only [World.size_alloc, World.size_setCell, World.size_drew] <;> omega)
  have g2_2 : ∀ o, x2.frozen? ⟨w.heap.size + 1 + 1, o, none⟩ = _ := fun o => hb2.frozen (p := ⟨w.heap.size + 1 + 1, o, none⟩) (by simp only [World.size_alloc, World.size_setCell, World.size_drew] <;> omega)
  have f2_2 : w.heap.size + 1 + 1 < x2.heap.size := by omega
  go_wp2_with fail
  with_reducible refine right_k (by assumption) (fun x3 hb3 => ?_)
  try dsimp only
  have hz3 := hb3.size; (try simp only [World.size_alloc, World.size_setCell, World.size_drew] at hz3)
  have c3_0 : ∀ o, x3.cell? ⟨w.heap.size, o, none⟩ = _ := fun o => hb3.cell (p := ⟨w.heap.size, o, none⟩) (by simp only [World.size_alloc, World.size_setCell, World.size_drew] <;> omega)
  have g3_0 : ∀ o, x3.frozen? ⟨w.heap.size, o, none⟩ = _ := fun o => hb3.frozen (p := ⟨w.heap.size, o, none⟩) (by simp only [World.size_alloc, World.size_setCell, World.size_drew] <;> omega)
  have f3_0 : w.heap.size < x3.heap.size := by omega
  have c3_1 : ∀ o, x3.cell? ⟨w.heap.size + 1, o, none⟩ = _ := fun o => hb3.cell (p := ⟨w.heap.size + 1, o, none⟩) (by simp only [World.size_alloc, World.size_setCell, World.size_drew] <;> omega)
  have g3_1 : ∀ o, x3.frozen? ⟨w.heap.size + 1, o, none⟩ = _ := fun o => hb3.frozen (p := ⟨w.heap.size + 1, o, none⟩) (by simp only [World.size_alloc, World.size_setCell, World.size_drew] <;> omega)
  have f3_1 : w.heap.size + 1 < x3.heap.size := by omega
  have c3_2 : ∀ o, x3.cell? ⟨w.heap.size + 1 + 1, o, none⟩ = _ := fun o => hb3.cell (p := ⟨w.heap.size + 1 + 1, o, none⟩) (by simp only [World.size_alloc, World.size_setCell, World.size_drew] <;> omega)
  have g3_2 : ∀ o, x3.frozen? ⟨w.heap.size + 1 + 1, o, none⟩ = _ := fun o => hb3.frozen (p := ⟨w.heap.size + 1 + 1, o, none⟩) (by simp only [World.size_alloc, World.size_setCell, World.size_drew] <;> omega)
  have f3_2 : w.heap.size + 1 + 1 < x3.heap.size := by omega
  go_wp2_with fail
  with_reducible refine right_k (by assumption) (fun x4 hb4 => ?_)
  try dsimp only
  have hz4 := hb4.size; (try simp only [World.size_alloc, World.size_setCell, World.size_drew] at hz4)
  have c4_0 : ∀ o, x4.cell? ⟨w.heap.size, o, none⟩ = _ := fun o => hb4.cell (p := ⟨w.heap.size, o, none⟩) (by simp only [World.size_alloc, World.size_setCell, World.size_drew] <;> omega)
  have g4_0 : ∀ o, x4.frozen? ⟨w.heap.size, o, none⟩ = _ := fun o => hb4.frozen (p := ⟨w.heap.size, o, none⟩) (by simp only [World.size_alloc, World.size_setCell, World.size_drew] <;> omega)
  have f4_0 : w.heap.size < x4.heap.size := by omega
  have c4_1 : ∀ o, x4.cell? ⟨w.heap.size + 1, o, none⟩ = _ := fun o => hb4.cell (p := ⟨w.heap.size + 1, o, none⟩) (by simp only [World.size_alloc, World.size_setCell, World.size_drew] <;> omega)
  have g4_1 : ∀ o, x4.frozen? ⟨w.heap.size + 1, o, none⟩ = _ := fun o => hb4.frozen (p := ⟨w.heap.size + 1, o, none⟩) (by simp only [World.size_alloc, World.size_setCell, World.size_drew] <;> omega)
  have f4_1 : w.heap.size + 1 < x4.heap.size := by omega
  have c4_2 : ∀ o, x4.cell? ⟨w.heap.size + 1 + 1, o, none⟩ = _ := fun o => hb4.cell (p := ⟨w.heap.size + 1 + 1, o, none⟩) (by simp only [World.size_alloc, World.size_setCell, World.size_drew] <;> omega)
  have g4_2 : ∀ o, x4.frozen? ⟨w.heap.size + 1 + 1, o, none⟩ = _ := fun o => hb4.frozen (p := ⟨w.heap.size + 1 + 1, o, none⟩) (by simp only [World.size_alloc, World.size_setCell, World.size_drew] <;> omega)
  have f4_2 : w.heap.size + 1 + 1 < x4.heap.size := by omega
  go_wp2
  refine wp_loop_rounds 4 ?_
  repeat (any_goals (rw [rounds_succ]; go_wp2))
  refine wp_region_B (by kernel_rfl) (by kernel_rfl) ?_
  (repeat (first | (apply runS_skip (by rfl); (try simp only [Act.put, List.setIfInBounds_toArray, List.set_cons_zero, List.set_cons_succ])) | (apply runS_cons (by rfl); (· (intro w1 hS K hK; obtain ⟨q1, q2⟩ := cells_B hS; (go_simp); (first | with_reducible exact hK _ hS | exact hK _ hS | (with_reducible refine fits_k (by assumption) (fun w2 hb => ?_); exact hK _ (bel_call hS hb)) | (with_reducible refine share_k (by assumption) (fun w2 hb => ?_); exact hK _ (bel_call hS hb))))); (try simp only [Act.put, List.setIfInBounds_toArray, List.set_cons_zero, List.set_cons_succ]))))
  refine runS_nil (fun w2 hbz => ?_)
  go_wp2
  go_ret
  exact ⟨rfl, by (repeat (first | with_reducible exact Below.refl _ _ | with_reducible assumption | with_reducible refine Below.drew ?_ | with_reducible refine bl_drewN ?_ | (with_reducible refine bl_alloc ?_ ?_; · (first | omega | (simp; done) | (simp; omega))) | (with_reducible refine bl_set ?_ ?_; · (first | omega | (simp; done) | (simp; omega))) | (with_reducible refine bl_trans hbz ?_ ?_; · (first | omega | (simp; done) | (simp; omega))) | (with_reducible refine bl_trans hb4 ?_ ?_; · (first | omega | (simp; done) | (simp; omega))) | (with_reducible refine bl_trans hb3 ?_ ?_; · (first | omega | (simp; done) | (simp; omega))) | (with_reducible refine bl_trans hb2 ?_ ?_; · (first | omega | (simp; done) | (simp; omega))) | (with_reducible refine bl_trans hb1 ?_ ?_; · (first | omega | (simp; done) | (simp; omega)))))⟩

set_option maxHeartbeats 4000000 in
theorem sh_t7 (a0 a1 a2 b0 b1 b2 d0 d1 d2 : Int) (w : World) (s1 s2 : Int) (h0 : 0 < d0) (h1 : 0 < d1) (h2 : 0 < d2) (ra : rightB a0 a1 a2 = true) (rb : rightB b0 b1 b2 = true) (rd : rightB d0 d1 d2 = true) (hw : shareI d0 d1 d2 d0 d1 d2 = 3000) (hf : fitsB a0 a1 a2 b0 b1 b2 = true) (hs1 : shareI a0 a1 a2 d0 d1 d2 = s1) (hs2 : shareI b0 b1 b2 d0 d1 d2 = s2) (hp : 0 ≤ s1) (hle : s1 ≤ s2) :
    Calls Try.prog 7 #[rv a0 a1 a2, rv b0 b1 b2, rv d0 d1 d2] w fun e w' => e = .returned (.bool true) ∧ Below w.heap.size w w' := by
  go_enter Try.func7, Try.ntmps7
  go_wp2_with fail
  with_reducible refine awake_k (fun x1 hb1 => ?_)
  try dsimp only
  have hz1 := hb1.size; (try simp only [World.size_alloc, World.size_setCell, World.size_drew] at hz1)
  have c1_0 : ∀ o, x1.cell? ⟨w.heap.size, o, none⟩ = _ := fun o => hb1.cell (p := ⟨w.heap.size, o, none⟩) (by simp only [World.size_alloc, World.size_setCell, World.size_drew] <;> omega)
  have g1_0 : ∀ o, x1.frozen? ⟨w.heap.size, o, none⟩ = _ := fun o => hb1.frozen (p := ⟨w.heap.size, o, none⟩) (by simp only [World.size_alloc, World.size_setCell, World.size_drew] <;> omega)
  have f1_0 : w.heap.size < x1.heap.size := by omega
  have c1_1 : ∀ o, x1.cell? ⟨w.heap.size + 1, o, none⟩ = _ := fun o => hb1.cell (p := ⟨w.heap.size + 1, o, none⟩) (by simp only [World.size_alloc, World.size_setCell, World.size_drew] <;> omega)
  have g1_1 : ∀ o, x1.frozen? ⟨w.heap.size + 1, o, none⟩ = _ := fun o => hb1.frozen (p := ⟨w.heap.size + 1, o, none⟩) (by simp only [World.size_alloc, World.size_setCell, World.size_drew] <;> omega)
  have f1_1 : w.heap.size + 1 < x1.heap.size := by omega
  have c1_2 : ∀ o, x1.cell? ⟨w.heap.size + 1 + 1, o, none⟩ = _ := fun o => hb1.cell (p := ⟨w.heap.size + 1 + 1, o, none⟩) (by simp only [World.size_alloc, World.size_setCell, World.size_drew] <;> omega)
  have g1_2 : ∀ o, x1.frozen? ⟨w.heap.size + 1 + 1, o, none⟩ = _ := fun o => hb1.frozen (p := ⟨w.heap.size + 1 + 1, o, none⟩) (by simp only [World.size_alloc, World.size_setCell, World.size_drew] <;> omega)
  have f1_2 : w.heap.size + 1 + 1 < x1.heap.size := by omega
  go_wp2_with fail
  with_reducible refine right_k (by assumption) (fun x2 hb2 => ?_)
  try dsimp only
  have hz2 := hb2.size; (try simp only [World.size_alloc, World.size_setCell, World.size_drew] at hz2)
  have c2_0 : ∀ o, x2.cell? ⟨w.heap.size, o, none⟩ = _ := fun o => hb2.cell (p := ⟨w.heap.size, o, none⟩) (by simp only [World.size_alloc, World.size_setCell, World.size_drew] <;> omega)
  have g2_0 : ∀ o, x2.frozen? ⟨w.heap.size, o, none⟩ = _ := fun o => hb2.frozen (p := ⟨w.heap.size, o, none⟩) (by simp only [World.size_alloc, World.size_setCell, World.size_drew] <;> omega)
  have f2_0 : w.heap.size < x2.heap.size := by omega
  have c2_1 : ∀ o, x2.cell? ⟨w.heap.size + 1, o, none⟩ = _ := fun o => hb2.cell (p := ⟨w.heap.size + 1, o, none⟩) (by simp only [World.size_alloc, World.size_setCell, World.size_drew] <;> omega)
  have g2_1 : ∀ o, x2.frozen? ⟨w.heap.size + 1, o, none⟩ = _ := fun o => hb2.frozen (p := ⟨w.heap.size + 1, o, none⟩) (by simp only [World.size_alloc, World.size_setCell, World.size_drew] <;> omega)
  have f2_1 : w.heap.size + 1 < x2.heap.size := by omega
  have c2_2 : ∀ o, x2.cell? ⟨w.heap.size + 1 + 1, o, none⟩ = _ := fun o => hb2.cell (p := ⟨w.heap.size + 1 + 1, o, none⟩) (by simp only [World.size_alloc, World.size_setCell, World.size_drew] <;> omega)
  have g2_2 : ∀ o, x2.frozen? ⟨w.heap.size + 1 + 1, o, none⟩ = _ := fun o => hb2.frozen (p := ⟨w.heap.size + 1 + 1, o, none⟩) (by simp only [World.size_alloc, World.size_setCell, World.size_drew] <;> omega)
  have f2_2 : w.heap.size + 1 + 1 < x2.heap.size := by omega
  go_wp2_with fail
  with_reducible refine right_k (by assumption) (fun x3 hb3 => ?_)
  try dsimp only
  have hz3 := hb3.size; (try simp only [World.size_alloc, World.size_setCell, World.size_drew] at hz3)
  have c3_0 : ∀ o, x3.cell? ⟨w.heap.size, o, none⟩ = _ := fun o => hb3.cell (p := ⟨w.heap.size, o, none⟩) (by simp only [World.size_alloc, World.size_setCell, World.size_drew] <;> omega)
  have g3_0 : ∀ o, x3.frozen? ⟨w.heap.size, o, none⟩ = _ := fun o => hb3.frozen (p := ⟨w.heap.size, o, none⟩) (by simp only [World.size_alloc, World.size_setCell, World.size_drew] <;> omega)
  have f3_0 : w.heap.size < x3.heap.size := by omega
  have c3_1 : ∀ o, x3.cell? ⟨w.heap.size + 1, o, none⟩ = _ := fun o => hb3.cell (p := ⟨w.heap.size + 1, o, none⟩) (by simp only [World.size_alloc, World.size_setCell, World.size_drew] <;> omega)
  have g3_1 : ∀ o, x3.frozen? ⟨w.heap.size + 1, o, none⟩ = _ := fun o => hb3.frozen (p := ⟨w.heap.size + 1, o, none⟩) (by simp only [World.size_alloc, World.size_setCell, World.size_drew] <;> omega)
  have f3_1 : w.heap.size + 1 < x3.heap.size := by omega
  have c3_2 : ∀ o, x3.cell? ⟨w.heap.size + 1 + 1, o, none⟩ = _ := fun o => hb3.cell (p := ⟨w.heap.size + 1 + 1, o, none⟩) (by simp only [World.size_alloc, World.size_setCell, World.size_drew] <;> omega)
  have g3_2 : ∀ o, x3.frozen? ⟨w.heap.size + 1 + 1, o, none⟩ = _ := fun o => hb3.frozen (p := ⟨w.heap.size + 1 + 1, o, none⟩) (by simp only [World.size_alloc, World.size_setCell, World.size_drew] <;> omega)
  have f3_2 : w.heap.size + 1 + 1 < x3.heap.size := by omega
  go_wp2_with fail
  with_reducible refine right_k (by assumption) (fun x4 hb4 => ?_)
  try dsimp only
  have hz4 := hb4.size; (try simp only [World.size_alloc, World.size_setCell, World.size_drew] at hz4)
  have c4_0 : ∀ o, x4.cell? ⟨w.heap.size, o, none⟩ = _ := fun o => hb4.cell (p := ⟨w.heap.size, o, none⟩) (by simp only [World.size_alloc, World.size_setCell, World.size_drew] <;> omega)
  have g4_0 : ∀ o, x4.frozen? ⟨w.heap.size, o, none⟩ = _ := fun o => hb4.frozen (p := ⟨w.heap.size, o, none⟩) (by simp only [World.size_alloc, World.size_setCell, World.size_drew] <;> omega)
  have f4_0 : w.heap.size < x4.heap.size := by omega
  have c4_1 : ∀ o, x4.cell? ⟨w.heap.size + 1, o, none⟩ = _ := fun o => hb4.cell (p := ⟨w.heap.size + 1, o, none⟩) (by simp only [World.size_alloc, World.size_setCell, World.size_drew] <;> omega)
  have g4_1 : ∀ o, x4.frozen? ⟨w.heap.size + 1, o, none⟩ = _ := fun o => hb4.frozen (p := ⟨w.heap.size + 1, o, none⟩) (by simp only [World.size_alloc, World.size_setCell, World.size_drew] <;> omega)
  have f4_1 : w.heap.size + 1 < x4.heap.size := by omega
  have c4_2 : ∀ o, x4.cell? ⟨w.heap.size + 1 + 1, o, none⟩ = _ := fun o => hb4.cell (p := ⟨w.heap.size + 1 + 1, o, none⟩) (by simp only [World.size_alloc, World.size_setCell, World.size_drew] <;> omega)
  have g4_2 : ∀ o, x4.frozen? ⟨w.heap.size + 1 + 1, o, none⟩ = _ := fun o => hb4.frozen (p := ⟨w.heap.size + 1 + 1, o, none⟩) (by simp only [World.size_alloc, World.size_setCell, World.size_drew] <;> omega)
  have f4_2 : w.heap.size + 1 + 1 < x4.heap.size := by omega
  go_wp2
  refine wp_loop_rounds 4 ?_
  repeat (any_goals (rw [rounds_succ]; go_wp2))
  refine wp_region_B (by kernel_rfl) (by kernel_rfl) ?_
  (repeat (first | (apply runS_skip (by rfl); (try simp only [Act.put, List.setIfInBounds_toArray, List.set_cons_zero, List.set_cons_succ])) | (apply runS_cons (by rfl); (· (intro w1 hS K hK; obtain ⟨q1, q2⟩ := cells_B hS; (go_simp); (first | with_reducible exact hK _ hS | exact hK _ hS | (with_reducible refine fits_k (by assumption) (fun w2 hb => ?_); exact hK _ (bel_call hS hb)) | (with_reducible refine share_k (by assumption) (fun w2 hb => ?_); exact hK _ (bel_call hS hb))))); (try simp only [Act.put, List.setIfInBounds_toArray, List.set_cons_zero, List.set_cons_succ]))))
  refine runS_nil (fun w2 hbz => ?_)
  go_wp2
  go_ret
  exact ⟨rfl, by (repeat (first | with_reducible exact Below.refl _ _ | with_reducible assumption | with_reducible refine Below.drew ?_ | with_reducible refine bl_drewN ?_ | (with_reducible refine bl_alloc ?_ ?_; · (first | omega | (simp; done) | (simp; omega))) | (with_reducible refine bl_set ?_ ?_; · (first | omega | (simp; done) | (simp; omega))) | (with_reducible refine bl_trans hbz ?_ ?_; · (first | omega | (simp; done) | (simp; omega))) | (with_reducible refine bl_trans hb4 ?_ ?_; · (first | omega | (simp; done) | (simp; omega))) | (with_reducible refine bl_trans hb3 ?_ ?_; · (first | omega | (simp; done) | (simp; omega))) | (with_reducible refine bl_trans hb2 ?_ ?_; · (first | omega | (simp; done) | (simp; omega))) | (with_reducible refine bl_trans hb1 ?_ ?_; · (first | omega | (simp; done) | (simp; omega)))))⟩

set_option maxHeartbeats 4000000 in
theorem sh_f0 (a0 a1 a2 b0 b1 b2 d0 d1 d2 : Int) (w : World) (s1 s2 : Int) (h0 : d0 ≤ 0) (h1 : d1 ≤ 0) (h2 : d2 ≤ 0) (ra : rightB a0 a1 a2 = true) (rb : rightB b0 b1 b2 = true) (rd : rightB d0 d1 d2 = true) (hw : shareI d0 d1 d2 d0 d1 d2 = 0) (hf : fitsB a0 a1 a2 b0 b1 b2 = false) (hs1 : shareI a0 a1 a2 d0 d1 d2 = s1) (hs2 : shareI b0 b1 b2 d0 d1 d2 = s2) (hp : 0 ≤ s1) :
    Calls Try.prog 7 #[rv a0 a1 a2, rv b0 b1 b2, rv d0 d1 d2] w fun e w' => e = .returned (.bool true) ∧ Below w.heap.size w w' := by
  go_enter Try.func7, Try.ntmps7
  go_wp2_with fail
  with_reducible refine awake_k (fun x1 hb1 => ?_)
  try dsimp only
  have hz1 := hb1.size; (try simp only [World.size_alloc, World.size_setCell, World.size_drew] at hz1)
  have c1_0 : ∀ o, x1.cell? ⟨w.heap.size, o, none⟩ = _ := fun o => hb1.cell (p := ⟨w.heap.size, o, none⟩) (by simp only [World.size_alloc, World.size_setCell, World.size_drew] <;> omega)
  have g1_0 : ∀ o, x1.frozen? ⟨w.heap.size, o, none⟩ = _ := fun o => hb1.frozen (p := ⟨w.heap.size, o, none⟩) (by simp only [World.size_alloc, World.size_setCell, World.size_drew] <;> omega)
  have f1_0 : w.heap.size < x1.heap.size := by omega
  have c1_1 : ∀ o, x1.cell? ⟨w.heap.size + 1, o, none⟩ = _ := fun o => hb1.cell (p := ⟨w.heap.size + 1, o, none⟩) (by simp only [World.size_alloc, World.size_setCell, World.size_drew] <;> omega)
  have g1_1 : ∀ o, x1.frozen? ⟨w.heap.size + 1, o, none⟩ = _ := fun o => hb1.frozen (p := ⟨w.heap.size + 1, o, none⟩) (by simp only [World.size_alloc, World.size_setCell, World.size_drew] <;> omega)
  have f1_1 : w.heap.size + 1 < x1.heap.size := by omega
  have c1_2 : ∀ o, x1.cell? ⟨w.heap.size + 1 + 1, o, none⟩ = _ := fun o => hb1.cell (p := ⟨w.heap.size + 1 + 1, o, none⟩) (by simp only [World.size_alloc, World.size_setCell, World.size_drew] <;> omega)
  have g1_2 : ∀ o, x1.frozen? ⟨w.heap.size + 1 + 1, o, none⟩ = _ := fun o => hb1.frozen (p := ⟨w.heap.size + 1 + 1, o, none⟩) (by simp only [World.size_alloc, World.size_setCell, World.size_drew] <;> omega)
  have f1_2 : w.heap.size + 1 + 1 < x1.heap.size := by omega
  go_wp2_with fail
  with_reducible refine right_k (by assumption) (fun x2 hb2 => ?_)
  try dsimp only
  have hz2 := hb2.size; (try simp only [World.size_alloc, World.size_setCell, World.size_drew] at hz2)
  have c2_0 : ∀ o, x2.cell? ⟨w.heap.size, o, none⟩ = _ := fun o => hb2.cell (p := ⟨w.heap.size, o, none⟩) (by simp only [World.size_alloc, World.size_setCell, World.size_drew] <;> omega)
  have g2_0 : ∀ o, x2.frozen? ⟨w.heap.size, o, none⟩ = _ := fun o => hb2.frozen (p := ⟨w.heap.size, o, none⟩) (by simp only [World.size_alloc, World.size_setCell, World.size_drew] <;> omega)
  have f2_0 : w.heap.size < x2.heap.size := by omega
  have c2_1 : ∀ o, x2.cell? ⟨w.heap.size + 1, o, none⟩ = _ := fun o => hb2.cell (p := ⟨w.heap.size + 1, o, none⟩) (by simp only [World.size_alloc, World.size_setCell, World.size_drew] <;> omega)
  have g2_1 : ∀ o, x2.frozen? ⟨w.heap.size + 1, o, none⟩ = _ := fun o => hb2.frozen (p := ⟨w.heap.size + 1, o, none⟩) (by simp only [World.size_alloc, World.size_setCell, World.size_drew] <;> omega)
  have f2_1 : w.heap.size + 1 < x2.heap.size := by omega
  have c2_2 : ∀ o, x2.cell? ⟨w.heap.size + 1 + 1, o, none⟩ = _ := fun o => hb2.cell (p := ⟨w.heap.size + 1 + 1, o, none⟩) (by simp only [World.size_alloc, World.size_setCell, World.size_drew] <;> omega)
  have g2_2 : ∀ o, x2.frozen? ⟨w.heap.size + 1 + 1, o, none⟩ = _ := fun o => hb2.frozen (p := ⟨w.heap.size + 1 + 1, o, none⟩) (by simp only [World.size_alloc, World.size_setCell, World.size_drew] <;> omega)
  have f2_2 : w.heap.size + 1 + 1 < x2.heap.size := by omega
  go_wp2_with fail
  with_reducible refine right_k (by assumption) (fun x3 hb3 => ?_)
  try dsimp only
  have hz3 := hb3.size; (try simp only [World.size_alloc, World.size_setCell, World.size_drew] at hz3)
  have c3_0 : ∀ o, x3.cell? ⟨w.heap.size, o, none⟩ = _ := fun o => hb3.cell (p := ⟨w.heap.size, o, none⟩) (by simp only [World.size_alloc, World.size_setCell, World.size_drew] <;> omega)
  have g3_0 : ∀ o, x3.frozen? ⟨w.heap.size, o, none⟩ = _ := fun o => hb3.frozen (p := ⟨w.heap.size, o, none⟩) (by simp only [World.size_alloc, World.size_setCell, World.size_drew] <;> omega)
  have f3_0 : w.heap.size < x3.heap.size := by omega
  have c3_1 : ∀ o, x3.cell? ⟨w.heap.size + 1, o, none⟩ = _ := fun o => hb3.cell (p := ⟨w.heap.size + 1, o, none⟩) (by simp only [World.size_alloc, World.size_setCell, World.size_drew] <;> omega)
  have g3_1 : ∀ o, x3.frozen? ⟨w.heap.size + 1, o, none⟩ = _ := fun o => hb3.frozen (p := ⟨w.heap.size + 1, o, none⟩) (by simp only [World.size_alloc, World.size_setCell, World.size_drew] <;> omega)
  have f3_1 : w.heap.size + 1 < x3.heap.size := by omega
  have c3_2 : ∀ o, x3.cell? ⟨w.heap.size + 1 + 1, o, none⟩ = _ := fun o => hb3.cell (p := ⟨w.heap.size + 1 + 1, o, none⟩) (by simp only [World.size_alloc, World.size_setCell, World.size_drew] <;> omega)
  have g3_2 : ∀ o, x3.frozen? ⟨w.heap.size + 1 + 1, o, none⟩ = _ := fun o => hb3.frozen (p := ⟨w.heap.size + 1 + 1, o, none⟩) (by simp only [World.size_alloc, World.size_setCell, World.size_drew] <;> omega)
  have f3_2 : w.heap.size + 1 + 1 < x3.heap.size := by omega
  go_wp2_with fail
  with_reducible refine right_k (by assumption) (fun x4 hb4 => ?_)
  try dsimp only
  have hz4 := hb4.size; (try simp only [World.size_alloc, World.size_setCell, World.size_drew] at hz4)
  have c4_0 : ∀ o, x4.cell? ⟨w.heap.size, o, none⟩ = _ := fun o => hb4.cell (p := ⟨w.heap.size, o, none⟩) (by simp only [World.size_alloc, World.size_setCell, World.size_drew] <;> omega)
  have g4_0 : ∀ o, x4.frozen? ⟨w.heap.size, o, none⟩ = _ := fun o => hb4.frozen (p := ⟨w.heap.size, o, none⟩) (by simp only [World.size_alloc, World.size_setCell, World.size_drew] <;> omega)
  have f4_0 : w.heap.size < x4.heap.size := by omega
  have c4_1 : ∀ o, x4.cell? ⟨w.heap.size + 1, o, none⟩ = _ := fun o => hb4.cell (p := ⟨w.heap.size + 1, o, none⟩) (by simp only [World.size_alloc, World.size_setCell, World.size_drew] <;> omega)
  have g4_1 : ∀ o, x4.frozen? ⟨w.heap.size + 1, o, none⟩ = _ := fun o => hb4.frozen (p := ⟨w.heap.size + 1, o, none⟩) (by simp only [World.size_alloc, World.size_setCell, World.size_drew] <;> omega)
  have f4_1 : w.heap.size + 1 < x4.heap.size := by omega
  have c4_2 : ∀ o, x4.cell? ⟨w.heap.size + 1 + 1, o, none⟩ = _ := fun o => hb4.cell (p := ⟨w.heap.size + 1 + 1, o, none⟩) (by simp only [World.size_alloc, World.size_setCell, World.size_drew] <;> omega)
  have g4_2 : ∀ o, x4.frozen? ⟨w.heap.size + 1 + 1, o, none⟩ = _ := fun o => hb4.frozen (p := ⟨w.heap.size + 1 + 1, o, none⟩) (by simp only [World.size_alloc, World.size_setCell, World.size_drew] <;> omega)
  have f4_2 : w.heap.size + 1 + 1 < x4.heap.size := by omega
  go_wp2
  refine wp_loop_rounds 4 ?_
  repeat (any_goals (rw [rounds_succ]; go_wp2))
  refine wp_region_B (by kernel_rfl) (by kernel_rfl) ?_
  (repeat (first | (apply runS_skip (by rfl); (try simp only [Act.put, List.setIfInBounds_toArray, List.set_cons_zero, List.set_cons_succ])) | (apply runS_cons (by rfl); (· (intro w1 hS K hK; obtain ⟨q1, q2⟩ := cells_B hS; (go_simp); (first | with_reducible exact hK _ hS | exact hK _ hS | (with_reducible refine fits_k (by assumption) (fun w2 hb => ?_); exact hK _ (bel_call hS hb)) | (with_reducible refine share_k (by assumption) (fun w2 hb => ?_); exact hK _ (bel_call hS hb))))); (try simp only [Act.put, List.setIfInBounds_toArray, List.set_cons_zero, List.set_cons_succ]))))
  refine runS_nil (fun w2 hbz => ?_)
  go_wp2
  go_ret
  exact ⟨rfl, by (repeat (first | with_reducible exact Below.refl _ _ | with_reducible assumption | with_reducible refine Below.drew ?_ | with_reducible refine bl_drewN ?_ | (with_reducible refine bl_alloc ?_ ?_; · (first | omega | (simp; done) | (simp; omega))) | (with_reducible refine bl_set ?_ ?_; · (first | omega | (simp; done) | (simp; omega))) | (with_reducible refine bl_trans hbz ?_ ?_; · (first | omega | (simp; done) | (simp; omega))) | (with_reducible refine bl_trans hb4 ?_ ?_; · (first | omega | (simp; done) | (simp; omega))) | (with_reducible refine bl_trans hb3 ?_ ?_; · (first | omega | (simp; done) | (simp; omega))) | (with_reducible refine bl_trans hb2 ?_ ?_; · (first | omega | (simp; done) | (simp; omega))) | (with_reducible refine bl_trans hb1 ?_ ?_; · (first | omega | (simp; done) | (simp; omega)))))⟩

set_option maxHeartbeats 4000000 in
theorem sh_f1 (a0 a1 a2 b0 b1 b2 d0 d1 d2 : Int) (w : World) (s1 s2 : Int) (h0 : 0 < d0) (h1 : d1 ≤ 0) (h2 : d2 ≤ 0) (ra : rightB a0 a1 a2 = true) (rb : rightB b0 b1 b2 = true) (rd : rightB d0 d1 d2 = true) (hw : shareI d0 d1 d2 d0 d1 d2 = 1000) (hf : fitsB a0 a1 a2 b0 b1 b2 = false) (hs1 : shareI a0 a1 a2 d0 d1 d2 = s1) (hs2 : shareI b0 b1 b2 d0 d1 d2 = s2) (hp : 0 ≤ s1) :
    Calls Try.prog 7 #[rv a0 a1 a2, rv b0 b1 b2, rv d0 d1 d2] w fun e w' => e = .returned (.bool true) ∧ Below w.heap.size w w' := by
  go_enter Try.func7, Try.ntmps7
  go_wp2_with fail
  with_reducible refine awake_k (fun x1 hb1 => ?_)
  try dsimp only
  have hz1 := hb1.size; (try simp only [World.size_alloc, World.size_setCell, World.size_drew] at hz1)
  have c1_0 : ∀ o, x1.cell? ⟨w.heap.size, o, none⟩ = _ := fun o => hb1.cell (p := ⟨w.heap.size, o, none⟩) (by simp only [World.size_alloc, World.size_setCell, World.size_drew] <;> omega)
  have g1_0 : ∀ o, x1.frozen? ⟨w.heap.size, o, none⟩ = _ := fun o => hb1.frozen (p := ⟨w.heap.size, o, none⟩) (by simp only [World.size_alloc, World.size_setCell, World.size_drew] <;> omega)
  have f1_0 : w.heap.size < x1.heap.size := by omega
  have c1_1 : ∀ o, x1.cell? ⟨w.heap.size + 1, o, none⟩ = _ := fun o => hb1.cell (p := ⟨w.heap.size + 1, o, none⟩) (by simp only [World.size_alloc, World.size_setCell, World.size_drew] <;> omega)
  have g1_1 : ∀ o, x1.frozen? ⟨w.heap.size + 1, o, none⟩ = _ := fun o => hb1.frozen (p := ⟨w.heap.size + 1, o, none⟩) (by simp only [World.size_alloc, World.size_setCell, World.size_drew] <;> omega)
  have f1_1 : w.heap.size + 1 < x1.heap.size := by omega
  have c1_2 : ∀ o, x1.cell? ⟨w.heap.size + 1 + 1, o, none⟩ = _ := fun o => hb1.cell (p := ⟨w.heap.size + 1 + 1, o, none⟩) (by simp only [World.size_alloc, World.size_setCell, World.size_drew] <;> omega)
  have g1_2 : ∀ o, x1.frozen? ⟨w.heap.size + 1 + 1, o, none⟩ = _ := fun o => hb1.frozen (p := ⟨w.heap.size + 1 + 1, o, none⟩) (by simp only [World.size_alloc, World.size_setCell, World.size_drew] <;> omega)
  have f1_2 : w.heap.size + 1 + 1 < x1.heap.size := by omega
  go_wp2_with fail
  with_reducible refine right_k (by assumption) (fun x2 hb2 => ?_)
  try dsimp only
  have hz2 := hb2.size; (try simp only [World.size_alloc, World.size_setCell, World.size_drew] at hz2)
  have c2_0 : ∀ o, x2.cell? ⟨w.heap.size, o, none⟩ = _ := fun o => hb2.cell (p := ⟨w.heap.size, o, none⟩) (by simp only [World.size_alloc, World.size_setCell, World.size_drew] <;> omega)
  have g2_0 : ∀ o, x2.frozen? ⟨w.heap.size, o, none⟩ = _ := fun o => hb2.frozen (p := ⟨w.heap.size, o, none⟩) (by simp only [World.size_alloc, World.size_setCell, World.size_drew] <;> omega)
  have f2_0 : w.heap.size < x2.heap.size := by omega
  have c2_1 : ∀ o, x2.cell? ⟨w.heap.size + 1, o, none⟩ = _ := fun o => hb2.cell (p := ⟨w.heap.size + 1, o, none⟩) (by simp only [World.size_alloc, World.size_setCell, World.size_drew] <;> omega)
  have g2_1 : ∀ o, x2.frozen? ⟨w.heap.size + 1, o, none⟩ = _ := fun o => hb2.frozen (p := ⟨w.heap.size + 1, o, none⟩) (by simp only [World.size_alloc, World.size_setCell, World.size_drew] <;> omega)
  have f2_1 : w.heap.size + 1 < x2.heap.size := by omega
  have c2_2 : ∀ o, x2.cell? ⟨w.heap.size + 1 + 1, o, none⟩ = _ := fun o => hb2.cell (p := ⟨w.heap.size + 1 + 1, o, none⟩) (by simp only [World.size_alloc, World.size_setCell, World.size_drew] <;> omega)
  have g2_2 : ∀ o, x2.frozen? ⟨w.heap.size + 1 + 1, o, none⟩ = _ := fun o => hb2.frozen (p := ⟨w.heap.size + 1 + 1, o, none⟩) (by simp only [World.size_alloc, World.size_setCell, World.size_drew] <;> omega)
  have f2_2 : w.heap.size + 1 + 1 < x2.heap.size := by omega
  go_wp2_with fail
  with_reducible refine right_k (by assumption) (fun x3 hb3 => ?_)
  try dsimp only
  have hz3 := hb3.size; (try simp only [World.size_alloc, World.size_setCell, World.size_drew] at hz3)
  have c3_0 : ∀ o, x3.cell? ⟨w.heap.size, o, none⟩ = _ := fun o => hb3.cell (p := ⟨w.heap.size, o, none⟩) (by simp only [World.size_alloc, World.size_setCell, World.size_drew] <;> omega)
  have g3_0 : ∀ o, x3.frozen? ⟨w.heap.size, o, none⟩ = _ := fun o => hb3.frozen (p := ⟨w.heap.size, o, none⟩) (by simp only [World.size_alloc, World.size_setCell, World.size_drew] <;> omega)
  have f3_0 : w.heap.size < x3.heap.size := by omega
  have c3_1 : ∀ o, x3.cell? ⟨w.heap.size + 1, o, none⟩ = _ := fun o => hb3.cell (p := ⟨w.heap.size + 1, o, none⟩) (by simp only [World.size_alloc, World.size_setCell, World.size_drew] <;> omega)
  have g3_1 : ∀ o, x3.frozen? ⟨w.heap.size + 1, o, none⟩ = _ := fun o => hb3.frozen (p := ⟨w.heap.size + 1, o, none⟩) (by simp only [World.size_alloc, World.size_setCell, World.size_drew] <;> omega)
  have f3_1 : w.heap.size + 1 < x3.heap.size := by omega
  have c3_2 : ∀ o, x3.cell? ⟨w.heap.size + 1 + 1, o, none⟩ = _ := fun o => hb3.cell (p := ⟨w.heap.size + 1 + 1, o, none⟩) (by simp only [World.size_alloc, World.size_setCell, World.size_drew] <;> omega)
  have g3_2 : ∀ o, x3.frozen? ⟨w.heap.size + 1 + 1, o, none⟩ = _ := fun o => hb3.frozen (p := ⟨w.heap.size + 1 + 1, o, none⟩) (by simp only [World.size_alloc, World.size_setCell, World.size_drew] <;> omega)
  have f3_2 : w.heap.size + 1 + 1 < x3.heap.size := by omega
  go_wp2_with fail
  with_reducible refine right_k (by assumption) (fun x4 hb4 => ?_)
  try dsimp only
  have hz4 := hb4.size; (try simp only [World.size_alloc, World.size_setCell, World.size_drew] at hz4)
  have c4_0 : ∀ o, x4.cell? ⟨w.heap.size, o, none⟩ = _ := fun o => hb4.cell (p := ⟨w.heap.size, o, none⟩) (by simp only [World.size_alloc, World.size_setCell, World.size_drew] <;> omega)
  have g4_0 : ∀ o, x4.frozen? ⟨w.heap.size, o, none⟩ = _ := fun o => hb4.frozen (p := ⟨w.heap.size, o, none⟩) (by simp only [World.size_alloc, World.size_setCell, World.size_drew] <;> omega)
  have f4_0 : w.heap.size < x4.heap.size := by omega
  have c4_1 : ∀ o, x4.cell? ⟨w.heap.size + 1, o, none⟩ = _ := fun o => hb4.cell (p := ⟨w.heap.size + 1, o, none⟩) (by simp only [World.size_alloc, World.size_setCell, World.size_drew] <;> omega)
  have g4_1 : ∀ o, x4.frozen? ⟨w.heap.size + 1, o, none⟩ = _ := fun o => hb4.frozen (p := ⟨w.heap.size + 1, o, none⟩) (by simp only [World.size_alloc, World.size_setCell, World.size_drew] <;> omega)
  have f4_1 : w.heap.size + 1 < x4.heap.size := by omega
  have c4_2 : ∀ o, x4.cell? ⟨w.heap.size + 1 + 1, o, none⟩ = _ := fun o => hb4.cell (p := ⟨w.heap.size + 1 + 1, o, none⟩) (by simp only [World.size_alloc, World.size_setCell, World.size_drew] <;> omega)
  have g4_2 : ∀ o, x4.frozen? ⟨w.heap.size + 1 + 1, o, none⟩ = _ := fun o => hb4.frozen (p := ⟨w.heap.size + 1 + 1, o, none⟩) (by simp only [World.size_alloc, World.size_setCell, World.size_drew] <;> omega)
  have f4_2 : w.heap.size + 1 + 1 < x4.heap.size := by omega
  go_wp2
  refine wp_loop_rounds 4 ?_
  repeat (any_goals (rw [rounds_succ]; go_wp2))
  refine wp_region_B (by kernel_rfl) (by kernel_rfl) ?_
  (repeat (first | (apply runS_skip (by rfl); (try simp only [Act.put, List.setIfInBounds_toArray, List.set_cons_zero, List.set_cons_succ])) | (apply runS_cons (by rfl); (· (intro w1 hS K hK; obtain ⟨q1, q2⟩ := cells_B hS; (go_simp); (first | with_reducible exact hK _ hS | exact hK _ hS | (with_reducible refine fits_k (by assumption) (fun w2 hb => ?_); exact hK _ (bel_call hS hb)) | (with_reducible refine share_k (by assumption) (fun w2 hb => ?_); exact hK _ (bel_call hS hb))))); (try simp only [Act.put, List.setIfInBounds_toArray, List.set_cons_zero, List.set_cons_succ]))))
  refine runS_nil (fun w2 hbz => ?_)
  go_wp2
  go_ret
  exact ⟨rfl, by (repeat (first | with_reducible exact Below.refl _ _ | with_reducible assumption | with_reducible refine Below.drew ?_ | with_reducible refine bl_drewN ?_ | (with_reducible refine bl_alloc ?_ ?_; · (first | omega | (simp; done) | (simp; omega))) | (with_reducible refine bl_set ?_ ?_; · (first | omega | (simp; done) | (simp; omega))) | (with_reducible refine bl_trans hbz ?_ ?_; · (first | omega | (simp; done) | (simp; omega))) | (with_reducible refine bl_trans hb4 ?_ ?_; · (first | omega | (simp; done) | (simp; omega))) | (with_reducible refine bl_trans hb3 ?_ ?_; · (first | omega | (simp; done) | (simp; omega))) | (with_reducible refine bl_trans hb2 ?_ ?_; · (first | omega | (simp; done) | (simp; omega))) | (with_reducible refine bl_trans hb1 ?_ ?_; · (first | omega | (simp; done) | (simp; omega)))))⟩

set_option maxHeartbeats 4000000 in
theorem sh_f2 (a0 a1 a2 b0 b1 b2 d0 d1 d2 : Int) (w : World) (s1 s2 : Int) (h0 : d0 ≤ 0) (h1 : 0 < d1) (h2 : d2 ≤ 0) (ra : rightB a0 a1 a2 = true) (rb : rightB b0 b1 b2 = true) (rd : rightB d0 d1 d2 = true) (hw : shareI d0 d1 d2 d0 d1 d2 = 1000) (hf : fitsB a0 a1 a2 b0 b1 b2 = false) (hs1 : shareI a0 a1 a2 d0 d1 d2 = s1) (hs2 : shareI b0 b1 b2 d0 d1 d2 = s2) (hp : 0 ≤ s1) :
    Calls Try.prog 7 #[rv a0 a1 a2, rv b0 b1 b2, rv d0 d1 d2] w fun e w' => e = .returned (.bool true) ∧ Below w.heap.size w w' := by
  go_enter Try.func7, Try.ntmps7
  go_wp2_with fail
  with_reducible refine awake_k (fun x1 hb1 => ?_)
  try dsimp only
  have hz1 := hb1.size; (try simp only [World.size_alloc, World.size_setCell, World.size_drew] at hz1)
  have c1_0 : ∀ o, x1.cell? ⟨w.heap.size, o, none⟩ = _ := fun o => hb1.cell (p := ⟨w.heap.size, o, none⟩) (by simp only [World.size_alloc, World.size_setCell, World.size_drew] <;> omega)
  have g1_0 : ∀ o, x1.frozen? ⟨w.heap.size, o, none⟩ = _ := fun o => hb1.frozen (p := ⟨w.heap.size, o, none⟩) (by simp only [World.size_alloc, World.size_setCell, World.size_drew] <;> omega)
  have f1_0 : w.heap.size < x1.heap.size := by omega
  have c1_1 : ∀ o, x1.cell? ⟨w.heap.size + 1, o, none⟩ = _ := fun o => hb1.cell (p := ⟨w.heap.size + 1, o, none⟩) (by simp only [World.size_alloc, World.size_setCell, World.size_drew] <;> omega)
  have g1_1 : ∀ o, x1.frozen? ⟨w.heap.size + 1, o, none⟩ = _ := fun o => hb1.frozen (p := ⟨w.heap.size + 1, o, none⟩) (by simp only [World.size_alloc, World.size_setCell, World.size_drew] <;> omega)
  have f1_1 : w.heap.size + 1 < x1.heap.size := by omega
  have c1_2 : ∀ o, x1.cell? ⟨w.heap.size + 1 + 1, o, none⟩ = _ := fun o => hb1.cell (p := ⟨w.heap.size + 1 + 1, o, none⟩) (by simp only [World.size_alloc, World.size_setCell, World.size_drew] <;> omega)
  have g1_2 : ∀ o, x1.frozen? ⟨w.heap.size + 1 + 1, o, none⟩ = _ := fun o => hb1.frozen (p := ⟨w.heap.size + 1 + 1, o, none⟩) (by simp only [World.size_alloc, World.size_setCell, World.size_drew] <;> omega)
  have f1_2 : w.heap.size + 1 + 1 < x1.heap.size := by omega
  go_wp2_with fail
  with_reducible refine right_k (by assumption) (fun x2 hb2 => ?_)
  try dsimp only
  have hz2 := hb2.size; (try simp only [World.size_alloc, World.size_setCell, World.size_drew] at hz2)
  have c2_0 : ∀ o, x2.cell? ⟨w.heap.size, o, none⟩ = _ := fun o => hb2.cell (p := ⟨w.heap.size, o, none⟩) (by simp only [World.size_alloc, World.size_setCell, World.size_drew] <;> omega)
  have g2_0 : ∀ o, x2.frozen? ⟨w.heap.size, o, none⟩ = _ := fun o => hb2.frozen (p := ⟨w.heap.size, o, none⟩) (by simp only [World.size_alloc, World.size_setCell, World.size_drew] <;> omega)
  have f2_0 : w.heap.size < x2.heap.size := by omega
  have c2_1 : ∀ o, x2.cell? ⟨w.heap.size + 1, o, none⟩ = _ := fun o => hb2.cell (p := ⟨w.heap.size + 1, o, none⟩) (by simp only [World.size_alloc, World.size_setCell, World.size_drew] <;> omega)
  have g2_1 : ∀ o, x2.frozen? ⟨w.heap.size + 1, o, none⟩ = _ := fun o => hb2.frozen (p := ⟨w.heap.size + 1, o, none⟩) (by simp only [World.size_alloc, World.size_setCell, World.size_drew] <;> omega)
  have f2_1 : w.heap.size + 1 < x2.heap.size := by omega
  have c2_2 : ∀ o, x2.cell? ⟨w.heap.size + 1 + 1, o, none⟩ = _ := fun o => hb2.cell (p := ⟨w.heap.size + 1 + 1, o, none⟩) (by simp only [World.size_alloc, World.size_setCell, World.size_drew] <;> omega)
  have g2_2 : ∀ o, x2.frozen? ⟨w.heap.size + 1 + 1, o, none⟩ = _ := fun o => hb2.frozen (p := ⟨w.heap.size + 1 + 1, o, none⟩) (by simp only [World.size_alloc, World.size_setCell, World.size_drew] <;> omega)
  have f2_2 : w.heap.size + 1 + 1 < x2.heap.size := by omega
  go_wp2_with fail
  with_reducible refine right_k (by assumption) (fun x3 hb3 => ?_)
  try dsimp only
  have hz3 := hb3.size; (try simp only [World.size_alloc, World.size_setCell, World.size_drew] at hz3)
  have c3_0 : ∀ o, x3.cell? ⟨w.heap.size, o, none⟩ = _ := fun o => hb3.cell (p := ⟨w.heap.size, o, none⟩) (by simp only [World.size_alloc, World.size_setCell, World.size_drew] <;> omega)
  have g3_0 : ∀ o, x3.frozen? ⟨w.heap.size, o, none⟩ = _ := fun o => hb3.frozen (p := ⟨w.heap.size, o, none⟩) (by simp only [World.size_alloc, World.size_setCell, World.size_drew] <;> omega)
  have f3_0 : w.heap.size < x3.heap.size := by omega
  have c3_1 : ∀ o, x3.cell? ⟨w.heap.size + 1, o, none⟩ = _ := fun o => hb3.cell (p := ⟨w.heap.size + 1, o, none⟩) (by simp only [World.size_alloc, World.size_setCell, World.size_drew] <;> omega)
  have g3_1 : ∀ o, x3.frozen? ⟨w.heap.size + 1, o, none⟩ = _ := fun o => hb3.frozen (p := ⟨w.heap.size + 1, o, none⟩) (by simp only [World.size_alloc, World.size_setCell, World.size_drew] <;> omega)
  have f3_1 : w.heap.size + 1 < x3.heap.size := by omega
  have c3_2 : ∀ o, x3.cell? ⟨w.heap.size + 1 + 1, o, none⟩ = _ := fun o => hb3.cell (p := ⟨w.heap.size + 1 + 1, o, none⟩) (by simp only [World.size_alloc, World.size_setCell, World.size_drew] <;> omega)
  have g3_2 : ∀ o, x3.frozen? ⟨w.heap.size + 1 + 1, o, none⟩ = _ := fun o => hb3.frozen (p := ⟨w.heap.size + 1 + 1, o, none⟩) (by simp only [World.size_alloc, World.size_setCell, World.size_drew] <;> omega)
  have f3_2 : w.heap.size + 1 + 1 < x3.heap.size := by omega
  go_wp2_with fail
  with_reducible refine right_k (by assumption) (fun x4 hb4 => ?_)
  try dsimp only
  have hz4 := hb4.size; (try simp only [World.size_alloc, World.size_setCell, World.size_drew] at hz4)
  have c4_0 : ∀ o, x4.cell? ⟨w.heap.size, o, none⟩ = _ := fun o => hb4.cell (p := ⟨w.heap.size, o, none⟩) (by simp only [World.size_alloc, World.size_setCell, World.size_drew] <;> omega)
  have g4_0 : ∀ o, x4.frozen? ⟨w.heap.size, o, none⟩ = _ := fun o => hb4.frozen (p := ⟨w.heap.size, o, none⟩) (by simp only [World.size_alloc, World.size_setCell, World.size_drew] <;> omega)
  have f4_0 : w.heap.size < x4.heap.size := by omega
  have c4_1 : ∀ o, x4.cell? ⟨w.heap.size + 1, o, none⟩ = _ := fun o => hb4.cell (p := ⟨w.heap.size + 1, o, none⟩) (by simp only [World.size_alloc, World.size_setCell, World.size_drew] <;> omega)
  have g4_1 : ∀ o, x4.frozen? ⟨w.heap.size + 1, o, none⟩ = _ := fun o => hb4.frozen (p := ⟨w.heap.size + 1, o, none⟩) (by simp only [World.size_alloc, World.size_setCell, World.size_drew] <;> omega)
  have f4_1 : w.heap.size + 1 < x4.heap.size := by omega
  have c4_2 : ∀ o, x4.cell? ⟨w.heap.size + 1 + 1, o, none⟩ = _ := fun o => hb4.cell (p := ⟨w.heap.size + 1 + 1, o, none⟩) (by simp only [World.size_alloc, World.size_setCell, World.size_drew] <;> omega)
  have g4_2 : ∀ o, x4.frozen? ⟨w.heap.size + 1 + 1, o, none⟩ = _ := fun o => hb4.frozen (p := ⟨w.heap.size + 1 + 1, o, none⟩) (by simp only [World.size_alloc, World.size_setCell, World.size_drew] <;> omega)
  have f4_2 : w.heap.size + 1 + 1 < x4.heap.size := by omega
  go_wp2
  refine wp_loop_rounds 4 ?_
  repeat (any_goals (rw [rounds_succ]; go_wp2))
  refine wp_region_B (by kernel_rfl) (by kernel_rfl) ?_
  (repeat (first | (apply runS_skip (by rfl); (try simp only [Act.put, List.setIfInBounds_toArray, List.set_cons_zero, List.set_cons_succ])) | (apply runS_cons (by rfl); (· (intro w1 hS K hK; obtain ⟨q1, q2⟩ := cells_B hS; (go_simp); (first | with_reducible exact hK _ hS | exact hK _ hS | (with_reducible refine fits_k (by assumption) (fun w2 hb => ?_); exact hK _ (bel_call hS hb)) | (with_reducible refine share_k (by assumption) (fun w2 hb => ?_); exact hK _ (bel_call hS hb))))); (try simp only [Act.put, List.setIfInBounds_toArray, List.set_cons_zero, List.set_cons_succ]))))
  refine runS_nil (fun w2 hbz => ?_)
  go_wp2
  go_ret
  exact ⟨rfl, by (repeat (first | with_reducible exact Below.refl _ _ | with_reducible assumption | with_reducible refine Below.drew ?_ | with_reducible refine bl_drewN ?_ | (with_reducible refine bl_alloc ?_ ?_; · (first | omega | (simp; done) | (simp; omega))) | (with_reducible refine bl_set ?_ ?_; · (first | omega | (simp; done) | (simp; omega))) | (with_reducible refine bl_trans hbz ?_ ?_; · (first | omega | (simp; done) | (simp; omega))) | (with_reducible refine bl_trans hb4 ?_ ?_; · (first | omega | (simp; done) | (simp; omega))) | (with_reducible refine bl_trans hb3 ?_ ?_; · (first | omega | (simp; done) | (simp; omega))) | (with_reducible refine bl_trans hb2 ?_ ?_; · (first | omega | (simp; done) | (simp; omega))) | (with_reducible refine bl_trans hb1 ?_ ?_; · (first | omega | (simp; done) | (simp; omega)))))⟩

set_option maxHeartbeats 4000000 in
theorem sh_f3 (a0 a1 a2 b0 b1 b2 d0 d1 d2 : Int) (w : World) (s1 s2 : Int) (h0 : 0 < d0) (h1 : 0 < d1) (h2 : d2 ≤ 0) (ra : rightB a0 a1 a2 = true) (rb : rightB b0 b1 b2 = true) (rd : rightB d0 d1 d2 = true) (hw : shareI d0 d1 d2 d0 d1 d2 = 2000) (hf : fitsB a0 a1 a2 b0 b1 b2 = false) (hs1 : shareI a0 a1 a2 d0 d1 d2 = s1) (hs2 : shareI b0 b1 b2 d0 d1 d2 = s2) (hp : 0 ≤ s1) :
    Calls Try.prog 7 #[rv a0 a1 a2, rv b0 b1 b2, rv d0 d1 d2] w fun e w' => e = .returned (.bool true) ∧ Below w.heap.size w w' := by
  go_enter Try.func7, Try.ntmps7
  go_wp2_with fail
  with_reducible refine awake_k (fun x1 hb1 => ?_)
  try dsimp only
  have hz1 := hb1.size; (try simp only [World.size_alloc, World.size_setCell, World.size_drew] at hz1)
  have c1_0 : ∀ o, x1.cell? ⟨w.heap.size, o, none⟩ = _ := fun o => hb1.cell (p := ⟨w.heap.size, o, none⟩) (by simp only [World.size_alloc, World.size_setCell, World.size_drew] <;> omega)
  have g1_0 : ∀ o, x1.frozen? ⟨w.heap.size, o, none⟩ = _ := fun o => hb1.frozen (p := ⟨w.heap.size, o, none⟩) (by simp only [World.size_alloc, World.size_setCell, World.size_drew] <;> omega)
  have f1_0 : w.heap.size < x1.heap.size := by omega
  have c1_1 : ∀ o, x1.cell? ⟨w.heap.size + 1, o, none⟩ = _ := fun o => hb1.cell (p := ⟨w.heap.size + 1, o, none⟩) (by simp only [World.size_alloc, World.size_setCell, World.size_drew] <;> omega)
  have g1_1 : ∀ o, x1.frozen? ⟨w.heap.size + 1, o, none⟩ = _ := fun o => hb1.frozen (p := ⟨w.heap.size + 1, o, none⟩) (by simp only [World.size_alloc, World.size_setCell, World.size_drew] <;> omega)
  have f1_1 : w.heap.size + 1 < x1.heap.size := by omega
  have c1_2 : ∀ o, x1.cell? ⟨w.heap.size + 1 + 1, o, none⟩ = _ := fun o => hb1.cell (p := ⟨w.heap.size + 1 + 1, o, none⟩) (by simp only [World.size_alloc, World.size_setCell, World.size_drew] <;> omega)
  have g1_2 : ∀ o, x1.frozen? ⟨w.heap.size + 1 + 1, o, none⟩ = _ := fun o => hb1.frozen (p := ⟨w.heap.size + 1 + 1, o, none⟩) (by simp only [World.size_alloc, World.size_setCell, World.size_drew] <;> omega)
  have f1_2 : w.heap.size + 1 + 1 < x1.heap.size := by omega
  go_wp2_with fail
  with_reducible refine right_k (by assumption) (fun x2 hb2 => ?_)
  try dsimp only
  have hz2 := hb2.size; (try simp only [World.size_alloc, World.size_setCell, World.size_drew] at hz2)
  have c2_0 : ∀ o, x2.cell? ⟨w.heap.size, o, none⟩ = _ := fun o => hb2.cell (p := ⟨w.heap.size, o, none⟩) (by simp only [World.size_alloc, World.size_setCell, World.size_drew] <;> omega)
  have g2_0 : ∀ o, x2.frozen? ⟨w.heap.size, o, none⟩ = _ := fun o => hb2.frozen (p := ⟨w.heap.size, o, none⟩) (by simp only [World.size_alloc, World.size_setCell, World.size_drew] <;> omega)
  have f2_0 : w.heap.size < x2.heap.size := by omega
  have c2_1 : ∀ o, x2.cell? ⟨w.heap.size + 1, o, none⟩ = _ := fun o => hb2.cell (p := ⟨w.heap.size + 1, o, none⟩) (by simp only [World.size_alloc, World.size_setCell, World.size_drew] <;> omega)
  have g2_1 : ∀ o, x2.frozen? ⟨w.heap.size + 1, o, none⟩ = _ := fun o => hb2.frozen (p := ⟨w.heap.size + 1, o, none⟩) (by simp only [World.size_alloc, World.size_setCell, World.size_drew] <;> omega)
  have f2_1 : w.heap.size + 1 < x2.heap.size := by omega
  have c2_2 : ∀ o, x2.cell? ⟨w.heap.size + 1 + 1, o, none⟩ = _ := fun o => hb2.cell (p := ⟨w.heap.size + 1 + 1, o, none⟩) (by simp only [World.size_alloc, World.size_setCell, World.size_drew] <;> omega)
  have g2_2 : ∀ o, x2.frozen? ⟨w.heap.size + 1 + 1, o, none⟩ = _ := fun o => hb2.frozen (p := ⟨w.heap.size + 1 + 1, o, none⟩) (by simp only [World.size_alloc, World.size_setCell, World.size_drew] <;> omega)
  have f2_2 : w.heap.size + 1 + 1 < x2.heap.size := by omega
  go_wp2_with fail
  with_reducible refine right_k (by assumption) (fun x3 hb3 => ?_)
  try dsimp only
  have hz3 := hb3.size; (try simp only [World.size_alloc, World.size_setCell, World.size_drew] at hz3)
  have c3_0 : ∀ o, x3.cell? ⟨w.heap.size, o, none⟩ = _ := fun o => hb3.cell (p := ⟨w.heap.size, o, none⟩) (by simp only [World.size_alloc, World.size_setCell, World.size_drew] <;> omega)
  have g3_0 : ∀ o, x3.frozen? ⟨w.heap.size, o, none⟩ = _ := fun o => hb3.frozen (p := ⟨w.heap.size, o, none⟩) (by simp only [World.size_alloc, World.size_setCell, World.size_drew] <;> omega)
  have f3_0 : w.heap.size < x3.heap.size := by omega
  have c3_1 : ∀ o, x3.cell? ⟨w.heap.size + 1, o, none⟩ = _ := fun o => hb3.cell (p := ⟨w.heap.size + 1, o, none⟩) (by simp only [World.size_alloc, World.size_setCell, World.size_drew] <;> omega)
  have g3_1 : ∀ o, x3.frozen? ⟨w.heap.size + 1, o, none⟩ = _ := fun o => hb3.frozen (p := ⟨w.heap.size + 1, o, none⟩) (by simp only [World.size_alloc, World.size_setCell, World.size_drew] <;> omega)
  have f3_1 : w.heap.size + 1 < x3.heap.size := by omega
  have c3_2 : ∀ o, x3.cell? ⟨w.heap.size + 1 + 1, o, none⟩ = _ := fun o => hb3.cell (p := ⟨w.heap.size + 1 + 1, o, none⟩) (by simp only [World.size_alloc, World.size_setCell, World.size_drew] <;> omega)
  have g3_2 : ∀ o, x3.frozen? ⟨w.heap.size + 1 + 1, o, none⟩ = _ := fun o => hb3.frozen (p := ⟨w.heap.size + 1 + 1, o, none⟩) (by simp only [World.size_alloc, World.size_setCell, World.size_drew] <;> omega)
  have f3_2 : w.heap.size + 1 + 1 < x3.heap.size := by omega
  go_wp2_with fail
  with_reducible refine right_k (by assumption) (fun x4 hb4 => ?_)
  try dsimp only
  have hz4 := hb4.size; (try simp only [World.size_alloc, World.size_setCell, World.size_drew] at hz4)
  have c4_0 : ∀ o, x4.cell? ⟨w.heap.size, o, none⟩ = _ := fun o => hb4.cell (p := ⟨w.heap.size, o, none⟩) (by simp only [World.size_alloc, World.size_setCell, World.size_drew] <;> omega)
  have g4_0 : ∀ o, x4.frozen? ⟨w.heap.size, o, none⟩ = _ := fun o => hb4.frozen (p := ⟨w.heap.size, o, none⟩) (by simp only [World.size_alloc, World.size_setCell, World.size_drew] <;> omega)
  have f4_0 : w.heap.size < x4.heap.size := by omega
  have c4_1 : ∀ o, x4.cell? ⟨w.heap.size + 1, o, none⟩ = _ := fun o => hb4.cell (p := ⟨w.heap.size + 1, o, none⟩) (by simp only [World.size_alloc, World.size_setCell, World.size_drew] <;> omega)
  have g4_1 : ∀ o, x4.frozen? ⟨w.heap.size + 1, o, none⟩ = _ := fun o => hb4.frozen (p := ⟨w.heap.size + 1, o, none⟩) (by simp only [World.size_alloc, World.size_setCell, World.size_drew] <;> omega)
  have f4_1 : w.heap.size + 1 < x4.heap.size := by omega
  have c4_2 : ∀ o, x4.cell? ⟨w.heap.size + 1 + 1, o, none⟩ = _ := fun o => hb4.cell (p := ⟨w.heap.size + 1 + 1, o, none⟩) (by simp only [World.size_alloc, World.size_setCell, World.size_drew] <;> omega)
  have g4_2 : ∀ o, x4.frozen? ⟨w.heap.size + 1 + 1, o, none⟩ = _ := fun o => hb4.frozen (p := ⟨w.heap.size + 1 + 1, o, none⟩) (by simp only [World.size_alloc, World.size_setCell, World.size_drew] <;> omega)
  have f4_2 : w.heap.size + 1 + 1 < x4.heap.size := by omega
  go_wp2
  refine wp_loop_rounds 4 ?_
  repeat (any_goals (rw [rounds_succ]; go_wp2))
  refine wp_region_B (by kernel_rfl) (by kernel_rfl) ?_
  (repeat (first | (apply runS_skip (by rfl); (try simp only [Act.put, List.setIfInBounds_toArray, List.set_cons_zero, List.set_cons_succ])) | (apply runS_cons (by rfl); (· (intro w1 hS K hK; obtain ⟨q1, q2⟩ := cells_B hS; (go_simp); (first | with_reducible exact hK _ hS | exact hK _ hS | (with_reducible refine fits_k (by assumption) (fun w2 hb => ?_); exact hK _ (bel_call hS hb)) | (with_reducible refine share_k (by assumption) (fun w2 hb => ?_); exact hK _ (bel_call hS hb))))); (try simp only [Act.put, List.setIfInBounds_toArray, List.set_cons_zero, List.set_cons_succ]))))
  refine runS_nil (fun w2 hbz => ?_)
  go_wp2
  go_ret
  exact ⟨rfl, by (repeat (first | with_reducible exact Below.refl _ _ | with_reducible assumption | with_reducible refine Below.drew ?_ | with_reducible refine bl_drewN ?_ | (with_reducible refine bl_alloc ?_ ?_; · (first | omega | (simp; done) | (simp; omega))) | (with_reducible refine bl_set ?_ ?_; · (first | omega | (simp; done) | (simp; omega))) | (with_reducible refine bl_trans hbz ?_ ?_; · (first | omega | (simp; done) | (simp; omega))) | (with_reducible refine bl_trans hb4 ?_ ?_; · (first | omega | (simp; done) | (simp; omega))) | (with_reducible refine bl_trans hb3 ?_ ?_; · (first | omega | (simp; done) | (simp; omega))) | (with_reducible refine bl_trans hb2 ?_ ?_; · (first | omega | (simp; done) | (simp; omega))) | (with_reducible refine bl_trans hb1 ?_ ?_; · (first | omega | (simp; done) | (simp; omega)))))⟩

set_option maxHeartbeats 4000000 in
theorem sh_f4 (a0 a1 a2 b0 b1 b2 d0 d1 d2 : Int) (w : World) (s1 s2 : Int) (h0 : d0 ≤ 0) (h1 : d1 ≤ 0) (h2 : 0 < d2) (ra : rightB a0 a1 a2 = true) (rb : rightB b0 b1 b2 = true) (rd : rightB d0 d1 d2 = true) (hw : shareI d0 d1 d2 d0 d1 d2 = 1000) (hf : fitsB a0 a1 a2 b0 b1 b2 = false) (hs1 : shareI a0 a1 a2 d0 d1 d2 = s1) (hs2 : shareI b0 b1 b2 d0 d1 d2 = s2) (hp : 0 ≤ s1) :
    Calls Try.prog 7 #[rv a0 a1 a2, rv b0 b1 b2, rv d0 d1 d2] w fun e w' => e = .returned (.bool true) ∧ Below w.heap.size w w' := by
  go_enter Try.func7, Try.ntmps7
  go_wp2_with fail
  with_reducible refine awake_k (fun x1 hb1 => ?_)
  try dsimp only
  have hz1 := hb1.size; (try simp only [World.size_alloc, World.size_setCell, World.size_drew] at hz1)
  have c1_0 : ∀ o, x1.cell? ⟨w.heap.size, o, none⟩ = _ := fun o => hb1.cell (p := ⟨w.heap.size, o, none⟩) (by simp only [World.size_alloc, World.size_setCell, World.size_drew] <;> omega)
  have g1_0 : ∀ o, x1.frozen? ⟨w.heap.size, o, none⟩ = _ := fun o => hb1.frozen (p := ⟨w.heap.size, o, none⟩) (by simp only [World.size_alloc, World.size_setCell, World.size_drew] <;> omega)
  have f1_0 : w.heap.size < x1.heap.size := by omega
  have c1_1 : ∀ o, x1.cell? ⟨w.heap.size + 1, o, none⟩ = _ := fun o => hb1.cell (p := ⟨w.heap.size + 1, o, none⟩) (by simp only [World.size_alloc, World.size_setCell, World.size_drew] <;> omega)
  have g1_1 : ∀ o, x1.frozen? ⟨w.heap.size + 1, o, none⟩ = _ := fun o => hb1.frozen (p := ⟨w.heap.size + 1, o, none⟩) (by simp only [World.size_alloc, World.size_setCell, World.size_drew] <;> omega)
  have f1_1 : w.heap.size + 1 < x1.heap.size := by omega
  have c1_2 : ∀ o, x1.cell? ⟨w.heap.size + 1 + 1, o, none⟩ = _ := fun o => hb1.cell (p := ⟨w.heap.size + 1 + 1, o, none⟩) (by simp only [World.size_alloc, World.size_setCell, World.size_drew] <;> omega)
  have g1_2 : ∀ o, x1.frozen? ⟨w.heap.size + 1 + 1, o, none⟩ = _ := fun o => hb1.frozen (p := ⟨w.heap.size + 1 + 1, o, none⟩) (by simp only [World.size_alloc, World.size_setCell, World.size_drew] <;> omega)
  have f1_2 : w.heap.size + 1 + 1 < x1.heap.size := by omega
  go_wp2_with fail
  with_reducible refine right_k (by assumption) (fun x2 hb2 => ?_)
  try dsimp only
  have hz2 := hb2.size; (try simp only [World.size_alloc, World.size_setCell, World.size_drew] at hz2)
  have c2_0 : ∀ o, x2.cell? ⟨w.heap.size, o, none⟩ = _ := fun o => hb2.cell (p := ⟨w.heap.size, o, none⟩) (by simp only [World.size_alloc, World.size_setCell, World.size_drew] <;> omega)
  have g2_0 : ∀ o, x2.frozen? ⟨w.heap.size, o, none⟩ = _ := fun o => hb2.frozen (p := ⟨w.heap.size, o, none⟩) (by simp only [World.size_alloc, World.size_setCell, World.size_drew] <;> omega)
  have f2_0 : w.heap.size < x2.heap.size := by omega
  have c2_1 : ∀ o, x2.cell? ⟨w.heap.size + 1, o, none⟩ = _ := fun o => hb2.cell (p := ⟨w.heap.size + 1, o, none⟩) (by simp only [World.size_alloc, World.size_setCell, World.size_drew] <;> omega)
  have g2_1 : ∀ o, x2.frozen? ⟨w.heap.size + 1, o, none⟩ = _ := fun o => hb2.frozen (p := ⟨w.heap.size + 1, o, none⟩) (by simp only [World.size_alloc, World.size_setCell, World.size_drew] <;> omega)
  have f2_1 : w.heap.size + 1 < x2.heap.size := by omega
  have c2_2 : ∀ o, x2.cell? ⟨w.heap.size + 1 + 1, o, none⟩ = _ := fun o => hb2.cell (p := ⟨w.heap.size + 1 + 1, o, none⟩) (by simp only [World.size_alloc, World.size_setCell, World.size_drew] <;> omega)
  have g2_2 : ∀ o, x2.frozen? ⟨w.heap.size + 1 + 1, o, none⟩ = _ := fun o => hb2.frozen (p := ⟨w.heap.size + 1 + 1, o, none⟩) (by simp only [World.size_alloc, World.size_setCell, World.size_drew] <;> omega)
  have f2_2 : w.heap.size + 1 + 1 < x2.heap.size := by omega
  go_wp2_with fail
  with_reducible refine right_k (by assumption) (fun x3 hb3 => ?_)
  try dsimp only
  have hz3 := hb3.size; (try simp only [World.size_alloc, World.size_setCell, World.size_drew] at hz3)
  have c3_0 : ∀ o, x3.cell? ⟨w.heap.size, o, none⟩ = _ := fun o => hb3.cell (p := ⟨w.heap.size, o, none⟩) (by simp only [World.size_alloc, World.size_setCell, World.size_drew] <;> omega)
  have g3_0 : ∀ o, x3.frozen? ⟨w.heap.size, o, none⟩ = _ := fun o => hb3.frozen (p := ⟨w.heap.size, o, none⟩) (by simp only [World.size_alloc, World.size_setCell, World.size_drew] <;> omega)
  have f3_0 : w.heap.size < x3.heap.size := by omega
  have c3_1 : ∀ o, x3.cell? ⟨w.heap.size + 1, o, none⟩ = _ := fun o => hb3.cell (p := ⟨w.heap.size + 1, o, none⟩) (by simp only [World.size_alloc, World.size_setCell, World.size_drew] <;> omega)
  have g3_1 : ∀ o, x3.frozen? ⟨w.heap.size + 1, o, none⟩ = _ := fun o => hb3.frozen (p := ⟨w.heap.size + 1, o, none⟩) (by simp only [World.size_alloc, World.size_setCell, World.size_drew] <;> omega)
  have f3_1 : w.heap.size + 1 < x3.heap.size := by omega
  have c3_2 : ∀ o, x3.cell? ⟨w.heap.size + 1 + 1, o, none⟩ = _ := fun o => hb3.cell (p := ⟨w.heap.size + 1 + 1, o, none⟩) (by simp only [World.size_alloc, World.size_setCell, World.size_drew] <;> omega)
  have g3_2 : ∀ o, x3.frozen? ⟨w.heap.size + 1 + 1, o, none⟩ = _ := fun o => hb3.frozen (p := ⟨w.heap.size + 1 + 1, o, none⟩) (by simp only [World.size_alloc, World.size_setCell, World.size_drew] <;> omega)
  have f3_2 : w.heap.size + 1 + 1 < x3.heap.size := by omega
  go_wp2_with fail
  with_reducible refine right_k (by assumption) (fun x4 hb4 => ?_)
  try dsimp only
  have hz4 := hb4.size; (try simp only [World.size_alloc, World.size_setCell, World.size_drew] at hz4)
  have c4_0 : ∀ o, x4.cell? ⟨w.heap.size, o, none⟩ = _ := fun o => hb4.cell (p := ⟨w.heap.size, o, none⟩) (by simp only [World.size_alloc, World.size_setCell, World.size_drew] <;> omega)
  have g4_0 : ∀ o, x4.frozen? ⟨w.heap.size, o, none⟩ = _ := fun o => hb4.frozen (p := ⟨w.heap.size, o, none⟩) (by simp only [World.size_alloc, World.size_setCell, World.size_drew] <;> omega)
  have f4_0 : w.heap.size < x4.heap.size := by omega
  have c4_1 : ∀ o, x4.cell? ⟨w.heap.size + 1, o, none⟩ = _ := fun o => hb4.cell (p := ⟨w.heap.size + 1, o, none⟩) (by simp only [World.size_alloc, World.size_setCell, World.size_drew] <;> omega)
  have g4_1 : ∀ o, x4.frozen? ⟨w.heap.size + 1, o, none⟩ = _ := fun o => hb4.frozen (p := ⟨w.heap.size + 1, o, none⟩) (by simp only [World.size_alloc, World.size_setCell, World.size_drew] <;> omega)
  have f4_1 : w.heap.size + 1 < x4.heap.size := by omega
  have c4_2 : ∀ o, x4.cell? ⟨w.heap.size + 1 + 1, o, none⟩ = _ := fun o => hb4.cell (p := ⟨w.heap.size + 1 + 1, o, none⟩) (by simp only [World.size_alloc, World.size_setCell, World.size_drew] <;> omega)
  have g4_2 : ∀ o, x4.frozen? ⟨w.heap.size + 1 + 1, o, none⟩ = _ := fun o => hb4.frozen (p := ⟨w.heap.size + 1 + 1, o, none⟩) (by simp only [World.size_alloc, World.size_setCell, World.size_drew] <;> omega)
  have f4_2 : w.heap.size + 1 + 1 < x4.heap.size := by omega
  go_wp2
  refine wp_loop_rounds 4 ?_
  repeat (any_goals (rw [rounds_succ]; go_wp2))
  refine wp_region_B (by kernel_rfl) (by kernel_rfl) ?_
  (repeat (first | (apply runS_skip (by rfl); (try simp only [Act.put, List.setIfInBounds_toArray, List.set_cons_zero, List.set_cons_succ])) | (apply runS_cons (by rfl); (· (intro w1 hS K hK; obtain ⟨q1, q2⟩ := cells_B hS; (go_simp); (first | with_reducible exact hK _ hS | exact hK _ hS | (with_reducible refine fits_k (by assumption) (fun w2 hb => ?_); exact hK _ (bel_call hS hb)) | (with_reducible refine share_k (by assumption) (fun w2 hb => ?_); exact hK _ (bel_call hS hb))))); (try simp only [Act.put, List.setIfInBounds_toArray, List.set_cons_zero, List.set_cons_succ]))))
  refine runS_nil (fun w2 hbz => ?_)
  go_wp2
  go_ret
  exact ⟨rfl, by (repeat (first | with_reducible exact Below.refl _ _ | with_reducible assumption | with_reducible refine Below.drew ?_ | with_reducible refine bl_drewN ?_ | (with_reducible refine bl_alloc ?_ ?_; · (first | omega | (simp; done) | (simp; omega))) | (with_reducible refine bl_set ?_ ?_; · (first | omega | (simp; done) | (simp; omega))) | (with_reducible refine bl_trans hbz ?_ ?_; · (first | omega | (simp; done) | (simp; omega))) | (with_reducible refine bl_trans hb4 ?_ ?_; · (first | omega | (simp; done) | (simp; omega))) | (with_reducible refine bl_trans hb3 ?_ ?_; · (first | omega | (simp; done) | (simp; omega))) | (with_reducible refine bl_trans hb2 ?_ ?_; · (first | omega | (simp; done) | (simp; omega))) | (with_reducible refine bl_trans hb1 ?_ ?_; · (first | omega | (simp; done) | (simp; omega)))))⟩

set_option maxHeartbeats 4000000 in
theorem sh_f5 (a0 a1 a2 b0 b1 b2 d0 d1 d2 : Int) (w : World) (s1 s2 : Int) (h0 : 0 < d0) (h1 : d1 ≤ 0) (h2 : 0 < d2) (ra : rightB a0 a1 a2 = true) (rb : rightB b0 b1 b2 = true) (rd : rightB d0 d1 d2 = true) (hw : shareI d0 d1 d2 d0 d1 d2 = 2000) (hf : fitsB a0 a1 a2 b0 b1 b2 = false) (hs1 : shareI a0 a1 a2 d0 d1 d2 = s1) (hs2 : shareI b0 b1 b2 d0 d1 d2 = s2) (hp : 0 ≤ s1) :
    Calls Try.prog 7 #[rv a0 a1 a2, rv b0 b1 b2, rv d0 d1 d2] w fun e w' => e = .returned (.bool true) ∧ Below w.heap.size w w' := by
  go_enter Try.func7, Try.ntmps7
  go_wp2_with fail
  with_reducible refine awake_k (fun x1 hb1 => ?_)
  try dsimp only
  have hz1 := hb1.size; (try simp only [World.size_alloc, World.size_setCell, World.size_drew] at hz1)
  have c1_0 : ∀ o, x1.cell? ⟨w.heap.size, o, none⟩ = _ := fun o => hb1.cell (p := ⟨w.heap.size, o, none⟩) (by simp only [World.size_alloc, World.size_setCell, World.size_drew] <;> omega)
  have g1_0 : ∀ o, x1.frozen? ⟨w.heap.size, o, none⟩ = _ := fun o => hb1.frozen (p := ⟨w.heap.size, o, none⟩) (by simp only [World.size_alloc, World.size_setCell, World.size_drew] <;> omega)
  have f1_0 : w.heap.size < x1.heap.size := by omega
  have c1_1 : ∀ o, x1.cell? ⟨w.heap.size + 1, o, none⟩ = _ := fun o => hb1.cell (p := ⟨w.heap.size + 1, o, none⟩) (by simp only [World.size_alloc, World.size_setCell, World.size_drew] <;> omega)
  have g1_1 : ∀ o, x1.frozen? ⟨w.heap.size + 1, o, none⟩ = _ := fun o => hb1.frozen (p := ⟨w.heap.size + 1, o, none⟩) (by simp only [World.size_alloc, World.size_setCell, World.size_drew] <;> omega)
  have f1_1 : w.heap.size + 1 < x1.heap.size := by omega
  have c1_2 : ∀ o, x1.cell? ⟨w.heap.size + 1 + 1, o, none⟩ = _ := fun o => hb1.cell (p := ⟨w.heap.size + 1 + 1, o, none⟩) (by simp only [World.size_alloc, World.size_setCell, World.size_drew] <;> omega)
  have g1_2 : ∀ o, x1.frozen? ⟨w.heap.size + 1 + 1, o, none⟩ = _ := fun o => hb1.frozen (p := ⟨w.heap.size + 1 + 1, o, none⟩) (by simp only [World.size_alloc, World.size_setCell, World.size_drew] <;> omega)
  have f1_2 : w.heap.size + 1 + 1 < x1.heap.size := by omega
  go_wp2_with fail
  with_reducible refine right_k (by assumption) (fun x2 hb2 => ?_)
  try dsimp only
  have hz2 := hb2.size; (try simp only [World.size_alloc, World.size_setCell, World.size_drew] at hz2)
  have c2_0 : ∀ o, x2.cell? ⟨w.heap.size, o, none⟩ = _ := fun o => hb2.cell (p := ⟨w.heap.size, o, none⟩) (by simp only [World.size_alloc, World.size_setCell, World.size_drew] <;> omega)
  have g2_0 : ∀ o, x2.frozen? ⟨w.heap.size, o, none⟩ = _ := fun o => hb2.frozen (p := ⟨w.heap.size, o, none⟩) (by simp only [World.size_alloc, World.size_setCell, World.size_drew] <;> omega)
  have f2_0 : w.heap.size < x2.heap.size := by omega
  have c2_1 : ∀ o, x2.cell? ⟨w.heap.size + 1, o, none⟩ = _ := fun o => hb2.cell (p := ⟨w.heap.size + 1, o, none⟩) (by simp only [World.size_alloc, World.size_setCell, World.size_drew] <;> omega)
  have g2_1 : ∀ o, x2.frozen? ⟨w.heap.size + 1, o, none⟩ = _ := fun o => hb2.frozen (p := ⟨w.heap.size + 1, o, none⟩) (by simp only [World.size_alloc, World.size_setCell, World.size_drew] <;> omega)
  have f2_1 : w.heap.size + 1 < x2.heap.size := by omega
  have c2_2 : ∀ o, x2.cell? ⟨w.heap.size + 1 + 1, o, none⟩ = _ := fun o => hb2.cell (p := ⟨w.heap.size + 1 + 1, o, none⟩) (by simp only [World.size_alloc, World.size_setCell, World.size_drew] <;> omega)
  have g2_2 : ∀ o, x2.frozen? ⟨w.heap.size + 1 + 1, o, none⟩ = _ := fun o => hb2.frozen (p := ⟨w.heap.size + 1 + 1, o, none⟩) (by simp only [World.size_alloc, World.size_setCell, World.size_drew] <;> omega)
  have f2_2 : w.heap.size + 1 + 1 < x2.heap.size := by omega
  go_wp2_with fail
  with_reducible refine right_k (by assumption) (fun x3 hb3 => ?_)
  try dsimp only
  have hz3 := hb3.size; (try simp only [World.size_alloc, World.size_setCell, World.size_drew] at hz3)
  have c3_0 : ∀ o, x3.cell? ⟨w.heap.size, o, none⟩ = _ := fun o => hb3.cell (p := ⟨w.heap.size, o, none⟩) (by simp only [World.size_alloc, World.size_setCell, World.size_drew] <;> omega)
  have g3_0 : ∀ o, x3.frozen? ⟨w.heap.size, o, none⟩ = _ := fun o => hb3.frozen (p := ⟨w.heap.size, o, none⟩) (by simp only [World.size_alloc, World.size_setCell, World.size_drew] <;> omega)
  have f3_0 : w.heap.size < x3.heap.size := by omega
  have c3_1 : ∀ o, x3.cell? ⟨w.heap.size + 1, o, none⟩ = _ := fun o => hb3.cell (p := ⟨w.heap.size + 1, o, none⟩) (by simp only [World.size_alloc, World.size_setCell, World.size_drew] <;> omega)
  have g3_1 : ∀ o, x3.frozen? ⟨w.heap.size + 1, o, none⟩ = _ := fun o => hb3.frozen (p := ⟨w.heap.size + 1, o, none⟩) (by simp only [World.size_alloc, World.size_setCell, World.size_drew] <;> omega)
  have f3_1 : w.heap.size + 1 < x3.heap.size := by omega
  have c3_2 : ∀ o, x3.cell? ⟨w.heap.size + 1 + 1, o, none⟩ = _ := fun o => hb3.cell (p := ⟨w.heap.size + 1 + 1, o, none⟩) (by simp only [World.size_alloc, World.size_setCell, World.size_drew] <;> omega)
  have g3_2 : ∀ o, x3.frozen? ⟨w.heap.size + 1 + 1, o, none⟩ = _ := fun o => hb3.frozen (p := ⟨w.heap.size + 1 + 1, o, none⟩) (by simp only [World.size_alloc, World.size_setCell, World.size_drew] <;> omega)
  have f3_2 : w.heap.size + 1 + 1 < x3.heap.size := by omega
  go_wp2_with fail
  with_reducible refine right_k (by assumption) (fun x4 hb4 => ?_)
  try dsimp only
  have hz4 := hb4.size; (try simp only [World.size_alloc, World.size_setCell, World.size_drew] at hz4)
  have c4_0 : ∀ o, x4.cell? ⟨w.heap.size, o, none⟩ = _ := fun o => hb4.cell (p := ⟨w.heap.size, o, none⟩) (by simp only [World.size_alloc, World.size_setCell, World.size_drew] <;> omega)
  have g4_0 : ∀ o, x4.frozen? ⟨w.heap.size, o, none⟩ = _ := fun o => hb4.frozen (p := ⟨w.heap.size, o, none⟩) (by simp only [World.size_alloc, World.size_setCell, World.size_drew] <;> omega)
  have f4_0 : w.heap.size < x4.heap.size := by omega
  have c4_1 : ∀ o, x4.cell? ⟨w.heap.size + 1, o, none⟩ = _ := fun o => hb4.cell (p := ⟨w.heap.size + 1, o, none⟩) (by simp only [World.size_alloc, World.size_setCell, World.size_drew] <;> omega)
  have g4_1 : ∀ o, x4.frozen? ⟨w.heap.size + 1, o, none⟩ = _ := fun o => hb4.frozen (p := ⟨w.heap.size + 1, o, none⟩) (by simp only [World.size_alloc, World.size_setCell, World.size_drew] <;> omega)
  have f4_1 : w.heap.size + 1 < x4.heap.size := by omega
  have c4_2 : ∀ o, x4.cell? ⟨w.heap.size + 1 + 1, o, none⟩ = _ := fun o => hb4.cell (p := ⟨w.heap.size + 1 + 1, o, none⟩) (by simp only [World.size_alloc, World.size_setCell, World.size_drew] <;> omega)
  have g4_2 : ∀ o, x4.frozen? ⟨w.heap.size + 1 + 1, o, none⟩ = _ := fun o => hb4.frozen (p := ⟨w.heap.size + 1 + 1, o, none⟩) (by simp only [World.size_alloc, World.size_setCell, World.size_drew] <;> omega)
  have f4_2 : w.heap.size + 1 + 1 < x4.heap.size := by omega
  go_wp2
  refine wp_loop_rounds 4 ?_
  repeat (any_goals (rw [rounds_succ]; go_wp2))
  refine wp_region_B (by kernel_rfl) (by kernel_rfl) ?_
  (repeat (first | (apply runS_skip (by rfl); (try simp only [Act.put, List.setIfInBounds_toArray, List.set_cons_zero, List.set_cons_succ])) | (apply runS_cons (by rfl); (· (intro w1 hS K hK; obtain ⟨q1, q2⟩ := cells_B hS; (go_simp); (first | with_reducible exact hK _ hS | exact hK _ hS | (with_reducible refine fits_k (by assumption) (fun w2 hb => ?_); exact hK _ (bel_call hS hb)) | (with_reducible refine share_k (by assumption) (fun w2 hb => ?_); exact hK _ (bel_call hS hb))))); (try simp only [Act.put, List.setIfInBounds_toArray, List.set_cons_zero, List.set_cons_succ]))))
  refine runS_nil (fun w2 hbz => ?_)
  go_wp2
  go_ret
  exact ⟨rfl, by (repeat (first | with_reducible exact Below.refl _ _ | with_reducible assumption | with_reducible refine Below.drew ?_ | with_reducible refine bl_drewN ?_ | (with_reducible refine bl_alloc ?_ ?_; · (first | omega | (simp; done) | (simp; omega))) | (with_reducible refine bl_set ?_ ?_; · (first | omega | (simp; done) | (simp; omega))) | (with_reducible refine bl_trans hbz ?_ ?_; · (first | omega | (simp; done) | (simp; omega))) | (with_reducible refine bl_trans hb4 ?_ ?_; · (first | omega | (simp; done) | (simp; omega))) | (with_reducible refine bl_trans hb3 ?_ ?_; · (first | omega | (simp; done) | (simp; omega))) | (with_reducible refine bl_trans hb2 ?_ ?_; · (first | omega | (simp; done) | (simp; omega))) | (with_reducible refine bl_trans hb1 ?_ ?_; · (first | omega | (simp; done) | (simp; omega)))))⟩

set_option maxHeartbeats 4000000 in
theorem sh_f6 (a0 a1 a2 b0 b1 b2 d0 d1 d2 : Int) (w : World) (s1 s2 : Int) (h0 : d0 ≤ 0) (h1 : 0 < d1) (h2 : 0 < d2) (ra : rightB a0 a1 a2 = true) (rb : rightB b0 b1 b2 = true) (rd : rightB d0 d1 d2 = true) (hw : shareI d0 d1 d2 d0 d1 d2 = 2000) (hf : fitsB a0 a1 a2 b0 b1 b2 = false) (hs1 : shareI a0 a1 a2 d0 d1 d2 = s1) (hs2 : shareI b0 b1 b2 d0 d1 d2 = s2) (hp : 0 ≤ s1) :
    Calls Try.prog 7 #[rv a0 a1 a2, rv b0 b1 b2, rv d0 d1 d2] w fun e w' => e = .returned (.bool true) ∧ Below w.heap.size w w' := by
  go_enter Try.func7, Try.ntmps7
  go_wp2_with fail
  with_reducible refine awake_k (fun x1 hb1 => ?_)
  try dsimp only
  have hz1 := hb1.size; (try simp only [World.size_alloc, World.size_setCell, World.size_drew] at hz1)
  have c1_0 : ∀ o, x1.cell? ⟨w.heap.size, o, none⟩ = _ := fun o => hb1.cell (p := ⟨w.heap.size, o, none⟩) (by simp only [World.size_alloc, World.size_setCell, World.size_drew] <;> omega)
  have g1_0 : ∀ o, x1.frozen? ⟨w.heap.size, o, none⟩ = _ := fun o => hb1.frozen (p := ⟨w.heap.size, o, none⟩) (by simp only [World.size_alloc, World.size_setCell, World.size_drew] <;> omega)
  have f1_0 : w.heap.size < x1.heap.size := by omega
  have c1_1 : ∀ o, x1.cell? ⟨w.heap.size + 1, o, none⟩ = _ := fun o => hb1.cell (p := ⟨w.heap.size + 1, o, none⟩) (by simp only [World.size_alloc, World.size_setCell, World.size_drew] <;> omega)
  have g1_1 : ∀ o, x1.frozen? ⟨w.heap.size + 1, o, none⟩ = _ := fun o => hb1.frozen (p := ⟨w.heap.size + 1, o, none⟩) (by simp only [World.size_alloc, World.size_setCell, World.size_drew] <;> omega)
  have f1_1 : w.heap.size + 1 < x1.heap.size := by omega
  have c1_2 : ∀ o, x1.cell? ⟨w.heap.size + 1 + 1, o, none⟩ = _ := fun o => hb1.cell (p := ⟨w.heap.size + 1 + 1, o, none⟩) (by simp only [World.size_alloc, World.size_setCell, World.size_drew] <;> omega)
  have g1_2 : ∀ o, x1.frozen? ⟨w.heap.size + 1 + 1, o, none⟩ = _ := fun o => hb1.frozen (p := ⟨w.heap.size + 1 + 1, o, none⟩) (by simp only [World.size_alloc, World.size_setCell, World.size_drew] <;> omega)
  have f1_2 : w.heap.size + 1 + 1 < x1.heap.size := by omega
  go_wp2_with fail
  with_reducible refine right_k (by assumption) (fun x2 hb2 => ?_)
  try dsimp only
  have hz2 := hb2.size; (try simp only [World.size_alloc, World.size_setCell, World.size_drew] at hz2)
  have c2_0 : ∀ o, x2.cell? ⟨w.heap.size, o, none⟩ = _ := fun o => hb2.cell (p := ⟨w.heap.size, o, none⟩) (by simp only [World.size_alloc, World.size_setCell, World.size_drew] <;> omega)
  have g2_0 : ∀ o, x2.frozen? ⟨w.heap.size, o, none⟩ = _ := fun o => hb2.frozen (p := ⟨w.heap.size, o, none⟩) (by simp only [World.size_alloc, World.size_setCell, World.size_drew] <;> omega)
  have f2_0 : w.heap.size < x2.heap.size := by omega
  have c2_1 : ∀ o, x2.cell? ⟨w.heap.size + 1, o, none⟩ = _ := fun o => hb2.cell (p := ⟨w.heap.size + 1, o, none⟩) (by simp only [World.size_alloc, World.size_setCell, World.size_drew] <;> omega)
  have g2_1 : ∀ o, x2.frozen? ⟨w.heap.size + 1, o, none⟩ = _ := fun o => hb2.frozen (p := ⟨w.heap.size + 1, o, none⟩) (by simp only [World.size_alloc, World.size_setCell, World.size_drew] <;> omega)
  have f2_1 : w.heap.size + 1 < x2.heap.size := by omega
  have c2_2 : ∀ o, x2.cell? ⟨w.heap.size + 1 + 1, o, none⟩ = _ := fun o => hb2.cell (p := ⟨w.heap.size + 1 + 1, o, none⟩) (by simp only [World.size_alloc, World.size_setCell, World.size_drew] <;> omega)
  have g2_2 : ∀ o, x2.frozen? ⟨w.heap.size + 1 + 1, o, none⟩ = _ := fun o => hb2.frozen (p := ⟨w.heap.size + 1 + 1, o, none⟩) (by simp only [World.size_alloc, World.size_setCell, World.size_drew] <;> omega)
  have f2_2 : w.heap.size + 1 + 1 < x2.heap.size := by omega
  go_wp2_with fail
  with_reducible refine right_k (by assumption) (fun x3 hb3 => ?_)
  try dsimp only
  have hz3 := hb3.size; (try simp only [World.size_alloc, World.size_setCell, World.size_drew] at hz3)
  have c3_0 : ∀ o, x3.cell? ⟨w.heap.size, o, none⟩ = _ := fun o => hb3.cell (p := ⟨w.heap.size, o, none⟩) (by simp only [World.size_alloc, World.size_setCell, World.size_drew] <;> omega)
  have g3_0 : ∀ o, x3.frozen? ⟨w.heap.size, o, none⟩ = _ := fun o => hb3.frozen (p := ⟨w.heap.size, o, none⟩) (by simp only [World.size_alloc, World.size_setCell, World.size_drew] <;> omega)
  have f3_0 : w.heap.size < x3.heap.size := by omega
  have c3_1 : ∀ o, x3.cell? ⟨w.heap.size + 1, o, none⟩ = _ := fun o => hb3.cell (p := ⟨w.heap.size + 1, o, none⟩) (by simp only [World.size_alloc, World.size_setCell, World.size_drew] <;> omega)
  have g3_1 : ∀ o, x3.frozen? ⟨w.heap.size + 1, o, none⟩ = _ := fun o => hb3.frozen (p := ⟨w.heap.size + 1, o, none⟩) (by simp only [World.size_alloc, World.size_setCell, World.size_drew] <;> omega)
  have f3_1 : w.heap.size + 1 < x3.heap.size := by omega
  have c3_2 : ∀ o, x3.cell? ⟨w.heap.size + 1 + 1, o, none⟩ = _ := fun o => hb3.cell (p := ⟨w.heap.size + 1 + 1, o, none⟩) (by simp only [World.size_alloc, World.size_setCell, World.size_drew] <;> omega)
  have g3_2 : ∀ o, x3.frozen? ⟨w.heap.size + 1 + 1, o, none⟩ = _ := fun o => hb3.frozen (p := ⟨w.heap.size + 1 + 1, o, none⟩) (by simp only [World.size_alloc, World.size_setCell, World.size_drew] <;> omega)
  have f3_2 : w.heap.size + 1 + 1 < x3.heap.size := by omega
  go_wp2_with fail
  with_reducible refine right_k (by assumption) (fun x4 hb4 => ?_)
  try dsimp only
  have hz4 := hb4.size; (try simp only [World.size_alloc, World.size_setCell, World.size_drew] at hz4)
  have c4_0 : ∀ o, x4.cell? ⟨w.heap.size, o, none⟩ = _ := fun o => hb4.cell (p := ⟨w.heap.size, o, none⟩) (by simp only [World.size_alloc, World.size_setCell, World.size_drew] <;> omega)
  have g4_0 : ∀ o, x4.frozen? ⟨w.heap.size, o, none⟩ = _ := fun o => hb4.frozen (p := ⟨w.heap.size, o, none⟩) (by simp only [World.size_alloc, World.size_setCell, World.size_drew] <;> omega)
  have f4_0 : w.heap.size < x4.heap.size := by omega
  have c4_1 : ∀ o, x4.cell? ⟨w.heap.size + 1, o, none⟩ = _ := fun o => hb4.cell (p := ⟨w.heap.size + 1, o, none⟩) (by simp only [World.size_alloc, World.size_setCell, World.size_drew] <;> omega)
  have g4_1 : ∀ o, x4.frozen? ⟨w.heap.size + 1, o, none⟩ = _ := fun o => hb4.frozen (p := ⟨w.heap.size + 1, o, none⟩) (by simp only [World.size_alloc, World.size_setCell, World.size_drew] <;> omega)
  have f4_1 : w.heap.size + 1 < x4.heap.size := by omega
  have c4_2 : ∀ o, x4.cell? ⟨w.heap.size + 1 + 1, o, none⟩ = _ := fun o => hb4.cell (p := ⟨w.heap.size + 1 + 1, o, none⟩) (by simp only [World.size_alloc, World.size_setCell, World.size_drew] <;> omega)
  have g4_2 : ∀ o, x4.frozen? ⟨w.heap.size + 1 + 1, o, none⟩ = _ := fun o => hb4.frozen (p := ⟨w.heap.size + 1 + 1, o, none⟩) (by simp only [World.size_alloc, World.size_setCell, World.size_drew] <;> omega)
  have f4_2 : w.heap.size + 1 + 1 < x4.heap.size := by omega
  go_wp2
  refine wp_loop_rounds 4 ?_
  repeat (any_goals (rw [rounds_succ]; go_wp2))
  refine wp_region_B (by kernel_rfl) (by kernel_rfl) ?_
  (repeat (first | (apply runS_skip (by rfl); (try simp only [Act.put, List.setIfInBounds_toArray, List.set_cons_zero, List.set_cons_succ])) | (apply runS_cons (by rfl); (· (intro w1 hS K hK; obtain ⟨q1, q2⟩ := cells_B hS; (go_simp); (first | with_reducible exact hK _ hS | exact hK _ hS | (with_reducible refine fits_k (by assumption) (fun w2 hb => ?_); exact hK _ (bel_call hS hb)) | (with_reducible refine share_k (by assumption) (fun w2 hb => ?_); exact hK _ (bel_call hS hb))))); (try simp only [Act.put, List.setIfInBounds_toArray, List.set_cons_zero, List.set_cons_succ]))))
  refine runS_nil (fun w2 hbz => ?_)
  go_wp2
  go_ret
  exact ⟨rfl, by (repeat (first | with_reducible exact Below.refl _ _ | with_reducible assumption | with_reducible refine Below.drew ?_ | with_reducible refine bl_drewN ?_ | (with_reducible refine bl_alloc ?_ ?_; · (first | omega | (simp; done) | (simp; omega))) | (with_reducible refine bl_set ?_ ?_; · (first | omega | (simp; done) | (simp; omega))) | (with_reducible refine bl_trans hbz ?_ ?_; · (first | omega | (simp; done) | (simp; omega))) | (with_reducible refine bl_trans hb4 ?_ ?_; · (first | omega | (simp; done) | (simp; omega))) | (with_reducible refine bl_trans hb3 ?_ ?_; · (first | omega | (simp; done) | (simp; omega))) | (with_reducible refine bl_trans hb2 ?_ ?_; · (first | omega | (simp; done) | (simp; omega))) | (with_reducible refine bl_trans hb1 ?_ ?_; · (first | omega | (simp; done) | (simp; omega)))))⟩

set_option maxHeartbeats 4000000 in
theorem sh_f7 (a0 a1 a2 b0 b1 b2 d0 d1 d2 : Int) (w : World) (s1 s2 : Int) (h0 : 0 < d0) (h1 : 0 < d1) (h2 : 0 < d2) (ra : rightB a0 a1 a2 = true) (rb : rightB b0 b1 b2 = true) (rd : rightB d0 d1 d2 = true) (hw : shareI d0 d1 d2 d0 d1 d2 = 3000) (hf : fitsB a0 a1 a2 b0 b1 b2 = false) (hs1 : shareI a0 a1 a2 d0 d1 d2 = s1) (hs2 : shareI b0 b1 b2 d0 d1 d2 = s2) (hp : 0 ≤ s1) :
    Calls Try.prog 7 #[rv a0 a1 a2, rv b0 b1 b2, rv d0 d1 d2] w fun e w' => e = .returned (.bool true) ∧ Below w.heap.size w w' := by
  go_enter Try.func7, Try.ntmps7
  go_wp2_with fail
  with_reducible refine awake_k (fun x1 hb1 => ?_)
  try dsimp only
  have hz1 := hb1.size; (try simp only [World.size_alloc, World.size_setCell, World.size_drew] at hz1)
  have c1_0 : ∀ o, x1.cell? ⟨w.heap.size, o, none⟩ = _ := fun o => hb1.cell (p := ⟨w.heap.size, o, none⟩) (by simp only [World.size_alloc, World.size_setCell, World.size_drew] <;> omega)
  have g1_0 : ∀ o, x1.frozen? ⟨w.heap.size, o, none⟩ = _ := fun o => hb1.frozen (p := ⟨w.heap.size, o, none⟩) (by simp only [World.size_alloc, World.size_setCell, World.size_drew] <;> omega)
  have f1_0 : w.heap.size < x1.heap.size := by omega
  have c1_1 : ∀ o, x1.cell? ⟨w.heap.size + 1, o, none⟩ = _ := fun o => hb1.cell (p := ⟨w.heap.size + 1, o, none⟩) (by simp only [World.size_alloc, World.size_setCell, World.size_drew] <;> omega)
  have g1_1 : ∀ o, x1.frozen? ⟨w.heap.size + 1, o, none⟩ = _ := fun o => hb1.frozen (p := ⟨w.heap.size + 1, o, none⟩) (by simp only [World.size_alloc, World.size_setCell, World.size_drew] <;> omega)
  have f1_1 : w.heap.size + 1 < x1.heap.size := by omega
  have c1_2 : ∀ o, x1.cell? ⟨w.heap.size + 1 + 1, o, none⟩ = _ := fun o => hb1.cell (p := ⟨w.heap.size + 1 + 1, o, none⟩) (by simp only [World.size_alloc, World.size_setCell, World.size_drew] <;> omega)
  have g1_2 : ∀ o, x1.frozen? ⟨w.heap.size + 1 + 1, o, none⟩ = _ := fun o => hb1.frozen (p := ⟨w.heap.size + 1 + 1, o, none⟩) (by simp only [World.size_alloc, World.size_setCell, World.size_drew] <;> omega)
  have f1_2 : w.heap.size + 1 + 1 < x1.heap.size := by omega
  go_wp2_with fail
  with_reducible refine right_k (by assumption) (fun x2 hb2 => ?_)
  try dsimp only
  have hz2 := hb2.size; (try simp only [World.size_alloc, World.size_setCell, World.size_drew] at hz2)
  have c2_0 : ∀ o, x2.cell? ⟨w.heap.size, o, none⟩ = _ := fun o => hb2.cell (p := ⟨w.heap.size, o, none⟩) (by simp only [World.size_alloc, World.size_setCell, World.size_drew] <;> omega)
  have g2_0 : ∀ o, x2.frozen? ⟨w.heap.size, o, none⟩ = _ := fun o => hb2.frozen (p := ⟨w.heap.size, o, none⟩) (by simp only [World.size_alloc, World.size_setCell, World.size_drew] <;> omega)
  have f2_0 : w.heap.size < x2.heap.size := by omega
  have c2_1 : ∀ o, x2.cell? ⟨w.heap.size + 1, o, none⟩ = _ := fun o => hb2.cell (p := ⟨w.heap.size + 1, o, none⟩) (by simp only [World.size_alloc, World.size_setCell, World.size_drew] <;> omega)
  have g2_1 : ∀ o, x2.frozen? ⟨w.heap.size + 1, o, none⟩ = _ := fun o => hb2.frozen (p := ⟨w.heap.size + 1, o, none⟩) (by simp only [World.size_alloc, World.size_setCell, World.size_drew] <;> omega)
  have f2_1 : w.heap.size + 1 < x2.heap.size := by omega
  have c2_2 : ∀ o, x2.cell? ⟨w.heap.size + 1 + 1, o, none⟩ = _ := fun o => hb2.cell (p := ⟨w.heap.size + 1 + 1, o, none⟩) (by simp only [World.size_alloc, World.size_setCell, World.size_drew] <;> omega)
  have g2_2 : ∀ o, x2.frozen? ⟨w.heap.size + 1 + 1, o, none⟩ = _ := fun o => hb2.frozen (p := ⟨w.heap.size + 1 + 1, o, none⟩) (by simp only [World.size_alloc, World.size_setCell, World.size_drew] <;> omega)
  have f2_2 : w.heap.size + 1 + 1 < x2.heap.size := by omega
  go_wp2_with fail
  with_reducible refine right_k (by assumption) (fun x3 hb3 => ?_)
  try dsimp only
  have hz3 := hb3.size; (try simp only [World.size_alloc, World.size_setCell, World.size_drew] at hz3)
  have c3_0 : ∀ o, x3.cell? ⟨w.heap.size, o, none⟩ = _ := fun o => hb3.cell (p := ⟨w.heap.size, o, none⟩) (by simp only [World.size_alloc, World.size_setCell, World.size_drew] <;> omega)
  have g3_0 : ∀ o, x3.frozen? ⟨w.heap.size, o, none⟩ = _ := fun o => hb3.frozen (p := ⟨w.heap.size, o, none⟩) (by simp only [World.size_alloc, World.size_setCell, World.size_drew] <;> omega)
  have f3_0 : w.heap.size < x3.heap.size := by omega
  have c3_1 : ∀ o, x3.cell? ⟨w.heap.size + 1, o, none⟩ = _ := fun o => hb3.cell (p := ⟨w.heap.size + 1, o, none⟩) (by simp only [World.size_alloc, World.size_setCell, World.size_drew] <;> omega)
  have g3_1 : ∀ o, x3.frozen? ⟨w.heap.size + 1, o, none⟩ = _ := fun o => hb3.frozen (p := ⟨w.heap.size + 1, o, none⟩) (by simp only [World.size_alloc, World.size_setCell, World.size_drew] <;> omega)
  have f3_1 : w.heap.size + 1 < x3.heap.size := by omega
  have c3_2 : ∀ o, x3.cell? ⟨w.heap.size + 1 + 1, o, none⟩ = _ := fun o => hb3.cell (p := ⟨w.heap.size + 1 + 1, o, none⟩) (by simp only [World.size_alloc, World.size_setCell, World.size_drew] <;> omega)
  have g3_2 : ∀ o, x3.frozen? ⟨w.heap.size + 1 + 1, o, none⟩ = _ := fun o => hb3.frozen (p := ⟨w.heap.size + 1 + 1, o, none⟩) (by simp only [World.size_alloc, World.size_setCell, World.size_drew] <;> omega)
  have f3_2 : w.heap.size + 1 + 1 < x3.heap.size := by omega
  go_wp2_with fail
  with_reducible refine right_k (by assumption) (fun x4 hb4 => ?_)
  try dsimp only
  have hz4 := hb4.size; (try simp only [World.size_alloc, World.size_setCell, World.size_drew] at hz4)
  have c4_0 : ∀ o, x4.cell? ⟨w.heap.size, o, none⟩ = _ := fun o => hb4.cell (p := ⟨w.heap.size, o, none⟩) (by simp only [World.size_alloc, World.size_setCell, World.size_drew] <;> omega)
  have g4_0 : ∀ o, x4.frozen? ⟨w.heap.size, o, none⟩ = _ := fun o => hb4.frozen (p := ⟨w.heap.size, o, none⟩) (by simp only [World.size_alloc, World.size_setCell, World.size_drew] <;> omega)
  have f4_0 : w.heap.size < x4.heap.size := by omega
  have c4_1 : ∀ o, x4.cell? ⟨w.heap.size + 1, o, none⟩ = _ := fun o => hb4.cell (p := ⟨w.heap.size + 1, o, none⟩) (by simp only [World.size_alloc, World.size_setCell, World.size_drew] <;> omega)
  have g4_1 : ∀ o, x4.frozen? ⟨w.heap.size + 1, o, none⟩ = _ := fun o => hb4.frozen (p := ⟨w.heap.size + 1, o, none⟩) (by simp only [World.size_alloc, World.size_setCell, World.size_drew] <;> omega)
  have f4_1 : w.heap.size + 1 < x4.heap.size := by omega
  have c4_2 : ∀ o, x4.cell? ⟨w.heap.size + 1 + 1, o, none⟩ = _ := fun o => hb4.cell (p := ⟨w.heap.size + 1 + 1, o, none⟩) (by simp only [World.size_alloc, World.size_setCell, World.size_drew] <;> omega)
  have g4_2 : ∀ o, x4.frozen? ⟨w.heap.size + 1 + 1, o, none⟩ = _ := fun o => hb4.frozen (p := ⟨w.heap.size + 1 + 1, o, none⟩) (by simp only [World.size_alloc, World.size_setCell, World.size_drew] <;> omega)
  have f4_2 : w.heap.size + 1 + 1 < x4.heap.size := by omega
  go_wp2
  refine wp_loop_rounds 4 ?_
  repeat (any_goals (rw [rounds_succ]; go_wp2))
  refine wp_region_B (by kernel_rfl) (by kernel_rfl) ?_
  (repeat (first | (apply runS_skip (by rfl); (try simp only [Act.put, List.setIfInBounds_toArray, List.set_cons_zero, List.set_cons_succ])) | (apply runS_cons (by rfl); (· (intro w1 hS K hK; obtain ⟨q1, q2⟩ := cells_B hS; (go_simp); (first | with_reducible exact hK _ hS | exact hK _ hS | (with_reducible refine fits_k (by assumption) (fun w2 hb => ?_); exact hK _ (bel_call hS hb)) | (with_reducible refine share_k (by assumption) (fun w2 hb => ?_); exact hK _ (bel_call hS hb))))); (try simp only [Act.put, List.setIfInBounds_toArray, List.set_cons_zero, List.set_cons_succ]))))
  refine runS_nil (fun w2 hbz => ?_)
  go_wp2
  go_ret
  exact ⟨rfl, by (repeat (first | with_reducible exact Below.refl _ _ | with_reducible assumption | with_reducible refine Below.drew ?_ | with_reducible refine bl_drewN ?_ | (with_reducible refine bl_alloc ?_ ?_; · (first | omega | (simp; done) | (simp; omega))) | (with_reducible refine bl_set ?_ ?_; · (first | omega | (simp; done) | (simp; omega))) | (with_reducible refine bl_trans hbz ?_ ?_; · (first | omega | (simp; done) | (simp; omega))) | (with_reducible refine bl_trans hb4 ?_ ?_; · (first | omega | (simp; done) | (simp; omega))) | (with_reducible refine bl_trans hb3 ?_ ?_; · (first | omega | (simp; done) | (simp; omega))) | (with_reducible refine bl_trans hb2 ?_ ?_; · (first | omega | (simp; done) | (simp; omega))) | (with_reducible refine bl_trans hb1 ?_ ?_; · (first | omega | (simp; done) | (simp; omega)))))⟩

theorem resShares_any (a0 a1 a2 b0 b1 b2 d0 d1 d2 : Int) (w : World) :
    Calls Try.prog 7 #[rv a0 a1 a2, rv b0 b1 b2, rv d0 d1 d2] w fun e w' => e = .returned (.bool true) ∧ Below w.heap.size w w' := by
  have hz : ¬ (rightB a0 a1 a2 = true ∧ rightB d0 d1 d2 = true) → shareI a0 a1 a2 d0 d1 d2 = 0 := fun h => if_neg h
  cases ra : rightB a0 a1 a2 with
  | false => exact sh_a _ _ _ _ _ _ _ _ _ w ra (hz (by simp [ra]))
  | true =>
    cases rb : rightB b0 b1 b2 with
    | false =>
      cases rd : rightB d0 d1 d2 with
      | false => exact sh_b0 _ _ _ _ _ _ _ _ _ w ra rb rd (hz (by simp [rd]))
      | true => exact sh_b1 _ _ _ _ _ _ _ _ _ w ra rb rd
    | true =>
      cases rd : rightB d0 d1 d2 with
      | false => exact sh_d _ _ _ _ _ _ _ _ _ w ra rb rd (hz (by simp [rd]))
      | true =>
        have hw : shareI d0 d1 d2 d0 d1 d2 = cnt d0 + cnt d1 + cnt d2 := by unfold shareI; rw [if_pos ⟨rd, rd⟩, shr_self, shr_self, shr_self]
        have e1 : shareI a0 a1 a2 d0 d1 d2 = shr a0 d0 + shr a1 d1 + shr a2 d2 := if_pos ⟨ra, rd⟩
        have e2 : shareI b0 b1 b2 d0 d1 d2 = shr b0 d0 + shr b1 d1 + shr b2 d2 := if_pos ⟨rb, rd⟩
        obtain ⟨r1, _, r2, _, r3, _⟩ := right_out ra
        have hp : 0 ≤ shareI a0 a1 a2 d0 d1 d2 := by
          have := shr_nonneg (d := d0) r1
          have := shr_nonneg (d := d1) r2
          have := shr_nonneg (d := d2) r3
          omega
        cases hf : fitsB a0 a1 a2 b0 b1 b2 with
        | false =>
          by_cases h0 : 0 < d0 <;> by_cases h1 : 0 < d1 <;> by_cases h2 : 0 < d2
          · exact sh_f7 _ _ _ _ _ _ _ _ _ w _ _ h0 h1 h2 ra rb rd (hw.trans (by unfold cnt; rw [if_pos h0, if_pos h1, if_pos h2]; rfl)) hf rfl rfl hp
          · exact sh_f3 _ _ _ _ _ _ _ _ _ w _ _ h0 h1 (by omega) ra rb rd (hw.trans (by unfold cnt; rw [if_pos h0, if_pos h1, if_neg h2]; rfl)) hf rfl rfl hp
          · exact sh_f5 _ _ _ _ _ _ _ _ _ w _ _ h0 (by omega) h2 ra rb rd (hw.trans (by unfold cnt; rw [if_pos h0, if_neg h1, if_pos h2]; rfl)) hf rfl rfl hp
          · exact sh_f1 _ _ _ _ _ _ _ _ _ w _ _ h0 (by omega) (by omega) ra rb rd (hw.trans (by unfold cnt; rw [if_pos h0, if_neg h1, if_neg h2]; rfl)) hf rfl rfl hp
          · exact sh_f6 _ _ _ _ _ _ _ _ _ w _ _ (by omega) h1 h2 ra rb rd (hw.trans (by unfold cnt; rw [if_neg h0, if_pos h1, if_pos h2]; rfl)) hf rfl rfl hp
          · exact sh_f2 _ _ _ _ _ _ _ _ _ w _ _ (by omega) h1 (by omega) ra rb rd (hw.trans (by unfold cnt; rw [if_neg h0, if_pos h1, if_neg h2]; rfl)) hf rfl rfl hp
          · exact sh_f4 _ _ _ _ _ _ _ _ _ w _ _ (by omega) (by omega) h2 ra rb rd (hw.trans (by unfold cnt; rw [if_neg h0, if_neg h1, if_pos h2]; rfl)) hf rfl rfl hp
          · exact sh_f0 _ _ _ _ _ _ _ _ _ w _ _ (by omega) (by omega) (by omega) ra rb rd (hw.trans (by unfold cnt; rw [if_neg h0, if_neg h1, if_neg h2]; rfl)) hf rfl rfl hp
        | true =>
          have hle : shareI a0 a1 a2 d0 d1 d2 ≤ shareI b0 b1 b2 d0 d1 d2 := by
            have hf' := hf
            unfold fitsB at hf'
            rw [decide_eq_true_eq] at hf'
            have := shr_mono (d := d0) hf'.1
            have := shr_mono (d := d1) hf'.2.1
            have := shr_mono (d := d2) hf'.2.2
            omega
          by_cases h0 : 0 < d0 <;> by_cases h1 : 0 < d1 <;> by_cases h2 : 0 < d2
          · exact sh_t7 _ _ _ _ _ _ _ _ _ w _ _ h0 h1 h2 ra rb rd (hw.trans (by unfold cnt; rw [if_pos h0, if_pos h1, if_pos h2]; rfl)) hf rfl rfl hp hle
          · exact sh_t3 _ _ _ _ _ _ _ _ _ w _ _ h0 h1 (by omega) ra rb rd (hw.trans (by unfold cnt; rw [if_pos h0, if_pos h1, if_neg h2]; rfl)) hf rfl rfl hp hle
          · exact sh_t5 _ _ _ _ _ _ _ _ _ w _ _ h0 (by omega) h2 ra rb rd (hw.trans (by unfold cnt; rw [if_pos h0, if_neg h1, if_pos h2]; rfl)) hf rfl rfl hp hle
          · exact sh_t1 _ _ _ _ _ _ _ _ _ w _ _ h0 (by omega) (by omega) ra rb rd (hw.trans (by unfold cnt; rw [if_pos h0, if_neg h1, if_neg h2]; rfl)) hf rfl rfl hp hle
          · exact sh_t6 _ _ _ _ _ _ _ _ _ w _ _ (by omega) h1 h2 ra rb rd (hw.trans (by unfold cnt; rw [if_neg h0, if_pos h1, if_pos h2]; rfl)) hf rfl rfl hp hle
          · exact sh_t2 _ _ _ _ _ _ _ _ _ w _ _ (by omega) h1 (by omega) ra rb rd (hw.trans (by unfold cnt; rw [if_neg h0, if_pos h1, if_neg h2]; rfl)) hf rfl rfl hp hle
          · exact sh_t4 _ _ _ _ _ _ _ _ _ w _ _ (by omega) (by omega) h2 ra rb rd (hw.trans (by unfold cnt; rw [if_neg h0, if_neg h1, if_pos h2]; rfl)) hf rfl rfl hp hle
          · exact sh_t0 _ _ _ _ _ _ _ _ _ w _ _ (by omega) (by omega) (by omega) ra rb rd (hw.trans (by unfold cnt; rw [if_neg h0, if_neg h1, if_neg h2]; rfl)) hf rfl rfl hp hle
end Go.Proofs.Ytlbingogclfdbaa
