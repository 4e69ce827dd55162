/- ResTells, walked. No conditions. -/
import Derived.Test.YtlbingogclfdbaaK
namespace Go.Proofs.Ytlbingogclfdbaa
open Go.RowKit Go.Lw
attribute [local go_sem] lt_p2 le_p2 lt_p3 le_p3 lt_p4 le_p4 lt_p5 le_p5 lt_p6 le_p6 lt_p7 le_p7 lt_p8 le_p8 lt_p9 le_p9 lt_p10 le_p10 lt_p11 le_p11 lt_p12 le_p12 lt_p13 le_p13 lt_p14 le_p14 lt_p15 le_p15 lt_p16 le_p16 le_c0 le_c1 lt_c2 le_c2 lt_c3 le_c3 lt_c4 le_c4 lt_c5 le_c5 lt_c6 le_c6 lt_c7 le_c7 lt_c8 le_c8 lt_c9 le_c9 lt_c10 le_c10 lt_c11 le_c11 lt_c12 le_c12 lt_c13 le_c13 lt_c14 le_c14 lt_c15 le_c15 lt_c16 le_c16 cell_set uponV_value uponV_skip uponV_enter
set_option linter.unusedVariables false
set_option linter.unusedSimpArgs false

set_option maxHeartbeats 4000000 in
theorem resTells_any (a0 a1 a2 b0 b1 b2 : Int) (w : World) :
    Calls Try.prog 8 #[rv a0 a1 a2, rv b0 b1 b2] w fun e w' => e = .returned (.bool true) ∧ Below w.heap.size w w' := by
  obtain ⟨p0, p1, p2, E, hE⟩ : ∃ x y z e, addV a0 a1 a2 b0 b1 b2 1 = .tuple #[rv x y z, .int .i64 e] := ⟨_, _, _, _, rfl⟩
  obtain ⟨m0, m1, m2, F, hF⟩ : ∃ x y z e, addV a0 a1 a2 b0 b1 b2 (-1) = .tuple #[rv x y z, .int .i64 e] := ⟨_, _, _, _, rfl⟩
  obtain ⟨t1, ht1⟩ : ∃ t, rightB a0 a1 a2 = t := ⟨_, rfl⟩
  obtain ⟨t2, ht2⟩ : ∃ t, fitsB a0 a1 a2 b0 b1 b2 = t := ⟨_, rfl⟩
  obtain ⟨n, hn⟩ : ∃ t, shareI a0 a1 a2 b0 b1 b2 = t := ⟨_, rfl⟩
  have e1 := eq3 p0 p1 p2 p0 p1 p2
  have e2 := eq3 m0 m1 m2 m0 m1 m2
  simp only [beq_self_eq_true, Bool.and_self] at e1 e2
  go_enter Try.func8, Try.ntmps8
  go_wp2_with fail
  with_reducible refine awake_k (fun x1 hb1 => ?_)
  try dsimp only
  have hz1 := hb1.size; (try simp only [World.size_alloc, World.size_setCell, World.size_drew] at hz1)
  have c1_0 : ∀ o, x1.cell? ⟨w.heap.size, o, none⟩ = _ := fun o => hb1.cell (p := ⟨w.heap.size, o, none⟩) (by simp only [World.size_alloc, World.size_setCell, World.size_drew] <;> omega)
  have g1_0 : ∀ o, x1.frozen? ⟨w.heap.size, o, none⟩ = _ := fun o => hb1.frozen (p := ⟨w.heap.size, o, none⟩) (by simp only [World.size_alloc, World.size_setCell, World.size_drew] <;> omega)
  have f1_0 : w.heap.size < x1.heap.size := by omega
  have c1_1 : ∀ o, x1.cell? ⟨w.heap.size + 1, o, none⟩ = _ := fun o => hb1.cell (p := ⟨w.heap.size + 1, o, none⟩) (by simp only [World.size_alloc, World.size_setCell, World.size_drew] <;> omega)
  have g1_1 : ∀ o, x1.frozen? ⟨w.heap.size + 1, o, none⟩ = _ := fun o => hb1.frozen (p := ⟨w.heap.size + 1, o, none⟩) (by simp only [World.size_alloc, World.size_setCell, World.size_drew] <;> omega)
  have f1_1 : w.heap.size + 1 < x1.heap.size := by omega
  go_wp2_with fail
  with_reducible refine add_k (by assumption) (fun x2 hb2 => ?_)
  try dsimp only
  have hz2 := hb2.size; (try simp only [World.size_alloc, World.size_setCell, World.size_drew] at hz2)
  have c2_0 : ∀ o, x2.cell? ⟨w.heap.size, o, none⟩ = _ := fun o => hb2.cell (p := ⟨w.heap.size, o, none⟩) (by simp only [World.size_alloc, World.size_setCell, World.size_drew] <;> omega)
  have g2_0 : ∀ o, x2.frozen? ⟨w.heap.size, o, none⟩ = _ := fun o => hb2.frozen (p := ⟨w.heap.size, o, none⟩) (by simp only [World.size_alloc, World.size_setCell, World.size_drew] <;> omega)
  have f2_0 : w.heap.size < x2.heap.size := by omega
  have c2_1 : ∀ o, x2.cell? ⟨w.heap.size + 1, o, none⟩ = _ := fun o => hb2.cell (p := ⟨w.heap.size + 1, o, none⟩) (by simp only [World.size_alloc, World.size_setCell, World.size_drew] <;> omega)
  have g2_1 : ∀ o, x2.frozen? ⟨w.heap.size + 1, o, none⟩ = _ := fun o => hb2.frozen (p := ⟨w.heap.size + 1, o, none⟩) (by simp only [World.size_alloc, World.size_setCell, World.size_drew] <;> omega)
  have f2_1 : w.heap.size + 1 < x2.heap.size := by omega
  go_wp2_with fail
  with_reducible refine radd_k (by assumption) (fun x3 hb3 => ?_)
  try dsimp only
  have hz3 := hb3.size; (try simp only [World.size_alloc, World.size_setCell, World.size_drew] at hz3)
  have c3_0 : ∀ o, x3.cell? ⟨w.heap.size, o, none⟩ = _ := fun o => hb3.cell (p := ⟨w.heap.size, o, none⟩) (by simp only [World.size_alloc, World.size_setCell, World.size_drew] <;> omega)
  have g3_0 : ∀ o, x3.frozen? ⟨w.heap.size, o, none⟩ = _ := fun o => hb3.frozen (p := ⟨w.heap.size, o, none⟩) (by simp only [World.size_alloc, World.size_setCell, World.size_drew] <;> omega)
  have f3_0 : w.heap.size < x3.heap.size := by omega
  have c3_1 : ∀ o, x3.cell? ⟨w.heap.size + 1, o, none⟩ = _ := fun o => hb3.cell (p := ⟨w.heap.size + 1, o, none⟩) (by simp only [World.size_alloc, World.size_setCell, World.size_drew] <;> omega)
  have g3_1 : ∀ o, x3.frozen? ⟨w.heap.size + 1, o, none⟩ = _ := fun o => hb3.frozen (p := ⟨w.heap.size + 1, o, none⟩) (by simp only [World.size_alloc, World.size_setCell, World.size_drew] <;> omega)
  have f3_1 : w.heap.size + 1 < x3.heap.size := by omega
  have c3_2 : ∀ o, x3.cell? ⟨x2.heap.size, o, none⟩ = _ := fun o => hb3.cell (p := ⟨x2.heap.size, o, none⟩) (by simp only [World.size_alloc, World.size_setCell, World.size_drew] <;> omega)
  have g3_2 : ∀ o, x3.frozen? ⟨x2.heap.size, o, none⟩ = _ := fun o => hb3.frozen (p := ⟨x2.heap.size, o, none⟩) (by simp only [World.size_alloc, World.size_setCell, World.size_drew] <;> omega)
  have f3_2 : x2.heap.size < x3.heap.size := by omega
  go_wp2_with fail
  with_reducible refine sub_k (by assumption) (fun x4 hb4 => ?_)
  try dsimp only
  have hz4 := hb4.size; (try simp only [World.size_alloc, World.size_setCell, World.size_drew] at hz4)
  have c4_0 : ∀ o, x4.cell? ⟨w.heap.size, o, none⟩ = _ := fun o => hb4.cell (p := ⟨w.heap.size, o, none⟩) (by simp only [World.size_alloc, World.size_setCell, World.size_drew] <;> omega)
  have g4_0 : ∀ o, x4.frozen? ⟨w.heap.size, o, none⟩ = _ := fun o => hb4.frozen (p := ⟨w.heap.size, o, none⟩) (by simp only [World.size_alloc, World.size_setCell, World.size_drew] <;> omega)
  have f4_0 : w.heap.size < x4.heap.size := by omega
  have c4_1 : ∀ o, x4.cell? ⟨w.heap.size + 1, o, none⟩ = _ := fun o => hb4.cell (p := ⟨w.heap.size + 1, o, none⟩) (by simp only [World.size_alloc, World.size_setCell, World.size_drew] <;> omega)
  have g4_1 : ∀ o, x4.frozen? ⟨w.heap.size + 1, o, none⟩ = _ := fun o => hb4.frozen (p := ⟨w.heap.size + 1, o, none⟩) (by simp only [World.size_alloc, World.size_setCell, World.size_drew] <;> omega)
  have f4_1 : w.heap.size + 1 < x4.heap.size := by omega
  have c4_2 : ∀ o, x4.cell? ⟨x2.heap.size, o, none⟩ = _ := fun o => hb4.cell (p := ⟨x2.heap.size, o, none⟩) (by simp only [World.size_alloc, World.size_setCell, World.size_drew] <;> omega)
  have g4_2 : ∀ o, x4.frozen? ⟨x2.heap.size, o, none⟩ = _ := fun o => hb4.frozen (p := ⟨x2.heap.size, o, none⟩) (by simp only [World.size_alloc, World.size_setCell, World.size_drew] <;> omega)
  have f4_2 : x2.heap.size < x4.heap.size := by omega
  have c4_3 : ∀ o, x4.cell? ⟨x3.heap.size, o, none⟩ = _ := fun o => hb4.cell (p := ⟨x3.heap.size, o, none⟩) (by simp only [World.size_alloc, World.size_setCell, World.size_drew] <;> omega)
  have g4_3 : ∀ o, x4.frozen? ⟨x3.heap.size, o, none⟩ = _ := fun o => hb4.frozen (p := ⟨x3.heap.size, o, none⟩) (by simp only [World.size_alloc, World.size_setCell, World.size_drew] <;> omega)
  have f4_3 : x3.heap.size < x4.heap.size := by omega
  go_wp2_with fail
  with_reducible refine rsub_k (by assumption) (fun x5 hb5 => ?_)
  try dsimp only
  have hz5 := hb5.size; (try simp only [World.size_alloc, World.size_setCell, World.size_drew] at hz5)
  have c5_0 : ∀ o, x5.cell? ⟨w.heap.size, o, none⟩ = _ := fun o => hb5.cell (p := ⟨w.heap.size, o, none⟩) (by simp only [World.size_alloc, World.size_setCell, World.size_drew] <;> omega)
  have g5_0 : ∀ o, x5.frozen? ⟨w.heap.size, o, none⟩ = _ := fun o => hb5.frozen (p := ⟨w.heap.size, o, none⟩) (by simp only [World.size_alloc, World.size_setCell, World.size_drew] <;> omega)
  have f5_0 : w.heap.size < x5.heap.size := by omega
  have c5_1 : ∀ o, x5.cell? ⟨w.heap.size + 1, o, none⟩ = _ := fun o => hb5.cell (p := ⟨w.heap.size + 1, o, none⟩) (by simp only [World.size_alloc, World.size_setCell, World.size_drew] <;> omega)
  have g5_1 : ∀ o, x5.frozen? ⟨w.heap.size + 1, o, none⟩ = _ := fun o => hb5.frozen (p := ⟨w.heap.size + 1, o, none⟩) (by simp only [World.size_alloc, World.size_setCell, World.size_drew] <;> omega)
  have f5_1 : w.heap.size + 1 < x5.heap.size := by omega
  have c5_2 : ∀ o, x5.cell? ⟨x2.heap.size, o, none⟩ = _ := fun o => hb5.cell (p := ⟨x2.heap.size, o, none⟩) (by simp only [World.size_alloc, World.size_setCell, World.size_drew] <;> omega)
  have g5_2 : ∀ o, x5.frozen? ⟨x2.heap.size, o, none⟩ = _ := fun o => hb5.frozen (p := ⟨x2.heap.size, o, none⟩) (by simp only [World.size_alloc, World.size_setCell, World.size_drew] <;> omega)
  have f5_2 : x2.heap.size < x5.heap.size := by omega
  have c5_3 : ∀ o, x5.cell? ⟨x3.heap.size, o, none⟩ = _ := fun o => hb5.cell (p := ⟨x3.heap.size, o, none⟩) (by simp only [World.size_alloc, World.size_setCell, World.size_drew] <;> omega)
  have g5_3 : ∀ o, x5.frozen? ⟨x3.heap.size, o, none⟩ = _ := fun o => hb5.frozen (p := ⟨x3.heap.size, o, none⟩) (by simp only [World.size_alloc, World.size_setCell, World.size_drew] <;> omega)
  have f5_3 : x3.heap.size < x5.heap.size := by omega
  have c5_4 : ∀ o, x5.cell? ⟨x4.heap.size, o, none⟩ = _ := fun o => hb5.cell (p := ⟨x4.heap.size, o, none⟩) (by simp only [World.size_alloc, World.size_setCell, World.size_drew] <;> omega)
  have g5_4 : ∀ o, x5.frozen? ⟨x4.heap.size, o, none⟩ = _ := fun o => hb5.frozen (p := ⟨x4.heap.size, o, none⟩) (by simp only [World.size_alloc, World.size_setCell, World.size_drew] <;> omega)
  have f5_4 : x4.heap.size < x5.heap.size := by omega
  go_wp2_with fail
  refine wp_region_B (by kernel_rfl) (by kernel_rfl) ?_
  (repeat (first | (apply runS_skip (by rfl); (try simp only [Act.put, List.setIfInBounds_toArray, List.set_cons_zero, List.set_cons_succ])) | (apply runS_cons (by rfl); (· (intro w1 hS K hK; obtain ⟨q1, q2⟩ := cells_B hS; (go_simp); (first | with_reducible exact hK _ hS | exact hK _ hS | (with_reducible refine right_k (by assumption) (fun w2 hb => ?_); exact hK _ (bel_call hS hb)) | (with_reducible refine rright_k (by assumption) (fun w2 hb => ?_); exact hK _ (bel_call hS hb)) | (with_reducible refine fits_k (by assumption) (fun w2 hb => ?_); exact hK _ (bel_call hS hb)) | (with_reducible refine rfits_k (by assumption) (fun w2 hb => ?_); exact hK _ (bel_call hS hb)) | (with_reducible refine share_k (by assumption) (fun w2 hb => ?_); exact hK _ (bel_call hS hb)) | (with_reducible refine rshare_k (by assumption) (fun w2 hb => ?_); exact hK _ (bel_call hS hb))))); (try simp only [Act.put, List.setIfInBounds_toArray, List.set_cons_zero, List.set_cons_succ]))))
  refine runS_nil (fun w2 hbz => ?_)
  go_wp2
  go_ret
  exact ⟨rfl, by (repeat (first | with_reducible exact Below.refl _ _ | with_reducible assumption | with_reducible refine Below.drew ?_ | with_reducible refine bl_drewN ?_ | (with_reducible refine bl_alloc ?_ ?_; · (first | omega | (simp; done) | (simp; omega))) | (with_reducible refine bl_set ?_ ?_; · (first | omega | (simp; done) | (simp; omega))) | (with_reducible refine bl_trans hbz ?_ ?_; · (first | omega | (simp; done) | (simp; omega))) | (with_reducible refine bl_trans hb5 ?_ ?_; · (first | omega | (simp; done) | (simp; omega))) | (with_reducible refine bl_trans hb4 ?_ ?_; · (first | omega | (simp; done) | (simp; omega))) | (with_reducible refine bl_trans hb3 ?_ ?_; · (first | omega | (simp; done) | (simp; omega))) | (with_reducible refine bl_trans hb2 ?_ ?_; · (first | omega | (simp; done) | (simp; omega))) | (with_reducible refine bl_trans hb1 ?_ ?_; · (first | omega | (simp; done) | (simp; omega)))))⟩
end Go.Proofs.Ytlbingogclfdbaa
