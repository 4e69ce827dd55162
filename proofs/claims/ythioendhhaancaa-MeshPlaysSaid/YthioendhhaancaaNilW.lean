/- MeshNil, walked. No conditions. -/
import Derived.Test.YthioendhhaancaaAwake
namespace Go.Proofs.Ythioendhhaancaa
open Go.RowKit Go.Lw
attribute [local go_sem] lt_p2 le_p2 lt_p3 le_p3 lt_p4 le_p4 lt_p5 le_p5 lt_p6 le_p6 lt_p7 le_p7 lt_p8 le_p8 lt_p9 le_p9 lt_p10 le_p10 lt_p11 le_p11 lt_p12 le_p12 lt_p13 le_p13 lt_p14 le_p14 lt_p15 le_p15 lt_p16 le_p16 le_c0 le_c1 lt_c2 le_c2 lt_c3 le_c3 lt_c4 le_c4 lt_c5 le_c5 lt_c6 le_c6 lt_c7 le_c7 lt_c8 le_c8 lt_c9 le_c9 lt_c10 le_c10 lt_c11 le_c11 lt_c12 le_c12 lt_c13 le_c13 lt_c14 le_c14 lt_c15 le_c15 lt_c16 le_c16 cell_set uponV_value uponV_skip uponV_enter
set_option linter.unusedVariables false
set_option linter.unusedSimpArgs false

theorem below_chg {w w' : World} (h : Chg (fun _ => False) w w') : Below w.heap.size w w' := ⟨h.os, h.tape, h.output, h.size, fun k hk => h.block k hk (fun h => h)⟩
theorem there_e (g : Nat) (v : Value) (room : Int) (w : World) (i : Int) (h : MI 50 w g v room []) :
    Calls Try.prog 24 #[.pointer (some ⟨g, 0, none⟩), .int .i64 i] w fun e w' => e = .returned (.bool false) ∧ w = w' :=
  there_f g v room [] w i h (by simp) (by simp; omega)
theorem take_e (g : Nat) (v : Value) (room : Int) (w : World) (i : Int) (h : MI 50 w g v room []) :
    Calls Try.prog 12 #[.pointer (some ⟨g, 0, none⟩), .int .i64 i] w fun e w' => e = .returned (.tuple #[.int .i64 0, .bool false]) ∧ w = w' := by
  go_enter Try.func12, Try.ntmps12
  go_wp2_with (first | (go_at_call 24; refine (there_e _ _ _ _ _ h).mono ?_; rintro e w' ⟨rfl, rfl⟩))
  go_ret2
  exact ⟨rfl, rfl⟩
theorem double_e (g : Nat) (v : Value) (room : Int) (w : World) (i : Int) (h : MI 50 w g v room []) :
    Calls Try.prog 14 #[.pointer (some ⟨g, 0, none⟩), .int .i64 i] w fun e w' => e = .returned (.bool false) ∧ w = w' := by
  go_enter Try.func14, Try.ntmps14
  go_wp2_with (first | (go_at_call 24; refine (there_e _ _ _ _ _ h).mono ?_; rintro e w' ⟨rfl, rfl⟩))
  go_ret
  exact ⟨rfl, rfl⟩
theorem base0 {w : World} {base n : Nat} {v : Value} {cs : List Value} (h : w.ownsRow base 3 1 v n cs) : w.ownsRow 0 3 1 v n cs := by
  obtain ⟨h1, h2⟩ := h
  exact ⟨h1, h2.imp id fun ⟨g, cap, cur, hv, _, r⟩ => ⟨g, cap, cur, hv, Nat.zero_le _, r⟩⟩
set_option maxHeartbeats 4000000 in
theorem meshNil_nil (kind i : Int) (w : World) : Calls Try.prog 6 #[.agg #[.int .i64 kind, .int .i64 i], .bool false] w fun e w' => e = .returned (.bool true) ∧ Below w.heap.size w w' := by
  go_enter Try.func6, Try.ntmps6
  go_wp2_with fail
  refine (awake_any _).mono ?_
  rintro e x1 ⟨rfl, hb1⟩
  have hz_1 := hb1.size; (try simp only [World.size_alloc, World.size_setCell, World.size_drew] at hz_1); have c0_1 : ∀ o, x1.cell? ⟨w.heap.size, o, none⟩ = _ := fun o => hb1.cell (p := ⟨w.heap.size, o, none⟩) (by simp only [World.size_alloc, World.size_setCell, World.size_drew] <;> omega); have g0_1 : ∀ o, x1.frozen? ⟨w.heap.size, o, none⟩ = _ := fun o => hb1.frozen (p := ⟨w.heap.size, o, none⟩) (by simp only [World.size_alloc, World.size_setCell, World.size_drew] <;> omega); have f0_1 : w.heap.size < x1.heap.size := (by omega)
  go_wp2_with fail
  refine (take_no none _ _ (fun w => there_nil w _)).mono ?_
  rintro e w' ⟨rfl, rfl⟩
  go_wp2_with fail
  refine (send_nil _ _).mono ?_
  rintro e x2 ⟨rfl, hch2⟩
  have hb2 := below_chg hch2
  have hz_2 := hb2.size; (try simp only [World.size_alloc, World.size_setCell, World.size_drew] at hz_2); have c0_2 : ∀ o, x2.cell? ⟨w.heap.size, o, none⟩ = _ := fun o => hb2.cell (p := ⟨w.heap.size, o, none⟩) (by simp only [World.size_alloc, World.size_setCell, World.size_drew] <;> omega); have g0_2 : ∀ o, x2.frozen? ⟨w.heap.size, o, none⟩ = _ := fun o => hb2.frozen (p := ⟨w.heap.size, o, none⟩) (by simp only [World.size_alloc, World.size_setCell, World.size_drew] <;> omega); have f0_2 : w.heap.size < x2.heap.size := (by omega)
  go_wp2_with fail
  refine (double_no none _ _ (fun w => there_nil w _)).mono ?_
  rintro e w' ⟨rfl, rfl⟩
  go_wp2_with fail
  refine (all_nil _).mono ?_
  rintro e x3 ⟨v', rfl, ho, hb3⟩
  obtain ⟨a, cap, rfl, _, _⟩ := own_form (base0 ho)
  go_wp2_with fail
  refine (len_nil _).mono ?_
  rintro e w' ⟨rfl, rfl⟩
  go_wp2
  go_ret
  exact ⟨rfl, by (repeat (first | with_reducible exact Below.refl _ _ | with_reducible assumption | with_reducible refine Below.drew ?_ | with_reducible refine bl_drewN ?_ | (with_reducible refine bl_alloc ?_ ?_; · (first | omega | (simp; done) | (simp; omega))) | (with_reducible refine bl_set ?_ ?_; · (first | omega | (simp; done) | (simp; omega))) | (with_reducible refine bl_trans hb3 ?_ ?_; · (first | omega | (simp; done) | (simp; omega))) | (with_reducible refine bl_trans hb2 ?_ ?_; · (first | omega | (simp; done) | (simp; omega))) | (with_reducible refine bl_trans hb1 ?_ ?_; · (first | omega | (simp; done) | (simp; omega)))))⟩
set_option maxHeartbeats 4000000 in
theorem meshNil_zero (kind i : Int) (w : World) : Calls Try.prog 6 #[.agg #[.int .i64 kind, .int .i64 i], .bool true] w fun e w' => e = .returned (.bool true) ∧ Below w.heap.size w w' := by
  go_enter Try.func6, Try.ntmps6
  go_wp2_with fail
  refine (awake_any _).mono ?_
  rintro e x1 ⟨rfl, hb1⟩
  have hz_1 := hb1.size; (try simp only [World.size_alloc, World.size_setCell, World.size_drew] at hz_1); have c0_1 : ∀ o, x1.cell? ⟨w.heap.size, o, none⟩ = _ := fun o => hb1.cell (p := ⟨w.heap.size, o, none⟩) (by simp only [World.size_alloc, World.size_setCell, World.size_drew] <;> omega); have g0_1 : ∀ o, x1.frozen? ⟨w.heap.size, o, none⟩ = _ := fun o => hb1.frozen (p := ⟨w.heap.size, o, none⟩) (by simp only [World.size_alloc, World.size_setCell, World.size_drew] <;> omega); have f0_1 : w.heap.size < x1.heap.size := (by omega)
  have m1 := new_MI 0 x1
  go_wp2_with fail
  refine (take_e _ _ _ _ _ m1).mono ?_
  rintro e w' ⟨rfl, rfl⟩
  go_wp2_with fail
  refine (send_no _ _ _ _ _ _ m1 (by simp) (by simp)).mono ?_
  rintro e x2 ⟨rfl, hch2⟩
  have hb2 := below_chg hch2
  have m2 := m1.chg hch2 (fun h => h) (fun _ _ h => h)
  have hz_2 := hb2.size; (try simp only [World.size_alloc, World.size_setCell, World.size_drew] at hz_2); have c0_2 : ∀ o, x2.cell? ⟨w.heap.size, o, none⟩ = _ := fun o => hb2.cell (p := ⟨w.heap.size, o, none⟩) (by simp only [World.size_alloc, World.size_setCell, World.size_drew] <;> omega); have g0_2 : ∀ o, x2.frozen? ⟨w.heap.size, o, none⟩ = _ := fun o => hb2.frozen (p := ⟨w.heap.size, o, none⟩) (by simp only [World.size_alloc, World.size_setCell, World.size_drew] <;> omega); have f0_2 : w.heap.size < x2.heap.size := (by omega)
  go_wp2_with fail
  refine (double_e _ _ _ _ _ m2).mono ?_
  rintro e w' ⟨rfl, rfl⟩
  go_wp2_with fail
  refine (all_any _ _ _ _ _ m2 (by simp)).mono ?_
  rintro e x3 ⟨v', rfl, ho, hb3⟩
  obtain ⟨a, cap, rfl, _, _⟩ := own_form (base0 ho)
  have m3 := m2.chg (Chg.below (F := fun _ => False) hb3) (fun h => h) (fun _ _ h => h)
  go_wp2_with fail
  refine (len_any _ _ _ _ _ m3 (by simp)).mono ?_
  rintro e w' ⟨rfl, rfl⟩
  go_wp2
  go_ret
  exact ⟨rfl, by (repeat (first | with_reducible exact Below.refl _ _ | with_reducible assumption | with_reducible refine Below.drew ?_ | with_reducible refine bl_drewN ?_ | (with_reducible refine bl_alloc ?_ ?_; · (first | omega | (simp; done) | (simp; omega))) | (with_reducible refine bl_set ?_ ?_; · (first | omega | (simp; done) | (simp; omega))) | (with_reducible refine bl_trans hb3 ?_ ?_; · (first | omega | (simp; done) | (simp; omega))) | (with_reducible refine bl_trans hb2 ?_ ?_; · (first | omega | (simp; done) | (simp; omega))) | (with_reducible refine bl_trans hb1 ?_ ?_; · (first | omega | (simp; done) | (simp; omega)))))⟩
end Go.Proofs.Ythioendhhaancaa
