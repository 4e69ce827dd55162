/- The laws' own first call. No conditions. -/
import Derived.Test.YtlbingogclfdbaaSums
import Derived.Test.YtlbingogclfdbaaReg
namespace Go.Proofs.Ytlbingogclfdbaa
open Go.RowKit Go.Lw
attribute [local go_sem] lt_p2 le_p2 lt_p3 le_p3 lt_p4 le_p4 lt_p5 le_p5 lt_p6 le_p6 lt_p7 le_p7 lt_p8 le_p8 lt_p9 le_p9 lt_p10 le_p10 lt_p11 le_p11 lt_p12 le_p12 lt_p13 le_p13 lt_p14 le_p14 lt_p15 le_p15 lt_p16 le_p16 le_c0 le_c1 lt_c2 le_c2 lt_c3 le_c3 lt_c4 le_c4 lt_c5 le_c5 lt_c6 le_c6 lt_c7 le_c7 lt_c8 le_c8 lt_c9 le_c9 lt_c10 le_c10 lt_c11 le_c11 lt_c12 le_c12 lt_c13 le_c13 lt_c14 le_c14 lt_c15 le_c15 lt_c16 le_c16 cell_set uponV_value uponV_skip uponV_enter
set_option linter.unusedVariables false
set_option linter.unusedSimpArgs false

theorem part3_0 (a b c : Int) (w : World) : (part 3 #[.int .i64 a, .int .i64 b, .int .i64 c] (0 * 1)).run Try.prog w = .ok (.int .i64 a) w := by kernel_rfl
theorem part3_1 (a b c : Int) (w : World) : (part 3 #[.int .i64 a, .int .i64 b, .int .i64 c] (1 * 1)).run Try.prog w = .ok (.int .i64 b) w := by kernel_rfl
theorem part3_2 (a b c : Int) (w : World) : (part 3 #[.int .i64 a, .int .i64 b, .int .i64 c] (2 * 1)).run Try.prog w = .ok (.int .i64 c) w := by kernel_rfl
theorem size3 (w : World) : (sizeOf 3).run Try.prog w = .ok 1 w := by kernel_rfl
theorem eqi (a b : Int) (w : World) (d : Nat) : (Op.equalIn (d + 1) 3 (.int .i64 a) (.int .i64 b)).run Try.prog w = .ok (a == b) w := by
  simp [Op.equalIn, go_sem, run_underlying Try.underlying3]
theorem eq3 (a0 a1 a2 b0 b1 b2 : Int) (w : World) : (Op.equalIn 10000 23 (.agg #[.int .i64 a0, .int .i64 a1, .int .i64 a2]) (.agg #[.int .i64 b0, .int .i64 b1, .int .i64 b2])).run Try.prog w = .ok (a0 == b0 && a1 == b1 && a2 == b2) w := by
  show (Op.equalIn (9998 + 1 + 1) _ _ _).run Try.prog w = _
  unfold Op.equalIn
  simp only [Sem.run_bind, run_underlying Try.underlying23, Result.andThen_ok, size3]
  rw [Std.Legacy.Range.forIn_eq_forIn_range']
  simp only [Std.Legacy.Range.size, Nat.sub_zero, Nat.add_sub_cancel, Nat.div_one, List.range', List.forIn_cons, List.forIn_nil, Sem.run_bind, Result.andThen_ok, part3_0, part3_1, part3_2, eqi]
  cases h0 : (a0 == b0) <;> cases h1 : (a1 == b1) <;> cases h2 : (a2 == b2) <;> simp [go_sem, part3_0, part3_1, part3_2, eqi, h0, h1, h2]
set_option maxHeartbeats 1000000 in
theorem awake_any (w : World) :
    Calls Try.prog 9 #[] w fun e w' => e = .returned (.bool true) ∧ Below w.heap.size w w' := by
  have e1 : addV 1 2 3 1 0 0 1 = .tuple #[rv 2 2 3, .int .i64 0] := by rw [addV_0 (by decide) (by decide) (by decide)]; rfl
  have e2 : fitsB 0 0 0 2 2 3 = true := by decide
  have eq3' := eq3 2 2 3 2 2 3
  go_enter Try.func9, Try.ntmps9
  go_wp2_with fail
  refine (add_any 1 2 3 1 0 0 _).mono ?_
  rw [e1]
  rintro e w' ⟨rfl, hb⟩
  have hz := hb.size
  go_wp2_with (first | (go_at_call 10; refine (fits_any _ _ _ _ _ _ _).mono ?_; rintro e w' ⟨rfl, rfl⟩))
  go_ret
  exact ⟨ret_bool (by first | rfl | decide), by (repeat (first | with_reducible exact Below.refl _ _ | with_reducible assumption | with_reducible refine Below.drew ?_ | with_reducible refine bl_drewN ?_ | (with_reducible refine bl_alloc ?_ ?_; · (first | omega | (simp; done) | (simp; omega))) | (with_reducible refine bl_set ?_ ?_; · (first | omega | (simp; done) | (simp; omega))) | (with_reducible refine bl_trans hb ?_ ?_; · (first | omega | (simp; done) | (simp; omega)))))⟩

theorem fitsB_refl (a b c : Int) : fitsB a b c a b c = true := by simp [fitsB]
theorem fitsB_iff {a0 a1 a2 b0 b1 b2 : Int} {t : Bool} (h : fitsB a0 a1 a2 b0 b1 b2 = t) : (t = true ↔ (a0 ≤ b0 ∧ a1 ≤ b1 ∧ a2 ≤ b2)) := by subst h; simp [fitsB]
theorem fits_is (a0 a1 a2 b0 b1 b2 : Int) (w : World) {t : Bool} (h : fitsB a0 a1 a2 b0 b1 b2 = t) :
    Calls Try.prog 10 #[rv a0 a1 a2, rv b0 b1 b2] w fun e w' => e = .returned (.bool t) ∧ (w.alloc (.cells #[.int .i64 a0, .int .i64 a1, .int .i64 a2] 23)).alloc (.cells #[.int .i64 b0, .int .i64 b1, .int .i64 b2] 23) = w' := by subst h; exact fits_any a0 a1 a2 b0 b1 b2 w
theorem fits_x {a0 a1 a2 b0 b1 b2 : Int} {w : World} {t : Bool} {R : Ending → World → Prop} (h : fitsB a0 a1 a2 b0 b1 b2 = t) (hR : R (.returned (.bool t)) ((w.alloc (.cells #[.int .i64 a0, .int .i64 a1, .int .i64 a2] 23)).alloc (.cells #[.int .i64 b0, .int .i64 b1, .int .i64 b2] 23))) :
    Calls Try.prog 10 #[rv a0 a1 a2, rv b0 b1 b2] w R := (fits_is a0 a1 a2 b0 b1 b2 w h).mono fun e w' ⟨he, hw⟩ => he ▸ hw ▸ hR
theorem fits_k {a0 a1 a2 b0 b1 b2 : Int} {w : World} {t : Bool} {R : Ending → World → Prop} (h : fitsB a0 a1 a2 b0 b1 b2 = t) (hR : ∀ w', Below w.heap.size w w' → R (.returned (.bool t)) w') :
    Calls Try.prog 10 #[rv a0 a1 a2, rv b0 b1 b2] w R := (fits_is a0 a1 a2 b0 b1 b2 w h).mono fun e w' ⟨he, hw⟩ => he ▸ hR w' (hw ▸ below2 _ _ _)
set_option maxHeartbeats 4000000 in
theorem resFits_any (a0 a1 a2 b0 b1 b2 c0 c1 c2 : Int) (w : World) :
    Calls Try.prog 3 #[rv a0 a1 a2, rv b0 b1 b2, rv c0 c1 c2] w fun e w' => e = .returned (.bool true) ∧ Below w.heap.size w w' := by
  have eqab := eq3 a0 a1 a2 b0 b1 b2
  have faa := fitsB_refl a0 a1 a2
  cases fab : fitsB a0 a1 a2 b0 b1 b2 <;> cases fbc : fitsB b0 b1 b2 c0 c1 c2 <;> cases fac : fitsB a0 a1 a2 c0 c1 c2 <;> cases fba : fitsB b0 b1 b2 a0 a1 a2 <;> cases qab : (a0 == b0 && a1 == b1 && a2 == b2)
  all_goals (have x1 := fitsB_iff fab; have x2 := fitsB_iff fbc; have x3 := fitsB_iff fac; have x4 := fitsB_iff fba; have x5 : (a0 = b0 ∧ a1 = b1 ∧ a2 = b2) ↔ (a0 == b0 && a1 == b1 && a2 == b2) = true := by simp [and_assoc])
  all_goals rw [qab] at x5
  all_goals (try (exfalso; simp at x1 x2 x3 x4 x5; omega))
  all_goals clear x1 x2 x3 x4 x5
  all_goals rw [qab] at eqab
  all_goals
    unfold rv
    go_enter Try.func3, Try.ntmps3
    go_wp2_with (first | (go_at_call 9; refine (awake_any _).mono ?_; rintro e w' ⟨rfl, hb⟩; have hz := hb.size; simp only [World.size_alloc, World.size_setCell, World.size_drew] at hz; have c0 : ∀ o, w'.cell? ⟨w.heap.size, o, none⟩ = _ := fun o => hb.cell (p := ⟨w.heap.size, o, none⟩) (by simp only [World.size_alloc, World.size_setCell, World.size_drew] <;> omega); have g0 : ∀ o, w'.frozen? ⟨w.heap.size, o, none⟩ = _ := fun o => hb.frozen (p := ⟨w.heap.size, o, none⟩) (by simp only [World.size_alloc, World.size_setCell, World.size_drew] <;> omega); have f0 : w.heap.size < w'.heap.size := (by omega); have c1 : ∀ o, w'.cell? ⟨w.heap.size + 1, o, none⟩ = _ := fun o => hb.cell (p := ⟨w.heap.size + 1, o, none⟩) (by simp only [World.size_alloc, World.size_setCell, World.size_drew] <;> omega); have g1 : ∀ o, w'.frozen? ⟨w.heap.size + 1, o, none⟩ = _ := fun o => hb.frozen (p := ⟨w.heap.size + 1, o, none⟩) (by simp only [World.size_alloc, World.size_setCell, World.size_drew] <;> omega); have f1 : w.heap.size + 1 < w'.heap.size := (by omega); have c2 : ∀ o, w'.cell? ⟨w.heap.size + 1 + 1, o, none⟩ = _ := fun o => hb.cell (p := ⟨w.heap.size + 1 + 1, o, none⟩) (by simp only [World.size_alloc, World.size_setCell, World.size_drew] <;> omega); have g2 : ∀ o, w'.frozen? ⟨w.heap.size + 1 + 1, o, none⟩ = _ := fun o => hb.frozen (p := ⟨w.heap.size + 1 + 1, o, none⟩) (by simp only [World.size_alloc, World.size_setCell, World.size_drew] <;> omega); have f2 : w.heap.size + 1 + 1 < w'.heap.size := (by omega)) | (go_at_call 10; refine fits_x (by assumption) ?_; try dsimp only))
  all_goals
    refine wp_region_B (by kernel_rfl) (by kernel_rfl) ?_
    (repeat (first | (apply runS_skip (by rfl); (try simp only [Act.put, List.setIfInBounds_toArray, List.set_cons_zero, List.set_cons_succ])) | (apply runS_cons (by rfl); (· (intro w1 hS K hK; obtain ⟨q1, q2⟩ := cells_B hS; (go_simp); (first | exact hK _ hS | (with_reducible refine fits_k (by assumption) (fun w2 hb => ?_); exact hK _ (bel_call hS hb))))); (try simp only [Act.put, List.setIfInBounds_toArray, List.set_cons_zero, List.set_cons_succ]))))
    refine runS_nil (fun w2 hb2 => ?_)
    go_wp2
    go_ret
    exact ⟨rfl, by (repeat (first | with_reducible exact Below.refl _ _ | with_reducible assumption | with_reducible refine Below.drew ?_ | with_reducible refine bl_drewN ?_ | (with_reducible refine bl_alloc ?_ ?_; · (first | omega | (simp; done) | (simp; omega))) | (with_reducible refine bl_set ?_ ?_; · (first | omega | (simp; done) | (simp; omega))) | (with_reducible refine bl_trans hb2 ?_ ?_; · (first | omega | (simp; done) | (simp; omega))) | (with_reducible refine bl_trans hb ?_ ?_; · (first | omega | (simp; done) | (simp; omega)))))⟩

end Go.Proofs.Ytlbingogclfdbaa
