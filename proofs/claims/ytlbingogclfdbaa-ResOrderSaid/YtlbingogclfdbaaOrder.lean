/- ResOrder, walked. No conditions. -/
import Derived.Test.YtlbingogclfdbaaSumsW
namespace Go.Proofs.Ytlbingogclfdbaa
open Go.RowKit Go.Lw
attribute [local go_sem] lt_p2 le_p2 lt_p3 le_p3 lt_p4 le_p4 lt_p5 le_p5 lt_p6 le_p6 lt_p7 le_p7 lt_p8 le_p8 lt_p9 le_p9 lt_p10 le_p10 lt_p11 le_p11 lt_p12 le_p12 lt_p13 le_p13 lt_p14 le_p14 lt_p15 le_p15 lt_p16 le_p16 le_c0 le_c1 lt_c2 le_c2 lt_c3 le_c3 lt_c4 le_c4 lt_c5 le_c5 lt_c6 le_c6 lt_c7 le_c7 lt_c8 le_c8 lt_c9 le_c9 lt_c10 le_c10 lt_c11 le_c11 lt_c12 le_c12 lt_c13 le_c13 lt_c14 le_c14 lt_c15 le_c15 lt_c16 le_c16 cell_set uponV_value uponV_skip uponV_enter
set_option linter.unusedVariables false
set_option linter.unusedSimpArgs false

theorem addE_ok {a0 a1 a2 b0 b1 b2 s : Int} (h : addE a0 a1 a2 b0 b1 b2 s = 0) : rightB a0 a1 a2 = true ∧ rightB b0 b1 b2 = true ∧ rightB (a0 + s * b0) (a1 + s * b1) (a2 + s * b2) = true := by
  unfold addE at h
  by_cases h1 : rightB a0 a1 a2 = true ∧ rightB b0 b1 b2 = true
  · rw [if_pos h1] at h
    by_cases h2 : rightB (a0 + s * b0) (a1 + s * b1) (a2 + s * b2) = true
    · exact ⟨h1.1, h1.2, h2⟩
    · rw [if_neg h2] at h; omega
  · rw [if_neg h1] at h; omega
theorem sumS_ok : ∀ (l : List R3) (acc : R3), (sumS acc l).2 = 0 → ∀ x ∈ l, x.ok = true
  | [], _, _, x, hx => by cases hx
  | y :: l, acc, h, x, hx => by
    unfold sumS at h
    by_cases he : acc.e y = 0
    · rw [if_pos he] at h
      rcases List.mem_cons.1 hx with rfl | hx
      · exact (addE_ok he).2.1
      · exact sumS_ok l _ h x hx
    · rw [if_neg he] at h; exact (he h).elim
theorem right_mk' {a b c : Int} (h : 0 ≤ a ∧ a ≤ 1048576 ∧ 0 ≤ b ∧ b ≤ 1048576 ∧ 0 ≤ c ∧ c ≤ 1048576) : rightB a b c = true := by unfold rightB; simpa using h
theorem addE_val {a0 a1 a2 b0 b1 b2 : Int} (h : rightB a0 a1 a2 = true) (h1 : rightB b0 b1 b2 = true) : addE a0 a1 a2 b0 b1 b2 1 = if rightB (a0 + b0) (a1 + b1) (a2 + b2) = true then 0 else 6 := by
  unfold addE; rw [if_pos ⟨h, h1⟩]; simp
theorem sum3_ok {a b c : R3} (ha : a.ok = true) (hb : b.ok = true) (hc : c.ok = true) (ht : rightB (a.a + b.a + c.a) (a.b + b.b + c.b) (a.c + b.c + c.c) = true) :
    sumS ⟨0, 0, 0⟩ [a, b, c] = (⟨a.a + b.a + c.a, a.b + b.b + c.b, a.c + b.c + c.c⟩, 0) := by
  have ra := right_out ha
  have rb := right_out hb
  have rc := right_out hc
  have rt := right_out ht
  have e1 : (⟨0, 0, 0⟩ : R3).e a = 0 := by unfold R3.e; rw [addE_val (by decide) ha, if_pos]; simpa using (show rightB a.a a.b a.c = true from ha)
  have a1 : (⟨0, 0, 0⟩ : R3).add a = a := by simp [R3.add]
  have e2 : a.e b = 0 := by unfold R3.e; rw [addE_val ha hb, if_pos]; exact right_mk' (by omega)
  have e3 : (a.add b).e c = 0 := by unfold R3.e; rw [addE_val (right_mk' (by simp only [R3.add]; omega)) hc, if_pos]; exact ht
  unfold sumS; rw [if_pos e1, a1]; unfold sumS; rw [if_pos e2]; unfold sumS; rw [if_pos e3]; rfl
theorem sum3_over {a b c : R3} (ha : a.ok = true) (hb : b.ok = true) (hc : c.ok = true) (ht : rightB (a.a + b.a + c.a) (a.b + b.b + c.b) (a.c + b.c + c.c) = false) :
    sumS ⟨0, 0, 0⟩ [a, b, c] = (⟨0, 0, 0⟩, 6) := by
  have e1 : (⟨0, 0, 0⟩ : R3).e a = 0 := by unfold R3.e; rw [addE_val (by decide) ha, if_pos]; simpa using (show rightB a.a a.b a.c = true from ha)
  have a1 : (⟨0, 0, 0⟩ : R3).add a = a := by simp [R3.add]
  unfold sumS; rw [if_pos e1, a1]; unfold sumS
  cases hab : rightB (a.a + b.a) (a.b + b.b) (a.c + b.c) with
  | false =>
    have e2 : a.e b = 6 := by unfold R3.e; rw [addE_val ha hb, if_neg (by simp [hab])]
    rw [if_neg (by omega), e2]
  | true =>
    have e2 : a.e b = 0 := by unfold R3.e; rw [addE_val ha hb, if_pos hab]
    have e3 : (a.add b).e c = 6 := by unfold R3.e; rw [addE_val (show rightB (a.add b).a (a.add b).b (a.add b).c = true from hab) hc, if_neg (by simp only [R3.add]; simp [ht])]
    rw [if_pos e2]; unfold sumS; rw [if_neg (by omega), e3]
theorem lies3 (w : World) (x y z : R3) : Lies (w.alloc (.cells #[.int .i64 x.a, .int .i64 x.b, .int .i64 x.c, .int .i64 y.a, .int .i64 y.b, .int .i64 y.c, .int .i64 z.a, .int .i64 z.b, .int .i64 z.c] 23)) w.heap.size 0 [x, y, z] := by
  intro i u hu
  match i, hu with
  | 0, hu => simp at hu; subst hu; simp [go_sem]
  | 1, hu => simp at hu; subst hu; simp [go_sem]
  | 2, hu => simp at hu; subst hu; simp [go_sem]
  | i + 3, hu => simp at hu
theorem sum3_k {a0 a1 a2 b0 b1 b2 d0 d1 d2 : Int} {w : World} {R : Ending → World → Prop} {x y z e : Int} {n : Nat} (hn : n = w.heap.size)
    (h : Hid ((Value.tuple #[(sumS ⟨0, 0, 0⟩ [⟨a0, a1, a2⟩, ⟨b0, b1, b2⟩, ⟨d0, d1, d2⟩]).1.val, .int .i64 (sumS ⟨0, 0, 0⟩ [⟨a0, a1, a2⟩, ⟨b0, b1, b2⟩, ⟨d0, d1, d2⟩]).2]) = .tuple #[rv x y z, .int .i64 e]))
    (hR : ∀ w', Below (w.alloc (.cells #[.int .i64 a0, .int .i64 a1, .int .i64 a2, .int .i64 b0, .int .i64 b1, .int .i64 b2, .int .i64 d0, .int .i64 d1, .int .i64 d2] 23)).heap.size (w.alloc (.cells #[.int .i64 a0, .int .i64 a1, .int .i64 a2, .int .i64 b0, .int .i64 b1, .int .i64 b2, .int .i64 d0, .int .i64 d1, .int .i64 d2] 23)) w' → R (.returned (.tuple #[rv x y z, .int .i64 e])) w') :
    Calls Try.prog 14 #[.slice (some ⟨n, 0, none⟩) 3 3] (w.alloc (.cells #[.int .i64 a0, .int .i64 a1, .int .i64 a2, .int .i64 b0, .int .i64 b1, .int .i64 b2, .int .i64 d0, .int .i64 d1, .int .i64 d2] 23)) R := by
  subst hn
  exact sum_k (xs := [⟨a0, a1, a2⟩, ⟨b0, b1, b2⟩, ⟨d0, d1, d2⟩]) rfl (by omega) (by simp) (lies3 w ⟨a0, a1, a2⟩ ⟨b0, b1, b2⟩ ⟨d0, d1, d2⟩) h.out hR

set_option maxHeartbeats 4000000 in
theorem ord_a (a0 a1 a2 b0 b1 b2 d0 d1 d2 : Int) (w : World) {x y z e x' y' z' e' : Int} (H1 : Hid ((Value.tuple #[(sumS ⟨0, 0, 0⟩ [⟨a0, a1, a2⟩, ⟨b0, b1, b2⟩, ⟨d0, d1, d2⟩]).1.val, .int .i64 (sumS ⟨0, 0, 0⟩ [⟨a0, a1, a2⟩, ⟨b0, b1, b2⟩, ⟨d0, d1, d2⟩]).2]) = .tuple #[rv x y z, .int .i64 e])) (H2 : Hid ((Value.tuple #[(sumS ⟨0, 0, 0⟩ [⟨d0, d1, d2⟩, ⟨a0, a1, a2⟩, ⟨b0, b1, b2⟩]).1.val, .int .i64 (sumS ⟨0, 0, 0⟩ [⟨d0, d1, d2⟩, ⟨a0, a1, a2⟩, ⟨b0, b1, b2⟩]).2]) = .tuple #[rv x' y' z', .int .i64 e'])) (h1 : (e != 0) = true) (h2 : (e' != 0) = true) (ra : rightB a0 a1 a2 = false) :
    Calls Try.prog 6 #[rv a0 a1 a2, rv b0 b1 b2, rv d0 d1 d2] w fun e w' => e = .returned (.bool true) ∧ Below w.heap.size w w' := by
  go_enter Try.func6, Try.ntmps6
  go_wp2_with fail
  with_reducible refine awake_k (fun x1 hb1 => ?_)
  try dsimp only
  have hz1 := hb1.size; (try simp only [World.size_alloc, World.size_setCell, World.size_drew] at hz1)
  have c1_0 : ∀ o, x1.cell? ⟨w.heap.size, o, none⟩ = _ := fun o => hb1.cell (p := ⟨w.heap.size, o, none⟩) (by simp only [World.size_alloc, World.size_setCell, World.size_drew] <;> omega)
  have g1_0 : ∀ o, x1.frozen? ⟨w.heap.size, o, none⟩ = _ := fun o => hb1.frozen (p := ⟨w.heap.size, o, none⟩) (by simp only [World.size_alloc, World.size_setCell, World.size_drew] <;> omega)
  have f1_0 : w.heap.size < x1.heap.size := by omega
  have c1_1 : ∀ o, x1.cell? ⟨w.heap.size + 1, o, none⟩ = _ := fun o => hb1.cell (p := ⟨w.heap.size + 1, o, none⟩) (by simp only [World.size_alloc, World.size_setCell, World.size_drew] <;> omega)
  have g1_1 : ∀ o, x1.frozen? ⟨w.heap.size + 1, o, none⟩ = _ := fun o => hb1.frozen (p := ⟨w.heap.size + 1, o, none⟩) (by simp only [World.size_alloc, World.size_setCell, World.size_drew] <;> omega)
  have f1_1 : w.heap.size + 1 < x1.heap.size := by omega
  have c1_2 : ∀ o, x1.cell? ⟨w.heap.size + 1 + 1, o, none⟩ = _ := fun o => hb1.cell (p := ⟨w.heap.size + 1 + 1, o, none⟩) (by simp only [World.size_alloc, World.size_setCell, World.size_drew] <;> omega)
  have g1_2 : ∀ o, x1.frozen? ⟨w.heap.size + 1 + 1, o, none⟩ = _ := fun o => hb1.frozen (p := ⟨w.heap.size + 1 + 1, o, none⟩) (by simp only [World.size_alloc, World.size_setCell, World.size_drew] <;> omega)
  have f1_2 : w.heap.size + 1 + 1 < x1.heap.size := by omega
  go_wp2_with fail
  with_reducible refine sum3_k (by simp) H1 (fun x2 hb2 => ?_)
  try dsimp only
  have hz2 := hb2.size; (try simp only [World.size_alloc, World.size_setCell, World.size_drew] at hz2)
  have c2_0 : ∀ o, x2.cell? ⟨w.heap.size, o, none⟩ = _ := fun o => hb2.cell (p := ⟨w.heap.size, o, none⟩) (by simp only [World.size_alloc, World.size_setCell, World.size_drew] <;> omega)
  have g2_0 : ∀ o, x2.frozen? ⟨w.heap.size, o, none⟩ = _ := fun o => hb2.frozen (p := ⟨w.heap.size, o, none⟩) (by simp only [World.size_alloc, World.size_setCell, World.size_drew] <;> omega)
  have f2_0 : w.heap.size < x2.heap.size := by omega
  have c2_1 : ∀ o, x2.cell? ⟨w.heap.size + 1, o, none⟩ = _ := fun o => hb2.cell (p := ⟨w.heap.size + 1, o, none⟩) (by simp only [World.size_alloc, World.size_setCell, World.size_drew] <;> omega)
  have g2_1 : ∀ o, x2.frozen? ⟨w.heap.size + 1, o, none⟩ = _ := fun o => hb2.frozen (p := ⟨w.heap.size + 1, o, none⟩) (by simp only [World.size_alloc, World.size_setCell, World.size_drew] <;> omega)
  have f2_1 : w.heap.size + 1 < x2.heap.size := by omega
  have c2_2 : ∀ o, x2.cell? ⟨w.heap.size + 1 + 1, o, none⟩ = _ := fun o => hb2.cell (p := ⟨w.heap.size + 1 + 1, o, none⟩) (by simp only [World.size_alloc, World.size_setCell, World.size_drew] <;> omega)
  have g2_2 : ∀ o, x2.frozen? ⟨w.heap.size + 1 + 1, o, none⟩ = _ := fun o => hb2.frozen (p := ⟨w.heap.size + 1 + 1, o, none⟩) (by simp only [World.size_alloc, World.size_setCell, World.size_drew] <;> omega)
  have f2_2 : w.heap.size + 1 + 1 < x2.heap.size := by omega
  go_wp2_with fail
  with_reducible refine sum3_k (by simp) H2 (fun x3 hb3 => ?_)
  try dsimp only
  have hz3 := hb3.size; (try simp only [World.size_alloc, World.size_setCell, World.size_drew] at hz3)
  have c3_0 : ∀ o, x3.cell? ⟨w.heap.size, o, none⟩ = _ := fun o => hb3.cell (p := ⟨w.heap.size, o, none⟩) (by simp only [World.size_alloc, World.size_setCell, World.size_drew] <;> omega)
  have g3_0 : ∀ o, x3.frozen? ⟨w.heap.size, o, none⟩ = _ := fun o => hb3.frozen (p := ⟨w.heap.size, o, none⟩) (by simp only [World.size_alloc, World.size_setCell, World.size_drew] <;> omega)
  have f3_0 : w.heap.size < x3.heap.size := by omega
  have c3_1 : ∀ o, x3.cell? ⟨w.heap.size + 1, o, none⟩ = _ := fun o => hb3.cell (p := ⟨w.heap.size + 1, o, none⟩) (by simp only [World.size_alloc, World.size_setCell, World.size_drew] <;> omega)
  have g3_1 : ∀ o, x3.frozen? ⟨w.heap.size + 1, o, none⟩ = _ := fun o => hb3.frozen (p := ⟨w.heap.size + 1, o, none⟩) (by simp only [World.size_alloc, World.size_setCell, World.size_drew] <;> omega)
  have f3_1 : w.heap.size + 1 < x3.heap.size := by omega
  have c3_2 : ∀ o, x3.cell? ⟨w.heap.size + 1 + 1, o, none⟩ = _ := fun o => hb3.cell (p := ⟨w.heap.size + 1 + 1, o, none⟩) (by simp only [World.size_alloc, World.size_setCell, World.size_drew] <;> omega)
  have g3_2 : ∀ o, x3.frozen? ⟨w.heap.size + 1 + 1, o, none⟩ = _ := fun o => hb3.frozen (p := ⟨w.heap.size + 1 + 1, o, none⟩) (by simp only [World.size_alloc, World.size_setCell, World.size_drew] <;> omega)
  have f3_2 : w.heap.size + 1 + 1 < x3.heap.size := by omega
  have c3_3 : ∀ o, x3.cell? ⟨x2.heap.size, o, none⟩ = _ := fun o => hb3.cell (p := ⟨x2.heap.size, o, none⟩) (by simp only [World.size_alloc, World.size_setCell, World.size_drew] <;> omega)
  have g3_3 : ∀ o, x3.frozen? ⟨x2.heap.size, o, none⟩ = _ := fun o => hb3.frozen (p := ⟨x2.heap.size, o, none⟩) (by simp only [World.size_alloc, World.size_setCell, World.size_drew] <;> omega)
  have f3_3 : x2.heap.size < x3.heap.size := by omega
  go_wp2_with fail
  with_reducible refine right_k (by assumption) (fun x4 hb4 => ?_)
  try dsimp only
  have hz4 := hb4.size; (try simp only [World.size_alloc, World.size_setCell, World.size_drew] at hz4)
  have c4_0 : ∀ o, x4.cell? ⟨w.heap.size, o, none⟩ = _ := fun o => hb4.cell (p := ⟨w.heap.size, o, none⟩) (by simp only [World.size_alloc, World.size_setCell, World.size_drew] <;> omega)
  have g4_0 : ∀ o, x4.frozen? ⟨w.heap.size, o, none⟩ = _ := fun o => hb4.frozen (p := ⟨w.heap.size, o, none⟩) (by simp only [World.size_alloc, World.size_setCell, World.size_drew] <;> omega)
  have f4_0 : w.heap.size < x4.heap.size := by omega
  have c4_1 : ∀ o, x4.cell? ⟨w.heap.size + 1, o, none⟩ = _ := fun o => hb4.cell (p := ⟨w.heap.size + 1, o, none⟩) (by simp only [World.size_alloc, World.size_setCell, World.size_drew] <;> omega)
  have g4_1 : ∀ o, x4.frozen? ⟨w.heap.size + 1, o, none⟩ = _ := fun o => hb4.frozen (p := ⟨w.heap.size + 1, o, none⟩) (by simp only [World.size_alloc, World.size_setCell, World.size_drew] <;> omega)
  have f4_1 : w.heap.size + 1 < x4.heap.size := by omega
  have c4_2 : ∀ o, x4.cell? ⟨w.heap.size + 1 + 1, o, none⟩ = _ := fun o => hb4.cell (p := ⟨w.heap.size + 1 + 1, o, none⟩) (by simp only [World.size_alloc, World.size_setCell, World.size_drew] <;> omega)
  have g4_2 : ∀ o, x4.frozen? ⟨w.heap.size + 1 + 1, o, none⟩ = _ := fun o => hb4.frozen (p := ⟨w.heap.size + 1 + 1, o, none⟩) (by simp only [World.size_alloc, World.size_setCell, World.size_drew] <;> omega)
  have f4_2 : w.heap.size + 1 + 1 < x4.heap.size := by omega
  have c4_3 : ∀ o, x4.cell? ⟨x2.heap.size, o, none⟩ = _ := fun o => hb4.cell (p := ⟨x2.heap.size, o, none⟩) (by simp only [World.size_alloc, World.size_setCell, World.size_drew] <;> omega)
  have g4_3 : ∀ o, x4.frozen? ⟨x2.heap.size, o, none⟩ = _ := fun o => hb4.frozen (p := ⟨x2.heap.size, o, none⟩) (by simp only [World.size_alloc, World.size_setCell, World.size_drew] <;> omega)
  have f4_3 : x2.heap.size < x4.heap.size := by omega
  have c4_4 : ∀ o, x4.cell? ⟨x3.heap.size, o, none⟩ = _ := fun o => hb4.cell (p := ⟨x3.heap.size, o, none⟩) (by simp only [World.size_alloc, World.size_setCell, World.size_drew] <;> omega)
  have g4_4 : ∀ o, x4.frozen? ⟨x3.heap.size, o, none⟩ = _ := fun o => hb4.frozen (p := ⟨x3.heap.size, o, none⟩) (by simp only [World.size_alloc, World.size_setCell, World.size_drew] <;> omega)
  have f4_4 : x3.heap.size < x4.heap.size := by omega
  go_wp2
  go_ret
  exact ⟨rfl, by (repeat (first | with_reducible exact Below.refl _ _ | with_reducible assumption | with_reducible refine Below.drew ?_ | with_reducible refine bl_drewN ?_ | (with_reducible refine bl_alloc ?_ ?_; · (first | omega | (simp; done) | (simp; omega))) | (with_reducible refine bl_set ?_ ?_; · (first | omega | (simp; done) | (simp; omega))) | (with_reducible refine bl_trans hb4 ?_ ?_; · (first | omega | (simp; done) | (simp; omega))) | (with_reducible refine bl_trans hb3 ?_ ?_; · (first | omega | (simp; done) | (simp; omega))) | (with_reducible refine bl_trans hb2 ?_ ?_; · (first | omega | (simp; done) | (simp; omega))) | (with_reducible refine bl_trans hb1 ?_ ?_; · (first | omega | (simp; done) | (simp; omega)))))⟩

set_option maxHeartbeats 4000000 in
theorem ord_b (a0 a1 a2 b0 b1 b2 d0 d1 d2 : Int) (w : World) {x y z e x' y' z' e' : Int} (H1 : Hid ((Value.tuple #[(sumS ⟨0, 0, 0⟩ [⟨a0, a1, a2⟩, ⟨b0, b1, b2⟩, ⟨d0, d1, d2⟩]).1.val, .int .i64 (sumS ⟨0, 0, 0⟩ [⟨a0, a1, a2⟩, ⟨b0, b1, b2⟩, ⟨d0, d1, d2⟩]).2]) = .tuple #[rv x y z, .int .i64 e])) (H2 : Hid ((Value.tuple #[(sumS ⟨0, 0, 0⟩ [⟨d0, d1, d2⟩, ⟨a0, a1, a2⟩, ⟨b0, b1, b2⟩]).1.val, .int .i64 (sumS ⟨0, 0, 0⟩ [⟨d0, d1, d2⟩, ⟨a0, a1, a2⟩, ⟨b0, b1, b2⟩]).2]) = .tuple #[rv x' y' z', .int .i64 e'])) (h1 : (e != 0) = true) (h2 : (e' != 0) = true) (ra : rightB a0 a1 a2 = true) (rb : rightB b0 b1 b2 = false) :
    Calls Try.prog 6 #[rv a0 a1 a2, rv b0 b1 b2, rv d0 d1 d2] w fun e w' => e = .returned (.bool true) ∧ Below w.heap.size w w' := by
  go_enter Try.func6, Try.ntmps6
  go_wp2_with fail
  with_reducible refine awake_k (fun x1 hb1 => ?_)
  try dsimp only
  have hz1 := hb1.size; (try simp only [World.size_alloc, World.size_setCell, World.size_drew] at hz1)
  have c1_0 : ∀ o, x1.cell? ⟨w.heap.size, o, none⟩ = _ := fun o => hb1.cell (p := ⟨w.heap.size, o, none⟩) (by simp only [World.size_alloc, World.size_setCell, World.size_drew] <;> omega)
  have g1_0 : ∀ o, x1.frozen? ⟨w.heap.size, o, none⟩ = _ := fun o => hb1.frozen (p := ⟨w.heap.size, o, none⟩) (by simp only [World.size_alloc, World.size_setCell, World.size_drew] <;> omega)
  have f1_0 : w.heap.size < x1.heap.size := by omega
  have c1_1 : ∀ o, x1.cell? ⟨w.heap.size + 1, o, none⟩ = _ := fun o => hb1.cell (p := ⟨w.heap.size + 1, o, none⟩) (by simp only [World.size_alloc, World.size_setCell, World.size_drew] <;> omega)
  have g1_1 : ∀ o, x1.frozen? ⟨w.heap.size + 1, o, none⟩ = _ := fun o => hb1.frozen (p := ⟨w.heap.size + 1, o, none⟩) (by simp only [World.size_alloc, World.size_setCell, World.size_drew] <;> omega)
  have f1_1 : w.heap.size + 1 < x1.heap.size := by omega
  have c1_2 : ∀ o, x1.cell? ⟨w.heap.size + 1 + 1, o, none⟩ = _ := fun o => hb1.cell (p := ⟨w.heap.size + 1 + 1, o, none⟩) (by simp only [World.size_alloc, World.size_setCell, World.size_drew] <;> omega)
  have g1_2 : ∀ o, x1.frozen? ⟨w.heap.size + 1 + 1, o, none⟩ = _ := fun o => hb1.frozen (p := ⟨w.heap.size + 1 + 1, o, none⟩) (by simp only [World.size_alloc, World.size_setCell, World.size_drew] <;> omega)
  have f1_2 : w.heap.size + 1 + 1 < x1.heap.size := by omega
  go_wp2_with fail
  with_reducible refine sum3_k (by simp) H1 (fun x2 hb2 => ?_)
  try dsimp only
  have hz2 := hb2.size; (try simp only [World.size_alloc, World.size_setCell, World.size_drew] at hz2)
  have c2_0 : ∀ o, x2.cell? ⟨w.heap.size, o, none⟩ = _ := fun o => hb2.cell (p := ⟨w.heap.size, o, none⟩) (by simp only [World.size_alloc, World.size_setCell, World.size_drew] <;> omega)
  have g2_0 : ∀ o, x2.frozen? ⟨w.heap.size, o, none⟩ = _ := fun o => hb2.frozen (p := ⟨w.heap.size, o, none⟩) (by simp only [World.size_alloc, World.size_setCell, World.size_drew] <;> omega)
  have f2_0 : w.heap.size < x2.heap.size := by omega
  have c2_1 : ∀ o, x2.cell? ⟨w.heap.size + 1, o, none⟩ = _ := fun o => hb2.cell (p := ⟨w.heap.size + 1, o, none⟩) (by simp only [World.size_alloc, World.size_setCell, World.size_drew] <;> omega)
  have g2_1 : ∀ o, x2.frozen? ⟨w.heap.size + 1, o, none⟩ = _ := fun o => hb2.frozen (p := ⟨w.heap.size + 1, o, none⟩) (by simp only [World.size_alloc, World.size_setCell, World.size_drew] <;> omega)
  have f2_1 : w.heap.size + 1 < x2.heap.size := by omega
  have c2_2 : ∀ o, x2.cell? ⟨w.heap.size + 1 + 1, o, none⟩ = _ := fun o => hb2.cell (p := ⟨w.heap.size + 1 + 1, o, none⟩) (by simp only [World.size_alloc, World.size_setCell, World.size_drew] <;> omega)
  have g2_2 : ∀ o, x2.frozen? ⟨w.heap.size + 1 + 1, o, none⟩ = _ := fun o => hb2.frozen (p := ⟨w.heap.size + 1 + 1, o, none⟩) (by simp only [World.size_alloc, World.size_setCell, World.size_drew] <;> omega)
  have f2_2 : w.heap.size + 1 + 1 < x2.heap.size := by omega
  go_wp2_with fail
  with_reducible refine sum3_k (by simp) H2 (fun x3 hb3 => ?_)
  try dsimp only
  have hz3 := hb3.size; (try simp only [World.size_alloc, World.size_setCell, World.size_drew] at hz3)
  have c3_0 : ∀ o, x3.cell? ⟨w.heap.size, o, none⟩ = _ := fun o => hb3.cell (p := ⟨w.heap.size, o, none⟩) (by simp only [World.size_alloc, World.size_setCell, World.size_drew] <;> omega)
  have g3_0 : ∀ o, x3.frozen? ⟨w.heap.size, o, none⟩ = _ := fun o => hb3.frozen (p := ⟨w.heap.size, o, none⟩) (by simp only [World.size_alloc, World.size_setCell, World.size_drew] <;> omega)
  have f3_0 : w.heap.size < x3.heap.size := by omega
  have c3_1 : ∀ o, x3.cell? ⟨w.heap.size + 1, o, none⟩ = _ := fun o => hb3.cell (p := ⟨w.heap.size + 1, o, none⟩) (by simp only [World.size_alloc, World.size_setCell, World.size_drew] <;> omega)
  have g3_1 : ∀ o, x3.frozen? ⟨w.heap.size + 1, o, none⟩ = _ := fun o => hb3.frozen (p := ⟨w.heap.size + 1, o, none⟩) (by simp only [World.size_alloc, World.size_setCell, World.size_drew] <;> omega)
  have f3_1 : w.heap.size + 1 < x3.heap.size := by omega
  have c3_2 : ∀ o, x3.cell? ⟨w.heap.size + 1 + 1, o, none⟩ = _ := fun o => hb3.cell (p := ⟨w.heap.size + 1 + 1, o, none⟩) (by simp only [World.size_alloc, World.size_setCell, World.size_drew] <;> omega)
  have g3_2 : ∀ o, x3.frozen? ⟨w.heap.size + 1 + 1, o, none⟩ = _ := fun o => hb3.frozen (p := ⟨w.heap.size + 1 + 1, o, none⟩) (by simp only [World.size_alloc, World.size_setCell, World.size_drew] <;> omega)
  have f3_2 : w.heap.size + 1 + 1 < x3.heap.size := by omega
  have c3_3 : ∀ o, x3.cell? ⟨x2.heap.size, o, none⟩ = _ := fun o => hb3.cell (p := ⟨x2.heap.size, o, none⟩) (by simp only [World.size_alloc, World.size_setCell, World.size_drew] <;> omega)
  have g3_3 : ∀ o, x3.frozen? ⟨x2.heap.size, o, none⟩ = _ := fun o => hb3.frozen (p := ⟨x2.heap.size, o, none⟩) (by simp only [World.size_alloc, World.size_setCell, World.size_drew] <;> omega)
  have f3_3 : x2.heap.size < x3.heap.size := by omega
  go_wp2_with fail
  with_reducible refine right_k (by assumption) (fun x4 hb4 => ?_)
  try dsimp only
  have hz4 := hb4.size; (try simp only [World.size_alloc, World.size_setCell, World.size_drew] at hz4)
  have c4_0 : ∀ o, x4.cell? ⟨w.heap.size, o, none⟩ = _ := fun o => hb4.cell (p := ⟨w.heap.size, o, none⟩) (by simp only [World.size_alloc, World.size_setCell, World.size_drew] <;> omega)
  have g4_0 : ∀ o, x4.frozen? ⟨w.heap.size, o, none⟩ = _ := fun o => hb4.frozen (p := ⟨w.heap.size, o, none⟩) (by simp only [World.size_alloc, World.size_setCell, World.size_drew] <;> omega)
  have f4_0 : w.heap.size < x4.heap.size := by omega
  have c4_1 : ∀ o, x4.cell? ⟨w.heap.size + 1, o, none⟩ = _ := fun o => hb4.cell (p := ⟨w.heap.size + 1, o, none⟩) (by simp only [World.size_alloc, World.size_setCell, World.size_drew] <;> omega)
  have g4_1 : ∀ o, x4.frozen? ⟨w.heap.size + 1, o, none⟩ = _ := fun o => hb4.frozen (p := ⟨w.heap.size + 1, o, none⟩) (by simp only [World.size_alloc, World.size_setCell, World.size_drew] <;> omega)
  have f4_1 : w.heap.size + 1 < x4.heap.size := by omega
  have c4_2 : ∀ o, x4.cell? ⟨w.heap.size + 1 + 1, o, none⟩ = _ := fun o => hb4.cell (p := ⟨w.heap.size + 1 + 1, o, none⟩) (by simp only [World.size_alloc, World.size_setCell, World.size_drew] <;> omega)
  have g4_2 : ∀ o, x4.frozen? ⟨w.heap.size + 1 + 1, o, none⟩ = _ := fun o => hb4.frozen (p := ⟨w.heap.size + 1 + 1, o, none⟩) (by simp only [World.size_alloc, World.size_setCell, World.size_drew] <;> omega)
  have f4_2 : w.heap.size + 1 + 1 < x4.heap.size := by omega
  have c4_3 : ∀ o, x4.cell? ⟨x2.heap.size, o, none⟩ = _ := fun o => hb4.cell (p := ⟨x2.heap.size, o, none⟩) (by simp only [World.size_alloc, World.size_setCell, World.size_drew] <;> omega)
  have g4_3 : ∀ o, x4.frozen? ⟨x2.heap.size, o, none⟩ = _ := fun o => hb4.frozen (p := ⟨x2.heap.size, o, none⟩) (by simp only [World.size_alloc, World.size_setCell, World.size_drew] <;> omega)
  have f4_3 : x2.heap.size < x4.heap.size := by omega
  have c4_4 : ∀ o, x4.cell? ⟨x3.heap.size, o, none⟩ = _ := fun o => hb4.cell (p := ⟨x3.heap.size, o, none⟩) (by simp only [World.size_alloc, World.size_setCell, World.size_drew] <;> omega)
  have g4_4 : ∀ o, x4.frozen? ⟨x3.heap.size, o, none⟩ = _ := fun o => hb4.frozen (p := ⟨x3.heap.size, o, none⟩) (by simp only [World.size_alloc, World.size_setCell, World.size_drew] <;> omega)
  have f4_4 : x3.heap.size < x4.heap.size := by omega
  go_wp2_with fail
  with_reducible refine right_k (by assumption) (fun x5 hb5 => ?_)
  try dsimp only
  have hz5 := hb5.size; (try simp only [World.size_alloc, World.size_setCell, World.size_drew] at hz5)
  have c5_0 : ∀ o, x5.cell? ⟨w.heap.size, o, none⟩ = _ := fun o => hb5.cell (p := ⟨w.heap.size, o, none⟩) (by simp only [World.size_alloc, World.size_setCell, World.size_drew] <;> omega)
  have g5_0 : ∀ o, x5.frozen? ⟨w.heap.size, o, none⟩ = _ := fun o => hb5.frozen (p := ⟨w.heap.size, o, none⟩) (by simp only [World.size_alloc, World.size_setCell, World.size_drew] <;> omega)
  have f5_0 : w.heap.size < x5.heap.size := by omega
  have c5_1 : ∀ o, x5.cell? ⟨w.heap.size + 1, o, none⟩ = _ := fun o => hb5.cell (p := ⟨w.heap.size + 1, o, none⟩) (by simp only [World.size_alloc, World.size_setCell, World.size_drew] <;> omega)
  have g5_1 : ∀ o, x5.frozen? ⟨w.heap.size + 1, o, none⟩ = _ := fun o => hb5.frozen (p := ⟨w.heap.size + 1, o, none⟩) (by simp only [World.size_alloc, World.size_setCell, World.size_drew] <;> omega)
  have f5_1 : w.heap.size + 1 < x5.heap.size := by omega
  have c5_2 : ∀ o, x5.cell? ⟨w.heap.size + 1 + 1, o, none⟩ = _ := fun o => hb5.cell (p := ⟨w.heap.size + 1 + 1, o, none⟩) (by simp only [World.size_alloc, World.size_setCell, World.size_drew] <;> omega)
  have g5_2 : ∀ o, x5.frozen? ⟨w.heap.size + 1 + 1, o, none⟩ = _ := fun o => hb5.frozen (p := ⟨w.heap.size + 1 + 1, o, none⟩) (by simp only [World.size_alloc, World.size_setCell, World.size_drew] <;> omega)
  have f5_2 : w.heap.size + 1 + 1 < x5.heap.size := by omega
  have c5_3 : ∀ o, x5.cell? ⟨x2.heap.size, o, none⟩ = _ := fun o => hb5.cell (p := ⟨x2.heap.size, o, none⟩) (by simp only [World.size_alloc, World.size_setCell, World.size_drew] <;> omega)
  have g5_3 : ∀ o, x5.frozen? ⟨x2.heap.size, o, none⟩ = _ := fun o => hb5.frozen (p := ⟨x2.heap.size, o, none⟩) (by simp only [World.size_alloc, World.size_setCell, World.size_drew] <;> omega)
  have f5_3 : x2.heap.size < x5.heap.size := by omega
  have c5_4 : ∀ o, x5.cell? ⟨x3.heap.size, o, none⟩ = _ := fun o => hb5.cell (p := ⟨x3.heap.size, o, none⟩) (by simp only [World.size_alloc, World.size_setCell, World.size_drew] <;> omega)
  have g5_4 : ∀ o, x5.frozen? ⟨x3.heap.size, o, none⟩ = _ := fun o => hb5.frozen (p := ⟨x3.heap.size, o, none⟩) (by simp only [World.size_alloc, World.size_setCell, World.size_drew] <;> omega)
  have f5_4 : x3.heap.size < x5.heap.size := by omega
  go_wp2
  go_ret
  exact ⟨rfl, by (repeat (first | with_reducible exact Below.refl _ _ | with_reducible assumption | with_reducible refine Below.drew ?_ | with_reducible refine bl_drewN ?_ | (with_reducible refine bl_alloc ?_ ?_; · (first | omega | (simp; done) | (simp; omega))) | (with_reducible refine bl_set ?_ ?_; · (first | omega | (simp; done) | (simp; omega))) | (with_reducible refine bl_trans hb5 ?_ ?_; · (first | omega | (simp; done) | (simp; omega))) | (with_reducible refine bl_trans hb4 ?_ ?_; · (first | omega | (simp; done) | (simp; omega))) | (with_reducible refine bl_trans hb3 ?_ ?_; · (first | omega | (simp; done) | (simp; omega))) | (with_reducible refine bl_trans hb2 ?_ ?_; · (first | omega | (simp; done) | (simp; omega))) | (with_reducible refine bl_trans hb1 ?_ ?_; · (first | omega | (simp; done) | (simp; omega)))))⟩

set_option maxHeartbeats 4000000 in
theorem ord_d (a0 a1 a2 b0 b1 b2 d0 d1 d2 : Int) (w : World) {x y z e x' y' z' e' : Int} (H1 : Hid ((Value.tuple #[(sumS ⟨0, 0, 0⟩ [⟨a0, a1, a2⟩, ⟨b0, b1, b2⟩, ⟨d0, d1, d2⟩]).1.val, .int .i64 (sumS ⟨0, 0, 0⟩ [⟨a0, a1, a2⟩, ⟨b0, b1, b2⟩, ⟨d0, d1, d2⟩]).2]) = .tuple #[rv x y z, .int .i64 e])) (H2 : Hid ((Value.tuple #[(sumS ⟨0, 0, 0⟩ [⟨d0, d1, d2⟩, ⟨a0, a1, a2⟩, ⟨b0, b1, b2⟩]).1.val, .int .i64 (sumS ⟨0, 0, 0⟩ [⟨d0, d1, d2⟩, ⟨a0, a1, a2⟩, ⟨b0, b1, b2⟩]).2]) = .tuple #[rv x' y' z', .int .i64 e'])) (h1 : (e != 0) = true) (h2 : (e' != 0) = true) (ra : rightB a0 a1 a2 = true) (rb : rightB b0 b1 b2 = true) (rd : rightB d0 d1 d2 = false) :
    Calls Try.prog 6 #[rv a0 a1 a2, rv b0 b1 b2, rv d0 d1 d2] w fun e w' => e = .returned (.bool true) ∧ Below w.heap.size w w' := by
  go_enter Try.func6, Try.ntmps6
  go_wp2_with fail
  with_reducible refine awake_k (fun x1 hb1 => ?_)
  try dsimp only
  have hz1 := hb1.size; (try simp only [World.size_alloc, World.size_setCell, World.size_drew] at hz1)
  have c1_0 : ∀ o, x1.cell? ⟨w.heap.size, o, none⟩ = _ := fun o => hb1.cell (p := ⟨w.heap.size, o, none⟩) (by simp only [World.size_alloc, World.size_setCell, World.size_drew] <;> omega)
  have g1_0 : ∀ o, x1.frozen? ⟨w.heap.size, o, none⟩ = _ := fun o => hb1.frozen (p := ⟨w.heap.size, o, none⟩) (by simp only [World.size_alloc, World.size_setCell, World.size_drew] <;> omega)
  have f1_0 : w.heap.size < x1.heap.size := by omega
  have c1_1 : ∀ o, x1.cell? ⟨w.heap.size + 1, o, none⟩ = _ := fun o => hb1.cell (p := ⟨w.heap.size + 1, o, none⟩) (by simp only [World.size_alloc, World.size_setCell, World.size_drew] <;> omega)
  have g1_1 : ∀ o, x1.frozen? ⟨w.heap.size + 1, o, none⟩ = _ := fun o => hb1.frozen (p := ⟨w.heap.size + 1, o, none⟩) (by simp only [World.size_alloc, World.size_setCell, World.size_drew] <;> omega)
  have f1_1 : w.heap.size + 1 < x1.heap.size := by omega
  have c1_2 : ∀ o, x1.cell? ⟨w.heap.size + 1 + 1, o, none⟩ = _ := fun o => hb1.cell (p := ⟨w.heap.size + 1 + 1, o, none⟩) (by simp only [World.size_alloc, World.size_setCell, World.size_drew] <;> omega)
  have g1_2 : ∀ o, x1.frozen? ⟨w.heap.size + 1 + 1, o, none⟩ = _ := fun o => hb1.frozen (p := ⟨w.heap.size + 1 + 1, o, none⟩) (by simp only [World.size_alloc, World.size_setCell, World.size_drew] <;> omega)
  have f1_2 : w.heap.size + 1 + 1 < x1.heap.size := by omega
  go_wp2_with fail
  with_reducible refine sum3_k (by simp) H1 (fun x2 hb2 => ?_)
  try dsimp only
  have hz2 := hb2.size; (try simp only [World.size_alloc, World.size_setCell, World.size_drew] at hz2)
  have c2_0 : ∀ o, x2.cell? ⟨w.heap.size, o, none⟩ = _ := fun o => hb2.cell (p := ⟨w.heap.size, o, none⟩) (by simp only [World.size_alloc, World.size_setCell, World.size_drew] <;> omega)
  have g2_0 : ∀ o, x2.frozen? ⟨w.heap.size, o, none⟩ = _ := fun o => hb2.frozen (p := ⟨w.heap.size, o, none⟩) (by simp only [World.size_alloc, World.size_setCell, World.size_drew] <;> omega)
  have f2_0 : w.heap.size < x2.heap.size := by omega
  have c2_1 : ∀ o, x2.cell? ⟨w.heap.size + 1, o, none⟩ = _ := fun o => hb2.cell (p := ⟨w.heap.size + 1, o, none⟩) (by simp only [World.size_alloc, World.size_setCell, World.size_drew] <;> omega)
  have g2_1 : ∀ o, x2.frozen? ⟨w.heap.size + 1, o, none⟩ = _ := fun o => hb2.frozen (p := ⟨w.heap.size + 1, o, none⟩) (by simp only [World.size_alloc, World.size_setCell, World.size_drew] <;> omega)
  have f2_1 : w.heap.size + 1 < x2.heap.size := by omega
  have c2_2 : ∀ o, x2.cell? ⟨w.heap.size + 1 + 1, o, none⟩ = _ := fun o => hb2.cell (p := ⟨w.heap.size + 1 + 1, o, none⟩) (by simp only [World.size_alloc, World.size_setCell, World.size_drew] <;> omega)
  have g2_2 : ∀ o, x2.frozen? ⟨w.heap.size + 1 + 1, o, none⟩ = _ := fun o => hb2.frozen (p := ⟨w.heap.size + 1 + 1, o, none⟩) (by simp only [World.size_alloc, World.size_setCell, World.size_drew] <;> omega)
  have f2_2 : w.heap.size + 1 + 1 < x2.heap.size := by omega
  go_wp2_with fail
  with_reducible refine sum3_k (by simp) H2 (fun x3 hb3 => ?_)
  try dsimp only
  have hz3 := hb3.size; (try simp only [World.size_alloc, World.size_setCell, World.size_drew] at hz3)
  have c3_0 : ∀ o, x3.cell? ⟨w.heap.size, o, none⟩ = _ := fun o => hb3.cell (p := ⟨w.heap.size, o, none⟩) (by simp only [World.size_alloc, World.size_setCell, World.size_drew] <;> omega)
  have g3_0 : ∀ o, x3.frozen? ⟨w.heap.size, o, none⟩ = _ := fun o => hb3.frozen (p := ⟨w.heap.size, o, none⟩) (by simp only [World.size_alloc, World.size_setCell, World.size_drew] <;> omega)
  have f3_0 : w.heap.size < x3.heap.size := by omega
  have c3_1 : ∀ o, x3.cell? ⟨w.heap.size + 1, o, none⟩ = _ := fun o => hb3.cell (p := ⟨w.heap.size + 1, o, none⟩) (by simp only [World.size_alloc, World.size_setCell, World.size_drew] <;> omega)
  have g3_1 : ∀ o, x3.frozen? ⟨w.heap.size + 1, o, none⟩ = _ := fun o => hb3.frozen (p := ⟨w.heap.size + 1, o, none⟩) (by simp only [World.size_alloc, World.size_setCell, World.size_drew] <;> omega)
  have f3_1 : w.heap.size + 1 < x3.heap.size := by omega
  have c3_2 : ∀ o, x3.cell? ⟨w.heap.size + 1 + 1, o, none⟩ = _ := fun o => hb3.cell (p := ⟨w.heap.size + 1 + 1, o, none⟩) (by simp only [World.size_alloc, World.size_setCell, World.size_drew] <;> omega)
  have g3_2 : ∀ o, x3.frozen? ⟨w.heap.size + 1 + 1, o, none⟩ = _ := fun o => hb3.frozen (p := ⟨w.heap.size + 1 + 1, o, none⟩) (by simp only [World.size_alloc, World.size_setCell, World.size_drew] <;> omega)
  have f3_2 : w.heap.size + 1 + 1 < x3.heap.size := by omega
  have c3_3 : ∀ o, x3.cell? ⟨x2.heap.size, o, none⟩ = _ := fun o => hb3.cell (p := ⟨x2.heap.size, o, none⟩) (by simp only [World.size_alloc, World.size_setCell, World.size_drew] <;> omega)
  have g3_3 : ∀ o, x3.frozen? ⟨x2.heap.size, o, none⟩ = _ := fun o => hb3.frozen (p := ⟨x2.heap.size, o, none⟩) (by simp only [World.size_alloc, World.size_setCell, World.size_drew] <;> omega)
  have f3_3 : x2.heap.size < x3.heap.size := by omega
  go_wp2_with fail
  with_reducible refine right_k (by assumption) (fun x4 hb4 => ?_)
  try dsimp only
  have hz4 := hb4.size; (try simp only [World.size_alloc, World.size_setCell, World.size_drew] at hz4)
  have c4_0 : ∀ o, x4.cell? ⟨w.heap.size, o, none⟩ = _ := fun o => hb4.cell (p := ⟨w.heap.size, o, none⟩) (by simp only [World.size_alloc, World.size_setCell, World.size_drew] <;> omega)
  have g4_0 : ∀ o, x4.frozen? ⟨w.heap.size, o, none⟩ = _ := fun o => hb4.frozen (p := ⟨w.heap.size, o, none⟩) (by simp only [World.size_alloc, World.size_setCell, World.size_drew] <;> omega)
  have f4_0 : w.heap.size < x4.heap.size := by omega
  have c4_1 : ∀ o, x4.cell? ⟨w.heap.size + 1, o, none⟩ = _ := fun o => hb4.cell (p := ⟨w.heap.size + 1, o, none⟩) (by simp only [World.size_alloc, World.size_setCell, World.size_drew] <;> omega)
  have g4_1 : ∀ o, x4.frozen? ⟨w.heap.size + 1, o, none⟩ = _ := fun o => hb4.frozen (p := ⟨w.heap.size + 1, o, none⟩) (by simp only [World.size_alloc, World.size_setCell, World.size_drew] <;> omega)
  have f4_1 : w.heap.size + 1 < x4.heap.size := by omega
  have c4_2 : ∀ o, x4.cell? ⟨w.heap.size + 1 + 1, o, none⟩ = _ := fun o => hb4.cell (p := ⟨w.heap.size + 1 + 1, o, none⟩) (by simp only [World.size_alloc, World.size_setCell, World.size_drew] <;> omega)
  have g4_2 : ∀ o, x4.frozen? ⟨w.heap.size + 1 + 1, o, none⟩ = _ := fun o => hb4.frozen (p := ⟨w.heap.size + 1 + 1, o, none⟩) (by simp only [World.size_alloc, World.size_setCell, World.size_drew] <;> omega)
  have f4_2 : w.heap.size + 1 + 1 < x4.heap.size := by omega
  have c4_3 : ∀ o, x4.cell? ⟨x2.heap.size, o, none⟩ = _ := fun o => hb4.cell (p := ⟨x2.heap.size, o, none⟩) (by simp only [World.size_alloc, World.size_setCell, World.size_drew] <;> omega)
  have g4_3 : ∀ o, x4.frozen? ⟨x2.heap.size, o, none⟩ = _ := fun o => hb4.frozen (p := ⟨x2.heap.size, o, none⟩) (by simp only [World.size_alloc, World.size_setCell, World.size_drew] <;> omega)
  have f4_3 : x2.heap.size < x4.heap.size := by omega
  have c4_4 : ∀ o, x4.cell? ⟨x3.heap.size, o, none⟩ = _ := fun o => hb4.cell (p := ⟨x3.heap.size, o, none⟩) (by simp only [World.size_alloc, World.size_setCell, World.size_drew] <;> omega)
  have g4_4 : ∀ o, x4.frozen? ⟨x3.heap.size, o, none⟩ = _ := fun o => hb4.frozen (p := ⟨x3.heap.size, o, none⟩) (by simp only [World.size_alloc, World.size_setCell, World.size_drew] <;> omega)
  have f4_4 : x3.heap.size < x4.heap.size := by omega
  go_wp2_with fail
  with_reducible refine right_k (by assumption) (fun x5 hb5 => ?_)
  try dsimp only
  have hz5 := hb5.size; (try simp only [World.size_alloc, World.size_setCell, World.size_drew] at hz5)
  have c5_0 : ∀ o, x5.cell? ⟨w.heap.size, o, none⟩ = _ := fun o => hb5.cell (p := ⟨w.heap.size, o, none⟩) (by simp only [World.size_alloc, World.size_setCell, World.size_drew] <;> omega)
  have g5_0 : ∀ o, x5.frozen? ⟨w.heap.size, o, none⟩ = _ := fun o => hb5.frozen (p := ⟨w.heap.size, o, none⟩) (by simp only [World.size_alloc, World.size_setCell, World.size_drew] <;> omega)
  have f5_0 : w.heap.size < x5.heap.size := by omega
  have c5_1 : ∀ o, x5.cell? ⟨w.heap.size + 1, o, none⟩ = _ := fun o => hb5.cell (p := ⟨w.heap.size + 1, o, none⟩) (by simp only [World.size_alloc, World.size_setCell, World.size_drew] <;> omega)
  have g5_1 : ∀ o, x5.frozen? ⟨w.heap.size + 1, o, none⟩ = _ := fun o => hb5.frozen (p := ⟨w.heap.size + 1, o, none⟩) (by simp only [World.size_alloc, World.size_setCell, World.size_drew] <;> omega)
  have f5_1 : w.heap.size + 1 < x5.heap.size := by omega
  have c5_2 : ∀ o, x5.cell? ⟨w.heap.size + 1 + 1, o, none⟩ = _ := fun o => hb5.cell (p := ⟨w.heap.size + 1 + 1, o, none⟩) (by simp only [World.size_alloc, World.size_setCell, World.size_drew] <;> omega)
  have g5_2 : ∀ o, x5.frozen? ⟨w.heap.size + 1 + 1, o, none⟩ = _ := fun o => hb5.frozen (p := ⟨w.heap.size + 1 + 1, o, none⟩) (by simp only [World.size_alloc, World.size_setCell, World.size_drew] <;> omega)
  have f5_2 : w.heap.size + 1 + 1 < x5.heap.size := by omega
  have c5_3 : ∀ o, x5.cell? ⟨x2.heap.size, o, none⟩ = _ := fun o => hb5.cell (p := ⟨x2.heap.size, o, none⟩) (by simp only [World.size_alloc, World.size_setCell, World.size_drew] <;> omega)
  have g5_3 : ∀ o, x5.frozen? ⟨x2.heap.size, o, none⟩ = _ := fun o => hb5.frozen (p := ⟨x2.heap.size, o, none⟩) (by simp only [World.size_alloc, World.size_setCell, World.size_drew] <;> omega)
  have f5_3 : x2.heap.size < x5.heap.size := by omega
  have c5_4 : ∀ o, x5.cell? ⟨x3.heap.size, o, none⟩ = _ := fun o => hb5.cell (p := ⟨x3.heap.size, o, none⟩) (by simp only [World.size_alloc, World.size_setCell, World.size_drew] <;> omega)
  have g5_4 : ∀ o, x5.frozen? ⟨x3.heap.size, o, none⟩ = _ := fun o => hb5.frozen (p := ⟨x3.heap.size, o, none⟩) (by simp only [World.size_alloc, World.size_setCell, World.size_drew] <;> omega)
  have f5_4 : x3.heap.size < x5.heap.size := by omega
  go_wp2_with fail
  with_reducible refine right_k (by assumption) (fun x6 hb6 => ?_)
  try dsimp only
  have hz6 := hb6.size; (try simp only [World.size_alloc, World.size_setCell, World.size_drew] at hz6)
  have c6_0 : ∀ o, x6.cell? ⟨w.heap.size, o, none⟩ = _ := fun o => hb6.cell (p := ⟨w.heap.size, o, none⟩) (by simp only [World.size_alloc, World.size_setCell, World.size_drew] <;> omega)
  have g6_0 : ∀ o, x6.frozen? ⟨w.heap.size, o, none⟩ = _ := fun o => hb6.frozen (p := ⟨w.heap.size, o, none⟩) (by simp only [World.size_alloc, World.size_setCell, World.size_drew] <;> omega)
  have f6_0 : w.heap.size < x6.heap.size := by omega
  have c6_1 : ∀ o, x6.cell? ⟨w.heap.size + 1, o, none⟩ = _ := fun o => hb6.cell (p := ⟨w.heap.size + 1, o, none⟩) (by simp only [World.size_alloc, World.size_setCell, World.size_drew] <;> omega)
  have g6_1 : ∀ o, x6.frozen? ⟨w.heap.size + 1, o, none⟩ = _ := fun o => hb6.frozen (p := ⟨w.heap.size + 1, o, none⟩) (by simp only [World.size_alloc, World.size_setCell, World.size_drew] <;> omega)
  have f6_1 : w.heap.size + 1 < x6.heap.size := by omega
  have c6_2 : ∀ o, x6.cell? ⟨w.heap.size + 1 + 1, o, none⟩ = _ := fun o => hb6.cell (p := ⟨w.heap.size + 1 + 1, o, none⟩) (by simp only [World.size_alloc, World.size_setCell, World.size_drew] <;> omega)
  have g6_2 : ∀ o, x6.frozen? ⟨w.heap.size + 1 + 1, o, none⟩ = _ := fun o => hb6.frozen (p := ⟨w.heap.size + 1 + 1, o, none⟩) (by simp only [World.size_alloc, World.size_setCell, World.size_drew] <;> omega)
  have f6_2 : w.heap.size + 1 + 1 < x6.heap.size := by omega
  have c6_3 : ∀ o, x6.cell? ⟨x2.heap.size, o, none⟩ = _ := fun o => hb6.cell (p := ⟨x2.heap.size, o, none⟩) (by simp only [World.size_alloc, World.size_setCell, World.size_drew] <;> omega)
  have g6_3 : ∀ o, x6.frozen? ⟨x2.heap.size, o, none⟩ = _ := fun o => hb6.frozen (p := ⟨x2.heap.size, o, none⟩) (by simp only [World.size_alloc, World.size_setCell, World.size_drew] <;> omega)
  have f6_3 : x2.heap.size < x6.heap.size := by omega
  have c6_4 : ∀ o, x6.cell? ⟨x3.heap.size, o, none⟩ = _ := fun o => hb6.cell (p := ⟨x3.heap.size, o, none⟩) (by simp only [World.size_alloc, World.size_setCell, World.size_drew] <;> omega)
  have g6_4 : ∀ o, x6.frozen? ⟨x3.heap.size, o, none⟩ = _ := fun o => hb6.frozen (p := ⟨x3.heap.size, o, none⟩) (by simp only [World.size_alloc, World.size_setCell, World.size_drew] <;> omega)
  have f6_4 : x3.heap.size < x6.heap.size := by omega
  go_wp2
  go_ret
  exact ⟨rfl, by (repeat (first | with_reducible exact Below.refl _ _ | with_reducible assumption | with_reducible refine Below.drew ?_ | with_reducible refine bl_drewN ?_ | (with_reducible refine bl_alloc ?_ ?_; · (first | omega | (simp; done) | (simp; omega))) | (with_reducible refine bl_set ?_ ?_; · (first | omega | (simp; done) | (simp; omega))) | (with_reducible refine bl_trans hb6 ?_ ?_; · (first | omega | (simp; done) | (simp; omega))) | (with_reducible refine bl_trans hb5 ?_ ?_; · (first | omega | (simp; done) | (simp; omega))) | (with_reducible refine bl_trans hb4 ?_ ?_; · (first | omega | (simp; done) | (simp; omega))) | (with_reducible refine bl_trans hb3 ?_ ?_; · (first | omega | (simp; done) | (simp; omega))) | (with_reducible refine bl_trans hb2 ?_ ?_; · (first | omega | (simp; done) | (simp; omega))) | (with_reducible refine bl_trans hb1 ?_ ?_; · (first | omega | (simp; done) | (simp; omega)))))⟩

set_option maxHeartbeats 4000000 in
theorem ord_6 (a0 a1 a2 b0 b1 b2 d0 d1 d2 : Int) (w : World) {x y z x' y' z' : Int} (H1 : Hid ((Value.tuple #[(sumS ⟨0, 0, 0⟩ [⟨a0, a1, a2⟩, ⟨b0, b1, b2⟩, ⟨d0, d1, d2⟩]).1.val, .int .i64 (sumS ⟨0, 0, 0⟩ [⟨a0, a1, a2⟩, ⟨b0, b1, b2⟩, ⟨d0, d1, d2⟩]).2]) = .tuple #[rv x y z, .int .i64 6])) (H2 : Hid ((Value.tuple #[(sumS ⟨0, 0, 0⟩ [⟨d0, d1, d2⟩, ⟨a0, a1, a2⟩, ⟨b0, b1, b2⟩]).1.val, .int .i64 (sumS ⟨0, 0, 0⟩ [⟨d0, d1, d2⟩, ⟨a0, a1, a2⟩, ⟨b0, b1, b2⟩]).2]) = .tuple #[rv x' y' z', .int .i64 6])) (ra : rightB a0 a1 a2 = true) (rb : rightB b0 b1 b2 = true) (rd : rightB d0 d1 d2 = true) {p q r g : Int} (hg : addV b0 b1 b2 d0 d1 d2 1 = .tuple #[rv p q r, .int .i64 g]) :
    Calls Try.prog 6 #[rv a0 a1 a2, rv b0 b1 b2, rv d0 d1 d2] w fun e w' => e = .returned (.bool true) ∧ Below w.heap.size w w' := by
  go_enter Try.func6, Try.ntmps6
  go_wp2_with fail
  with_reducible refine awake_k (fun x1 hb1 => ?_)
  try dsimp only
  have hz1 := hb1.size; (try simp only [World.size_alloc, World.size_setCell, World.size_drew] at hz1)
  have c1_0 : ∀ o, x1.cell? ⟨w.heap.size, o, none⟩ = _ := fun o => hb1.cell (p := ⟨w.heap.size, o, none⟩) (by simp only [World.size_alloc, World.size_setCell, World.size_drew] <;> omega)
  have g1_0 : ∀ o, x1.frozen? ⟨w.heap.size, o, none⟩ = _ := fun o => hb1.frozen (p := ⟨w.heap.size, o, none⟩) (by simp only [World.size_alloc, World.size_setCell, World.size_drew] <;> omega)
  have f1_0 : w.heap.size < x1.heap.size := by omega
  have c1_1 : ∀ o, x1.cell? ⟨w.heap.size + 1, o, none⟩ = _ := fun o => hb1.cell (p := ⟨w.heap.size + 1, o, none⟩) (by simp only [World.size_alloc, World.size_setCell, World.size_drew] <;> omega)
  have g1_1 : ∀ o, x1.frozen? ⟨w.heap.size + 1, o, none⟩ = _ := fun o => hb1.frozen (p := ⟨w.heap.size + 1, o, none⟩) (by simp only [World.size_alloc, World.size_setCell, World.size_drew] <;> omega)
  have f1_1 : w.heap.size + 1 < x1.heap.size := by omega
  have c1_2 : ∀ o, x1.cell? ⟨w.heap.size + 1 + 1, o, none⟩ = _ := fun o => hb1.cell (p := ⟨w.heap.size + 1 + 1, o, none⟩) (by simp only [World.size_alloc, World.size_setCell, World.size_drew] <;> omega)
  have g1_2 : ∀ o, x1.frozen? ⟨w.heap.size + 1 + 1, o, none⟩ = _ := fun o => hb1.frozen (p := ⟨w.heap.size + 1 + 1, o, none⟩) (by simp only [World.size_alloc, World.size_setCell, World.size_drew] <;> omega)
  have f1_2 : w.heap.size + 1 + 1 < x1.heap.size := by omega
  go_wp2_with fail
  with_reducible refine sum3_k (by simp) H1 (fun x2 hb2 => ?_)
  try dsimp only
  have hz2 := hb2.size; (try simp only [World.size_alloc, World.size_setCell, World.size_drew] at hz2)
  have c2_0 : ∀ o, x2.cell? ⟨w.heap.size, o, none⟩ = _ := fun o => hb2.cell (p := ⟨w.heap.size, o, none⟩) (by simp only [World.size_alloc, World.size_setCell, World.size_drew] <;> omega)
  have g2_0 : ∀ o, x2.frozen? ⟨w.heap.size, o, none⟩ = _ := fun o => hb2.frozen (p := ⟨w.heap.size, o, none⟩) (by simp only [World.size_alloc, World.size_setCell, World.size_drew] <;> omega)
  have f2_0 : w.heap.size < x2.heap.size := by omega
  have c2_1 : ∀ o, x2.cell? ⟨w.heap.size + 1, o, none⟩ = _ := fun o => hb2.cell (p := ⟨w.heap.size + 1, o, none⟩) (by simp only [World.size_alloc, World.size_setCell, World.size_drew] <;> omega)
  have g2_1 : ∀ o, x2.frozen? ⟨w.heap.size + 1, o, none⟩ = _ := fun o => hb2.frozen (p := ⟨w.heap.size + 1, o, none⟩) (by simp only [World.size_alloc, World.size_setCell, World.size_drew] <;> omega)
  have f2_1 : w.heap.size + 1 < x2.heap.size := by omega
  have c2_2 : ∀ o, x2.cell? ⟨w.heap.size + 1 + 1, o, none⟩ = _ := fun o => hb2.cell (p := ⟨w.heap.size + 1 + 1, o, none⟩) (by simp only [World.size_alloc, World.size_setCell, World.size_drew] <;> omega)
  have g2_2 : ∀ o, x2.frozen? ⟨w.heap.size + 1 + 1, o, none⟩ = _ := fun o => hb2.frozen (p := ⟨w.heap.size + 1 + 1, o, none⟩) (by simp only [World.size_alloc, World.size_setCell, World.size_drew] <;> omega)
  have f2_2 : w.heap.size + 1 + 1 < x2.heap.size := by omega
  go_wp2_with fail
  with_reducible refine sum3_k (by simp) H2 (fun x3 hb3 => ?_)
  try dsimp only
  have hz3 := hb3.size; (try simp only [World.size_alloc, World.size_setCell, World.size_drew] at hz3)
  have c3_0 : ∀ o, x3.cell? ⟨w.heap.size, o, none⟩ = _ := fun o => hb3.cell (p := ⟨w.heap.size, o, none⟩) (by simp only [World.size_alloc, World.size_setCell, World.size_drew] <;> omega)
  have g3_0 : ∀ o, x3.frozen? ⟨w.heap.size, o, none⟩ = _ := fun o => hb3.frozen (p := ⟨w.heap.size, o, none⟩) (by simp only [World.size_alloc, World.size_setCell, World.size_drew] <;> omega)
  have f3_0 : w.heap.size < x3.heap.size := by omega
  have c3_1 : ∀ o, x3.cell? ⟨w.heap.size + 1, o, none⟩ = _ := fun o => hb3.cell (p := ⟨w.heap.size + 1, o, none⟩) (by simp only [World.size_alloc, World.size_setCell, World.size_drew] <;> omega)
  have g3_1 : ∀ o, x3.frozen? ⟨w.heap.size + 1, o, none⟩ = _ := fun o => hb3.frozen (p := ⟨w.heap.size + 1, o, none⟩) (by simp only [World.size_alloc, World.size_setCell, World.size_drew] <;> omega)
  have f3_1 : w.heap.size + 1 < x3.heap.size := by omega
  have c3_2 : ∀ o, x3.cell? ⟨w.heap.size + 1 + 1, o, none⟩ = _ := fun o => hb3.cell (p := ⟨w.heap.size + 1 + 1, o, none⟩) (by simp only [World.size_alloc, World.size_setCell, World.size_drew] <;> omega)
  have g3_2 : ∀ o, x3.frozen? ⟨w.heap.size + 1 + 1, o, none⟩ = _ := fun o => hb3.frozen (p := ⟨w.heap.size + 1 + 1, o, none⟩) (by simp only [World.size_alloc, World.size_setCell, World.size_drew] <;> omega)
  have f3_2 : w.heap.size + 1 + 1 < x3.heap.size := by omega
  have c3_3 : ∀ o, x3.cell? ⟨x2.heap.size, o, none⟩ = _ := fun o => hb3.cell (p := ⟨x2.heap.size, o, none⟩) (by simp only [World.size_alloc, World.size_setCell, World.size_drew] <;> omega)
  have g3_3 : ∀ o, x3.frozen? ⟨x2.heap.size, o, none⟩ = _ := fun o => hb3.frozen (p := ⟨x2.heap.size, o, none⟩) (by simp only [World.size_alloc, World.size_setCell, World.size_drew] <;> omega)
  have f3_3 : x2.heap.size < x3.heap.size := by omega
  go_wp2_with fail
  with_reducible refine right_k (by assumption) (fun x4 hb4 => ?_)
  try dsimp only
  have hz4 := hb4.size; (try simp only [World.size_alloc, World.size_setCell, World.size_drew] at hz4)
  have c4_0 : ∀ o, x4.cell? ⟨w.heap.size, o, none⟩ = _ := fun o => hb4.cell (p := ⟨w.heap.size, o, none⟩) (by simp only [World.size_alloc, World.size_setCell, World.size_drew] <;> omega)
  have g4_0 : ∀ o, x4.frozen? ⟨w.heap.size, o, none⟩ = _ := fun o => hb4.frozen (p := ⟨w.heap.size, o, none⟩) (by simp only [World.size_alloc, World.size_setCell, World.size_drew] <;> omega)
  have f4_0 : w.heap.size < x4.heap.size := by omega
  have c4_1 : ∀ o, x4.cell? ⟨w.heap.size + 1, o, none⟩ = _ := fun o => hb4.cell (p := ⟨w.heap.size + 1, o, none⟩) (by simp only [World.size_alloc, World.size_setCell, World.size_drew] <;> omega)
  have g4_1 : ∀ o, x4.frozen? ⟨w.heap.size + 1, o, none⟩ = _ := fun o => hb4.frozen (p := ⟨w.heap.size + 1, o, none⟩) (by simp only [World.size_alloc, World.size_setCell, World.size_drew] <;> omega)
  have f4_1 : w.heap.size + 1 < x4.heap.size := by omega
  have c4_2 : ∀ o, x4.cell? ⟨w.heap.size + 1 + 1, o, none⟩ = _ := fun o => hb4.cell (p := ⟨w.heap.size + 1 + 1, o, none⟩) (by simp only [World.size_alloc, World.size_setCell, World.size_drew] <;> omega)
  have g4_2 : ∀ o, x4.frozen? ⟨w.heap.size + 1 + 1, o, none⟩ = _ := fun o => hb4.frozen (p := ⟨w.heap.size + 1 + 1, o, none⟩) (by simp only [World.size_alloc, World.size_setCell, World.size_drew] <;> omega)
  have f4_2 : w.heap.size + 1 + 1 < x4.heap.size := by omega
  have c4_3 : ∀ o, x4.cell? ⟨x2.heap.size, o, none⟩ = _ := fun o => hb4.cell (p := ⟨x2.heap.size, o, none⟩) (by simp only [World.size_alloc, World.size_setCell, World.size_drew] <;> omega)
  have g4_3 : ∀ o, x4.frozen? ⟨x2.heap.size, o, none⟩ = _ := fun o => hb4.frozen (p := ⟨x2.heap.size, o, none⟩) (by simp only [World.size_alloc, World.size_setCell, World.size_drew] <;> omega)
  have f4_3 : x2.heap.size < x4.heap.size := by omega
  have c4_4 : ∀ o, x4.cell? ⟨x3.heap.size, o, none⟩ = _ := fun o => hb4.cell (p := ⟨x3.heap.size, o, none⟩) (by simp only [World.size_alloc, World.size_setCell, World.size_drew] <;> omega)
  have g4_4 : ∀ o, x4.frozen? ⟨x3.heap.size, o, none⟩ = _ := fun o => hb4.frozen (p := ⟨x3.heap.size, o, none⟩) (by simp only [World.size_alloc, World.size_setCell, World.size_drew] <;> omega)
  have f4_4 : x3.heap.size < x4.heap.size := by omega
  go_wp2_with fail
  with_reducible refine right_k (by assumption) (fun x5 hb5 => ?_)
  try dsimp only
  have hz5 := hb5.size; (try simp only [World.size_alloc, World.size_setCell, World.size_drew] at hz5)
  have c5_0 : ∀ o, x5.cell? ⟨w.heap.size, o, none⟩ = _ := fun o => hb5.cell (p := ⟨w.heap.size, o, none⟩) (by simp only [World.size_alloc, World.size_setCell, World.size_drew] <;> omega)
  have g5_0 : ∀ o, x5.frozen? ⟨w.heap.size, o, none⟩ = _ := fun o => hb5.frozen (p := ⟨w.heap.size, o, none⟩) (by simp only [World.size_alloc, World.size_setCell, World.size_drew] <;> omega)
  have f5_0 : w.heap.size < x5.heap.size := by omega
  have c5_1 : ∀ o, x5.cell? ⟨w.heap.size + 1, o, none⟩ = _ := fun o => hb5.cell (p := ⟨w.heap.size + 1, o, none⟩) (by simp only [World.size_alloc, World.size_setCell, World.size_drew] <;> omega)
  have g5_1 : ∀ o, x5.frozen? ⟨w.heap.size + 1, o, none⟩ = _ := fun o => hb5.frozen (p := ⟨w.heap.size + 1, o, none⟩) (by simp only [World.size_alloc, World.size_setCell, World.size_drew] <;> omega)
  have f5_1 : w.heap.size + 1 < x5.heap.size := by omega
  have c5_2 : ∀ o, x5.cell? ⟨w.heap.size + 1 + 1, o, none⟩ = _ := fun o => hb5.cell (p := ⟨w.heap.size + 1 + 1, o, none⟩) (by simp only [World.size_alloc, World.size_setCell, World.size_drew] <;> omega)
  have g5_2 : ∀ o, x5.frozen? ⟨w.heap.size + 1 + 1, o, none⟩ = _ := fun o => hb5.frozen (p := ⟨w.heap.size + 1 + 1, o, none⟩) (by simp only [World.size_alloc, World.size_setCell, World.size_drew] <;> omega)
  have f5_2 : w.heap.size + 1 + 1 < x5.heap.size := by omega
  have c5_3 : ∀ o, x5.cell? ⟨x2.heap.size, o, none⟩ = _ := fun o => hb5.cell (p := ⟨x2.heap.size, o, none⟩) (by simp only [World.size_alloc, World.size_setCell, World.size_drew] <;> omega)
  have g5_3 : ∀ o, x5.frozen? ⟨x2.heap.size, o, none⟩ = _ := fun o => hb5.frozen (p := ⟨x2.heap.size, o, none⟩) (by simp only [World.size_alloc, World.size_setCell, World.size_drew] <;> omega)
  have f5_3 : x2.heap.size < x5.heap.size := by omega
  have c5_4 : ∀ o, x5.cell? ⟨x3.heap.size, o, none⟩ = _ := fun o => hb5.cell (p := ⟨x3.heap.size, o, none⟩) (by simp only [World.size_alloc, World.size_setCell, World.size_drew] <;> omega)
  have g5_4 : ∀ o, x5.frozen? ⟨x3.heap.size, o, none⟩ = _ := fun o => hb5.frozen (p := ⟨x3.heap.size, o, none⟩) (by simp only [World.size_alloc, World.size_setCell, World.size_drew] <;> omega)
  have f5_4 : x3.heap.size < x5.heap.size := by omega
  go_wp2_with fail
  with_reducible refine right_k (by assumption) (fun x6 hb6 => ?_)
  try dsimp only
  have hz6 := hb6.size; (try simp only [World.size_alloc, World.size_setCell, World.size_drew] at hz6)
  have c6_0 : ∀ o, x6.cell? ⟨w.heap.size, o, none⟩ = _ := fun o => hb6.cell (p := ⟨w.heap.size, o, none⟩) (by simp only [World.size_alloc, World.size_setCell, World.size_drew] <;> omega)
  have g6_0 : ∀ o, x6.frozen? ⟨w.heap.size, o, none⟩ = _ := fun o => hb6.frozen (p := ⟨w.heap.size, o, none⟩) (by simp only [World.size_alloc, World.size_setCell, World.size_drew] <;> omega)
  have f6_0 : w.heap.size < x6.heap.size := by omega
  have c6_1 : ∀ o, x6.cell? ⟨w.heap.size + 1, o, none⟩ = _ := fun o => hb6.cell (p := ⟨w.heap.size + 1, o, none⟩) (by simp only [World.size_alloc, World.size_setCell, World.size_drew] <;> omega)
  have g6_1 : ∀ o, x6.frozen? ⟨w.heap.size + 1, o, none⟩ = _ := fun o => hb6.frozen (p := ⟨w.heap.size + 1, o, none⟩) (by simp only [World.size_alloc, World.size_setCell, World.size_drew] <;> omega)
  have f6_1 : w.heap.size + 1 < x6.heap.size := by omega
  have c6_2 : ∀ o, x6.cell? ⟨w.heap.size + 1 + 1, o, none⟩ = _ := fun o => hb6.cell (p := ⟨w.heap.size + 1 + 1, o, none⟩) (by simp only [World.size_alloc, World.size_setCell, World.size_drew] <;> omega)
  have g6_2 : ∀ o, x6.frozen? ⟨w.heap.size + 1 + 1, o, none⟩ = _ := fun o => hb6.frozen (p := ⟨w.heap.size + 1 + 1, o, none⟩) (by simp only [World.size_alloc, World.size_setCell, World.size_drew] <;> omega)
  have f6_2 : w.heap.size + 1 + 1 < x6.heap.size := by omega
  have c6_3 : ∀ o, x6.cell? ⟨x2.heap.size, o, none⟩ = _ := fun o => hb6.cell (p := ⟨x2.heap.size, o, none⟩) (by simp only [World.size_alloc, World.size_setCell, World.size_drew] <;> omega)
  have g6_3 : ∀ o, x6.frozen? ⟨x2.heap.size, o, none⟩ = _ := fun o => hb6.frozen (p := ⟨x2.heap.size, o, none⟩) (by simp only [World.size_alloc, World.size_setCell, World.size_drew] <;> omega)
  have f6_3 : x2.heap.size < x6.heap.size := by omega
  have c6_4 : ∀ o, x6.cell? ⟨x3.heap.size, o, none⟩ = _ := fun o => hb6.cell (p := ⟨x3.heap.size, o, none⟩) (by simp only [World.size_alloc, World.size_setCell, World.size_drew] <;> omega)
  have g6_4 : ∀ o, x6.frozen? ⟨x3.heap.size, o, none⟩ = _ := fun o => hb6.frozen (p := ⟨x3.heap.size, o, none⟩) (by simp only [World.size_alloc, World.size_setCell, World.size_drew] <;> omega)
  have f6_4 : x3.heap.size < x6.heap.size := by omega
  go_wp2_with fail
  with_reducible refine add_k (by assumption) (fun x7 hb7 => ?_)
  try dsimp only
  have hz7 := hb7.size; (try simp only [World.size_alloc, World.size_setCell, World.size_drew] at hz7)
  have c7_0 : ∀ o, x7.cell? ⟨w.heap.size, o, none⟩ = _ := fun o => hb7.cell (p := ⟨w.heap.size, o, none⟩) (by simp only [World.size_alloc, World.size_setCell, World.size_drew] <;> omega)
  have g7_0 : ∀ o, x7.frozen? ⟨w.heap.size, o, none⟩ = _ := fun o => hb7.frozen (p := ⟨w.heap.size, o, none⟩) (by simp only [World.size_alloc, World.size_setCell, World.size_drew] <;> omega)
  have f7_0 : w.heap.size < x7.heap.size := by omega
  have c7_1 : ∀ o, x7.cell? ⟨w.heap.size + 1, o, none⟩ = _ := fun o => hb7.cell (p := ⟨w.heap.size + 1, o, none⟩) (by simp only [World.size_alloc, World.size_setCell, World.size_drew] <;> omega)
  have g7_1 : ∀ o, x7.frozen? ⟨w.heap.size + 1, o, none⟩ = _ := fun o => hb7.frozen (p := ⟨w.heap.size + 1, o, none⟩) (by simp only [World.size_alloc, World.size_setCell, World.size_drew] <;> omega)
  have f7_1 : w.heap.size + 1 < x7.heap.size := by omega
  have c7_2 : ∀ o, x7.cell? ⟨w.heap.size + 1 + 1, o, none⟩ = _ := fun o => hb7.cell (p := ⟨w.heap.size + 1 + 1, o, none⟩) (by simp only [World.size_alloc, World.size_setCell, World.size_drew] <;> omega)
  have g7_2 : ∀ o, x7.frozen? ⟨w.heap.size + 1 + 1, o, none⟩ = _ := fun o => hb7.frozen (p := ⟨w.heap.size + 1 + 1, o, none⟩) (by simp only [World.size_alloc, World.size_setCell, World.size_drew] <;> omega)
  have f7_2 : w.heap.size + 1 + 1 < x7.heap.size := by omega
  have c7_3 : ∀ o, x7.cell? ⟨x2.heap.size, o, none⟩ = _ := fun o => hb7.cell (p := ⟨x2.heap.size, o, none⟩) (by simp only [World.size_alloc, World.size_setCell, World.size_drew] <;> omega)
  have g7_3 : ∀ o, x7.frozen? ⟨x2.heap.size, o, none⟩ = _ := fun o => hb7.frozen (p := ⟨x2.heap.size, o, none⟩) (by simp only [World.size_alloc, World.size_setCell, World.size_drew] <;> omega)
  have f7_3 : x2.heap.size < x7.heap.size := by omega
  have c7_4 : ∀ o, x7.cell? ⟨x3.heap.size, o, none⟩ = _ := fun o => hb7.cell (p := ⟨x3.heap.size, o, none⟩) (by simp only [World.size_alloc, World.size_setCell, World.size_drew] <;> omega)
  have g7_4 : ∀ o, x7.frozen? ⟨x3.heap.size, o, none⟩ = _ := fun o => hb7.frozen (p := ⟨x3.heap.size, o, none⟩) (by simp only [World.size_alloc, World.size_setCell, World.size_drew] <;> omega)
  have f7_4 : x3.heap.size < x7.heap.size := by omega
  go_wp2
  go_ret
  exact ⟨rfl, by (repeat (first | with_reducible exact Below.refl _ _ | with_reducible assumption | with_reducible refine Below.drew ?_ | with_reducible refine bl_drewN ?_ | (with_reducible refine bl_alloc ?_ ?_; · (first | omega | (simp; done) | (simp; omega))) | (with_reducible refine bl_set ?_ ?_; · (first | omega | (simp; done) | (simp; omega))) | (with_reducible refine bl_trans hb7 ?_ ?_; · (first | omega | (simp; done) | (simp; omega))) | (with_reducible refine bl_trans hb6 ?_ ?_; · (first | omega | (simp; done) | (simp; omega))) | (with_reducible refine bl_trans hb5 ?_ ?_; · (first | omega | (simp; done) | (simp; omega))) | (with_reducible refine bl_trans hb4 ?_ ?_; · (first | omega | (simp; done) | (simp; omega))) | (with_reducible refine bl_trans hb3 ?_ ?_; · (first | omega | (simp; done) | (simp; omega))) | (with_reducible refine bl_trans hb2 ?_ ?_; · (first | omega | (simp; done) | (simp; omega))) | (with_reducible refine bl_trans hb1 ?_ ?_; · (first | omega | (simp; done) | (simp; omega)))))⟩

set_option maxHeartbeats 4000000 in
theorem ord_0 (a0 a1 a2 b0 b1 b2 d0 d1 d2 : Int) (w : World) {x y z : Int} (H1 : Hid ((Value.tuple #[(sumS ⟨0, 0, 0⟩ [⟨a0, a1, a2⟩, ⟨b0, b1, b2⟩, ⟨d0, d1, d2⟩]).1.val, .int .i64 (sumS ⟨0, 0, 0⟩ [⟨a0, a1, a2⟩, ⟨b0, b1, b2⟩, ⟨d0, d1, d2⟩]).2]) = .tuple #[rv x y z, .int .i64 0])) (H2 : Hid ((Value.tuple #[(sumS ⟨0, 0, 0⟩ [⟨d0, d1, d2⟩, ⟨a0, a1, a2⟩, ⟨b0, b1, b2⟩]).1.val, .int .i64 (sumS ⟨0, 0, 0⟩ [⟨d0, d1, d2⟩, ⟨a0, a1, a2⟩, ⟨b0, b1, b2⟩]).2]) = .tuple #[rv x y z, .int .i64 0])) (ra : rightB a0 a1 a2 = true) (rb : rightB b0 b1 b2 = true) (rd : rightB d0 d1 d2 = true) {p q r : Int} (hg : addV b0 b1 b2 d0 d1 d2 1 = .tuple #[rv p q r, .int .i64 0]) (hh : addV a0 a1 a2 p q r 1 = .tuple #[rv x y z, .int .i64 0]) :
    Calls Try.prog 6 #[rv a0 a1 a2, rv b0 b1 b2, rv d0 d1 d2] w fun e w' => e = .returned (.bool true) ∧ Below w.heap.size w w' := by
  have e1 := eq3 x y z x y z
  simp only [beq_self_eq_true, Bool.and_self] at e1
  go_enter Try.func6, Try.ntmps6
  go_wp2_with fail
  with_reducible refine awake_k (fun x1 hb1 => ?_)
  try dsimp only
  have hz1 := hb1.size; (try simp only [World.size_alloc, World.size_setCell, World.size_drew] at hz1)
  have c1_0 : ∀ o, x1.cell? ⟨w.heap.size, o, none⟩ = _ := fun o => hb1.cell (p := ⟨w.heap.size, o, none⟩) (by simp only [World.size_alloc, World.size_setCell, World.size_drew] <;> omega)
  have g1_0 : ∀ o, x1.frozen? ⟨w.heap.size, o, none⟩ = _ := fun o => hb1.frozen (p := ⟨w.heap.size, o, none⟩) (by simp only [World.size_alloc, World.size_setCell, World.size_drew] <;> omega)
  have f1_0 : w.heap.size < x1.heap.size := by omega
  have c1_1 : ∀ o, x1.cell? ⟨w.heap.size + 1, o, none⟩ = _ := fun o => hb1.cell (p := ⟨w.heap.size + 1, o, none⟩) (by simp only [World.size_alloc, World.size_setCell, World.size_drew] <;> omega)
  have g1_1 : ∀ o, x1.frozen? ⟨w.heap.size + 1, o, none⟩ = _ := fun o => hb1.frozen (p := ⟨w.heap.size + 1, o, none⟩) (by simp only [World.size_alloc, World.size_setCell, World.size_drew] <;> omega)
  have f1_1 : w.heap.size + 1 < x1.heap.size := by omega
  have c1_2 : ∀ o, x1.cell? ⟨w.heap.size + 1 + 1, o, none⟩ = _ := fun o => hb1.cell (p := ⟨w.heap.size + 1 + 1, o, none⟩) (by simp only [World.size_alloc, World.size_setCell, World.size_drew] <;> omega)
  have g1_2 : ∀ o, x1.frozen? ⟨w.heap.size + 1 + 1, o, none⟩ = _ := fun o => hb1.frozen (p := ⟨w.heap.size + 1 + 1, o, none⟩) (by simp only [World.size_alloc, World.size_setCell, World.size_drew] <;> omega)
  have f1_2 : w.heap.size + 1 + 1 < x1.heap.size := by omega
  go_wp2_with fail
  with_reducible refine sum3_k (by simp) H1 (fun x2 hb2 => ?_)
  try dsimp only
  have hz2 := hb2.size; (try simp only [World.size_alloc, World.size_setCell, World.size_drew] at hz2)
  have c2_0 : ∀ o, x2.cell? ⟨w.heap.size, o, none⟩ = _ := fun o => hb2.cell (p := ⟨w.heap.size, o, none⟩) (by simp only [World.size_alloc, World.size_setCell, World.size_drew] <;> omega)
  have g2_0 : ∀ o, x2.frozen? ⟨w.heap.size, o, none⟩ = _ := fun o => hb2.frozen (p := ⟨w.heap.size, o, none⟩) (by simp only [World.size_alloc, World.size_setCell, World.size_drew] <;> omega)
  have f2_0 : w.heap.size < x2.heap.size := by omega
  have c2_1 : ∀ o, x2.cell? ⟨w.heap.size + 1, o, none⟩ = _ := fun o => hb2.cell (p := ⟨w.heap.size + 1, o, none⟩) (by simp only [World.size_alloc, World.size_setCell, World.size_drew] <;> omega)
  have g2_1 : ∀ o, x2.frozen? ⟨w.heap.size + 1, o, none⟩ = _ := fun o => hb2.frozen (p := ⟨w.heap.size + 1, o, none⟩) (by simp only [World.size_alloc, World.size_setCell, World.size_drew] <;> omega)
  have f2_1 : w.heap.size + 1 < x2.heap.size := by omega
  have c2_2 : ∀ o, x2.cell? ⟨w.heap.size + 1 + 1, o, none⟩ = _ := fun o => hb2.cell (p := ⟨w.heap.size + 1 + 1, o, none⟩) (by simp only [World.size_alloc, World.size_setCell, World.size_drew] <;> omega)
  have g2_2 : ∀ o, x2.frozen? ⟨w.heap.size + 1 + 1, o, none⟩ = _ := fun o => hb2.frozen (p := ⟨w.heap.size + 1 + 1, o, none⟩) (by simp only [World.size_alloc, World.size_setCell, World.size_drew] <;> omega)
  have f2_2 : w.heap.size + 1 + 1 < x2.heap.size := by omega
  go_wp2_with fail
  with_reducible refine sum3_k (by simp) H2 (fun x3 hb3 => ?_)
  try dsimp only
  have hz3 := hb3.size; (try simp only [World.size_alloc, World.size_setCell, World.size_drew] at hz3)
  have c3_0 : ∀ o, x3.cell? ⟨w.heap.size, o, none⟩ = _ := fun o => hb3.cell (p := ⟨w.heap.size, o, none⟩) (by simp only [World.size_alloc, World.size_setCell, World.size_drew] <;> omega)
  have g3_0 : ∀ o, x3.frozen? ⟨w.heap.size, o, none⟩ = _ := fun o => hb3.frozen (p := ⟨w.heap.size, o, none⟩) (by simp only [World.size_alloc, World.size_setCell, World.size_drew] <;> omega)
  have f3_0 : w.heap.size < x3.heap.size := by omega
  have c3_1 : ∀ o, x3.cell? ⟨w.heap.size + 1, o, none⟩ = _ := fun o => hb3.cell (p := ⟨w.heap.size + 1, o, none⟩) (by simp only [World.size_alloc, World.size_setCell, World.size_drew] <;> omega)
  have g3_1 : ∀ o, x3.frozen? ⟨w.heap.size + 1, o, none⟩ = _ := fun o => hb3.frozen (p := ⟨w.heap.size + 1, o, none⟩) (by simp only [World.size_alloc, World.size_setCell, World.size_drew] <;> omega)
  have f3_1 : w.heap.size + 1 < x3.heap.size := by omega
  have c3_2 : ∀ o, x3.cell? ⟨w.heap.size + 1 + 1, o, none⟩ = _ := fun o => hb3.cell (p := ⟨w.heap.size + 1 + 1, o, none⟩) (by simp only [World.size_alloc, World.size_setCell, World.size_drew] <;> omega)
  have g3_2 : ∀ o, x3.frozen? ⟨w.heap.size + 1 + 1, o, none⟩ = _ := fun o => hb3.frozen (p := ⟨w.heap.size + 1 + 1, o, none⟩) (by simp only [World.size_alloc, World.size_setCell, World.size_drew] <;> omega)
  have f3_2 : w.heap.size + 1 + 1 < x3.heap.size := by omega
  have c3_3 : ∀ o, x3.cell? ⟨x2.heap.size, o, none⟩ = _ := fun o => hb3.cell (p := ⟨x2.heap.size, o, none⟩) (by simp only [World.size_alloc, World.size_setCell, World.size_drew] <;> omega)
  have g3_3 : ∀ o, x3.frozen? ⟨x2.heap.size, o, none⟩ = _ := fun o => hb3.frozen (p := ⟨x2.heap.size, o, none⟩) (by simp only [World.size_alloc, World.size_setCell, World.size_drew] <;> omega)
  have f3_3 : x2.heap.size < x3.heap.size := by omega
  go_wp2_with fail
  with_reducible refine right_k (by assumption) (fun x4 hb4 => ?_)
  try dsimp only
  have hz4 := hb4.size; (try simp only [World.size_alloc, World.size_setCell, World.size_drew] at hz4)
  have c4_0 : ∀ o, x4.cell? ⟨w.heap.size, o, none⟩ = _ := fun o => hb4.cell (p := ⟨w.heap.size, o, none⟩) (by simp only [World.size_alloc, World.size_setCell, World.size_drew] <;> omega)
  have g4_0 : ∀ o, x4.frozen? ⟨w.heap.size, o, none⟩ = _ := fun o => hb4.frozen (p := ⟨w.heap.size, o, none⟩) (by simp only [World.size_alloc, World.size_setCell, World.size_drew] <;> omega)
  have f4_0 : w.heap.size < x4.heap.size := by omega
  have c4_1 : ∀ o, x4.cell? ⟨w.heap.size + 1, o, none⟩ = _ := fun o => hb4.cell (p := ⟨w.heap.size + 1, o, none⟩) (by simp only [World.size_alloc, World.size_setCell, World.size_drew] <;> omega)
  have g4_1 : ∀ o, x4.frozen? ⟨w.heap.size + 1, o, none⟩ = _ := fun o => hb4.frozen (p := ⟨w.heap.size + 1, o, none⟩) (by simp only [World.size_alloc, World.size_setCell, World.size_drew] <;> omega)
  have f4_1 : w.heap.size + 1 < x4.heap.size := by omega
  have c4_2 : ∀ o, x4.cell? ⟨w.heap.size + 1 + 1, o, none⟩ = _ := fun o => hb4.cell (p := ⟨w.heap.size + 1 + 1, o, none⟩) (by simp only [World.size_alloc, World.size_setCell, World.size_drew] <;> omega)
  have g4_2 : ∀ o, x4.frozen? ⟨w.heap.size + 1 + 1, o, none⟩ = _ := fun o => hb4.frozen (p := ⟨w.heap.size + 1 + 1, o, none⟩) (by simp only [World.size_alloc, World.size_setCell, World.size_drew] <;> omega)
  have f4_2 : w.heap.size + 1 + 1 < x4.heap.size := by omega
  have c4_3 : ∀ o, x4.cell? ⟨x2.heap.size, o, none⟩ = _ := fun o => hb4.cell (p := ⟨x2.heap.size, o, none⟩) (by simp only [World.size_alloc, World.size_setCell, World.size_drew] <;> omega)
  have g4_3 : ∀ o, x4.frozen? ⟨x2.heap.size, o, none⟩ = _ := fun o => hb4.frozen (p := ⟨x2.heap.size, o, none⟩) (by simp only [World.size_alloc, World.size_setCell, World.size_drew] <;> omega)
  have f4_3 : x2.heap.size < x4.heap.size := by omega
  have c4_4 : ∀ o, x4.cell? ⟨x3.heap.size, o, none⟩ = _ := fun o => hb4.cell (p := ⟨x3.heap.size, o, none⟩) (by simp only [World.size_alloc, World.size_setCell, World.size_drew] <;> omega)
  have g4_4 : ∀ o, x4.frozen? ⟨x3.heap.size, o, none⟩ = _ := fun o => hb4.frozen (p := ⟨x3.heap.size, o, none⟩) (by simp only [World.size_alloc, World.size_setCell, World.size_drew] <;> omega)
  have f4_4 : x3.heap.size < x4.heap.size := by omega
  go_wp2_with fail
  with_reducible refine right_k (by assumption) (fun x5 hb5 => ?_)
  try dsimp only
  have hz5 := hb5.size; (try simp only [World.size_alloc, World.size_setCell, World.size_drew] at hz5)
  have c5_0 : ∀ o, x5.cell? ⟨w.heap.size, o, none⟩ = _ := fun o => hb5.cell (p := ⟨w.heap.size, o, none⟩) (by simp only [World.size_alloc, World.size_setCell, World.size_drew] <;> omega)
  have g5_0 : ∀ o, x5.frozen? ⟨w.heap.size, o, none⟩ = _ := fun o => hb5.frozen (p := ⟨w.heap.size, o, none⟩) (by simp only [World.size_alloc, World.size_setCell, World.size_drew] <;> omega)
  have f5_0 : w.heap.size < x5.heap.size := by omega
  have c5_1 : ∀ o, x5.cell? ⟨w.heap.size + 1, o, none⟩ = _ := fun o => hb5.cell (p := ⟨w.heap.size + 1, o, none⟩) (by simp only [World.size_alloc, World.size_setCell, World.size_drew] <;> omega)
  have g5_1 : ∀ o, x5.frozen? ⟨w.heap.size + 1, o, none⟩ = _ := fun o => hb5.frozen (p := ⟨w.heap.size + 1, o, none⟩) (by simp only [World.size_alloc, World.size_setCell, World.size_drew] <;> omega)
  have f5_1 : w.heap.size + 1 < x5.heap.size := by omega
  have c5_2 : ∀ o, x5.cell? ⟨w.heap.size + 1 + 1, o, none⟩ = _ := fun o => hb5.cell (p := ⟨w.heap.size + 1 + 1, o, none⟩) (by simp only [World.size_alloc, World.size_setCell, World.size_drew] <;> omega)
  have g5_2 : ∀ o, x5.frozen? ⟨w.heap.size + 1 + 1, o, none⟩ = _ := fun o => hb5.frozen (p := ⟨w.heap.size + 1 + 1, o, none⟩) (by simp only [World.size_alloc, World.size_setCell, World.size_drew] <;> omega)
  have f5_2 : w.heap.size + 1 + 1 < x5.heap.size := by omega
  have c5_3 : ∀ o, x5.cell? ⟨x2.heap.size, o, none⟩ = _ := fun o => hb5.cell (p := ⟨x2.heap.size, o, none⟩) (by simp only [World.size_alloc, World.size_setCell, World.size_drew] <;> omega)
  have g5_3 : ∀ o, x5.frozen? ⟨x2.heap.size, o, none⟩ = _ := fun o => hb5.frozen (p := ⟨x2.heap.size, o, none⟩) (by simp only [World.size_alloc, World.size_setCell, World.size_drew] <;> omega)
  have f5_3 : x2.heap.size < x5.heap.size := by omega
  have c5_4 : ∀ o, x5.cell? ⟨x3.heap.size, o, none⟩ = _ := fun o => hb5.cell (p := ⟨x3.heap.size, o, none⟩) (by simp only [World.size_alloc, World.size_setCell, World.size_drew] <;> omega)
  have g5_4 : ∀ o, x5.frozen? ⟨x3.heap.size, o, none⟩ = _ := fun o => hb5.frozen (p := ⟨x3.heap.size, o, none⟩) (by simp only [World.size_alloc, World.size_setCell, World.size_drew] <;> omega)
  have f5_4 : x3.heap.size < x5.heap.size := by omega
  go_wp2_with fail
  with_reducible refine right_k (by assumption) (fun x6 hb6 => ?_)
  try dsimp only
  have hz6 := hb6.size; (try simp only [World.size_alloc, World.size_setCell, World.size_drew] at hz6)
  have c6_0 : ∀ o, x6.cell? ⟨w.heap.size, o, none⟩ = _ := fun o => hb6.cell (p := ⟨w.heap.size, o, none⟩) (by simp only [World.size_alloc, World.size_setCell, World.size_drew] <;> omega)
  have g6_0 : ∀ o, x6.frozen? ⟨w.heap.size, o, none⟩ = _ := fun o => hb6.frozen (p := ⟨w.heap.size, o, none⟩) (by simp only [World.size_alloc, World.size_setCell, World.size_drew] <;> omega)
  have f6_0 : w.heap.size < x6.heap.size := by omega
  have c6_1 : ∀ o, x6.cell? ⟨w.heap.size + 1, o, none⟩ = _ := fun o => hb6.cell (p := ⟨w.heap.size + 1, o, none⟩) (by simp only [World.size_alloc, World.size_setCell, World.size_drew] <;> omega)
  have g6_1 : ∀ o, x6.frozen? ⟨w.heap.size + 1, o, none⟩ = _ := fun o => hb6.frozen (p := ⟨w.heap.size + 1, o, none⟩) (by simp only [World.size_alloc, World.size_setCell, World.size_drew] <;> omega)
  have f6_1 : w.heap.size + 1 < x6.heap.size := by omega
  have c6_2 : ∀ o, x6.cell? ⟨w.heap.size + 1 + 1, o, none⟩ = _ := fun o => hb6.cell (p := ⟨w.heap.size + 1 + 1, o, none⟩) (by simp only [World.size_alloc, World.size_setCell, World.size_drew] <;> omega)
  have g6_2 : ∀ o, x6.frozen? ⟨w.heap.size + 1 + 1, o, none⟩ = _ := fun o => hb6.frozen (p := ⟨w.heap.size + 1 + 1, o, none⟩) (by simp only [World.size_alloc, World.size_setCell, World.size_drew] <;> omega)
  have f6_2 : w.heap.size + 1 + 1 < x6.heap.size := by omega
  have c6_3 : ∀ o, x6.cell? ⟨x2.heap.size, o, none⟩ = _ := fun o => hb6.cell (p := ⟨x2.heap.size, o, none⟩) (by simp only [World.size_alloc, World.size_setCell, World.size_drew] <;> omega)
  have g6_3 : ∀ o, x6.frozen? ⟨x2.heap.size, o, none⟩ = _ := fun o => hb6.frozen (p := ⟨x2.heap.size, o, none⟩) (by simp only [World.size_alloc, World.size_setCell, World.size_drew] <;> omega)
  have f6_3 : x2.heap.size < x6.heap.size := by omega
  have c6_4 : ∀ o, x6.cell? ⟨x3.heap.size, o, none⟩ = _ := fun o => hb6.cell (p := ⟨x3.heap.size, o, none⟩) (by simp only [World.size_alloc, World.size_setCell, World.size_drew] <;> omega)
  have g6_4 : ∀ o, x6.frozen? ⟨x3.heap.size, o, none⟩ = _ := fun o => hb6.frozen (p := ⟨x3.heap.size, o, none⟩) (by simp only [World.size_alloc, World.size_setCell, World.size_drew] <;> omega)
  have f6_4 : x3.heap.size < x6.heap.size := by omega
  go_wp2_with fail
  with_reducible refine add_k (by assumption) (fun x7 hb7 => ?_)
  try dsimp only
  have hz7 := hb7.size; (try simp only [World.size_alloc, World.size_setCell, World.size_drew] at hz7)
  have c7_0 : ∀ o, x7.cell? ⟨w.heap.size, o, none⟩ = _ := fun o => hb7.cell (p := ⟨w.heap.size, o, none⟩) (by simp only [World.size_alloc, World.size_setCell, World.size_drew] <;> omega)
  have g7_0 : ∀ o, x7.frozen? ⟨w.heap.size, o, none⟩ = _ := fun o => hb7.frozen (p := ⟨w.heap.size, o, none⟩) (by simp only [World.size_alloc, World.size_setCell, World.size_drew] <;> omega)
  have f7_0 : w.heap.size < x7.heap.size := by omega
  have c7_1 : ∀ o, x7.cell? ⟨w.heap.size + 1, o, none⟩ = _ := fun o => hb7.cell (p := ⟨w.heap.size + 1, o, none⟩) (by simp only [World.size_alloc, World.size_setCell, World.size_drew] <;> omega)
  have g7_1 : ∀ o, x7.frozen? ⟨w.heap.size + 1, o, none⟩ = _ := fun o => hb7.frozen (p := ⟨w.heap.size + 1, o, none⟩) (by simp only [World.size_alloc, World.size_setCell, World.size_drew] <;> omega)
  have f7_1 : w.heap.size + 1 < x7.heap.size := by omega
  have c7_2 : ∀ o, x7.cell? ⟨w.heap.size + 1 + 1, o, none⟩ = _ := fun o => hb7.cell (p := ⟨w.heap.size + 1 + 1, o, none⟩) (by simp only [World.size_alloc, World.size_setCell, World.size_drew] <;> omega)
  have g7_2 : ∀ o, x7.frozen? ⟨w.heap.size + 1 + 1, o, none⟩ = _ := fun o => hb7.frozen (p := ⟨w.heap.size + 1 + 1, o, none⟩) (by simp only [World.size_alloc, World.size_setCell, World.size_drew] <;> omega)
  have f7_2 : w.heap.size + 1 + 1 < x7.heap.size := by omega
  have c7_3 : ∀ o, x7.cell? ⟨x2.heap.size, o, none⟩ = _ := fun o => hb7.cell (p := ⟨x2.heap.size, o, none⟩) (by simp only [World.size_alloc, World.size_setCell, World.size_drew] <;> omega)
  have g7_3 : ∀ o, x7.frozen? ⟨x2.heap.size, o, none⟩ = _ := fun o => hb7.frozen (p := ⟨x2.heap.size, o, none⟩) (by simp only [World.size_alloc, World.size_setCell, World.size_drew] <;> omega)
  have f7_3 : x2.heap.size < x7.heap.size := by omega
  have c7_4 : ∀ o, x7.cell? ⟨x3.heap.size, o, none⟩ = _ := fun o => hb7.cell (p := ⟨x3.heap.size, o, none⟩) (by simp only [World.size_alloc, World.size_setCell, World.size_drew] <;> omega)
  have g7_4 : ∀ o, x7.frozen? ⟨x3.heap.size, o, none⟩ = _ := fun o => hb7.frozen (p := ⟨x3.heap.size, o, none⟩) (by simp only [World.size_alloc, World.size_setCell, World.size_drew] <;> omega)
  have f7_4 : x3.heap.size < x7.heap.size := by omega
  go_wp2_with fail
  with_reducible refine add_k (by assumption) (fun x8 hb8 => ?_)
  try dsimp only
  have hz8 := hb8.size; (try simp only [World.size_alloc, World.size_setCell, World.size_drew] at hz8)
  have c8_0 : ∀ o, x8.cell? ⟨w.heap.size, o, none⟩ = _ := fun o => hb8.cell (p := ⟨w.heap.size, o, none⟩) (by simp only [World.size_alloc, World.size_setCell, World.size_drew] <;> omega)
  have g8_0 : ∀ o, x8.frozen? ⟨w.heap.size, o, none⟩ = _ := fun o => hb8.frozen (p := ⟨w.heap.size, o, none⟩) (by simp only [World.size_alloc, World.size_setCell, World.size_drew] <;> omega)
  have f8_0 : w.heap.size < x8.heap.size := by omega
  have c8_1 : ∀ o, x8.cell? ⟨w.heap.size + 1, o, none⟩ = _ := fun o => hb8.cell (p := ⟨w.heap.size + 1, o, none⟩) (by simp only [World.size_alloc, World.size_setCell, World.size_drew] <;> omega)
  have g8_1 : ∀ o, x8.frozen? ⟨w.heap.size + 1, o, none⟩ = _ := fun o => hb8.frozen (p := ⟨w.heap.size + 1, o, none⟩) (by simp only [World.size_alloc, World.size_setCell, World.size_drew] <;> omega)
  have f8_1 : w.heap.size + 1 < x8.heap.size := by omega
  have c8_2 : ∀ o, x8.cell? ⟨w.heap.size + 1 + 1, o, none⟩ = _ := fun o => hb8.cell (p := ⟨w.heap.size + 1 + 1, o, none⟩) (by simp only [World.size_alloc, World.size_setCell, World.size_drew] <;> omega)
  have g8_2 : ∀ o, x8.frozen? ⟨w.heap.size + 1 + 1, o, none⟩ = _ := fun o => hb8.frozen (p := ⟨w.heap.size + 1 + 1, o, none⟩) (by simp only [World.size_alloc, World.size_setCell, World.size_drew] <;> omega)
  have f8_2 : w.heap.size + 1 + 1 < x8.heap.size := by omega
  have c8_3 : ∀ o, x8.cell? ⟨x2.heap.size, o, none⟩ = _ := fun o => hb8.cell (p := ⟨x2.heap.size, o, none⟩) (by simp only [World.size_alloc, World.size_setCell, World.size_drew] <;> omega)
  have g8_3 : ∀ o, x8.frozen? ⟨x2.heap.size, o, none⟩ = _ := fun o => hb8.frozen (p := ⟨x2.heap.size, o, none⟩) (by simp only [World.size_alloc, World.size_setCell, World.size_drew] <;> omega)
  have f8_3 : x2.heap.size < x8.heap.size := by omega
  have c8_4 : ∀ o, x8.cell? ⟨x3.heap.size, o, none⟩ = _ := fun o => hb8.cell (p := ⟨x3.heap.size, o, none⟩) (by simp only [World.size_alloc, World.size_setCell, World.size_drew] <;> omega)
  have g8_4 : ∀ o, x8.frozen? ⟨x3.heap.size, o, none⟩ = _ := fun o => hb8.frozen (p := ⟨x3.heap.size, o, none⟩) (by simp only [World.size_alloc, World.size_setCell, World.size_drew] <;> omega)
  have f8_4 : x3.heap.size < x8.heap.size := by omega
  have c8_5 : ∀ o, x8.cell? ⟨x7.heap.size, o, none⟩ = _ := fun o => hb8.cell (p := ⟨x7.heap.size, o, none⟩) (by simp only [World.size_alloc, World.size_setCell, World.size_drew] <;> omega)
  have g8_5 : ∀ o, x8.frozen? ⟨x7.heap.size, o, none⟩ = _ := fun o => hb8.frozen (p := ⟨x7.heap.size, o, none⟩) (by simp only [World.size_alloc, World.size_setCell, World.size_drew] <;> omega)
  have f8_5 : x7.heap.size < x8.heap.size := by omega
  go_wp2
  go_ret
  exact ⟨rfl, by (repeat (first | with_reducible exact Below.refl _ _ | with_reducible assumption | with_reducible refine Below.drew ?_ | with_reducible refine bl_drewN ?_ | (with_reducible refine bl_alloc ?_ ?_; · (first | omega | (simp; done) | (simp; omega))) | (with_reducible refine bl_set ?_ ?_; · (first | omega | (simp; done) | (simp; omega))) | (with_reducible refine bl_trans hb8 ?_ ?_; · (first | omega | (simp; done) | (simp; omega))) | (with_reducible refine bl_trans hb7 ?_ ?_; · (first | omega | (simp; done) | (simp; omega))) | (with_reducible refine bl_trans hb6 ?_ ?_; · (first | omega | (simp; done) | (simp; omega))) | (with_reducible refine bl_trans hb5 ?_ ?_; · (first | omega | (simp; done) | (simp; omega))) | (with_reducible refine bl_trans hb4 ?_ ?_; · (first | omega | (simp; done) | (simp; omega))) | (with_reducible refine bl_trans hb3 ?_ ?_; · (first | omega | (simp; done) | (simp; omega))) | (with_reducible refine bl_trans hb2 ?_ ?_; · (first | omega | (simp; done) | (simp; omega))) | (with_reducible refine bl_trans hb1 ?_ ?_; · (first | omega | (simp; done) | (simp; omega)))))⟩

theorem rtup {x y z e x' y' z' e' : Int} (hx : x = x') (hy : y = y') (hz : z = z') (he : e = e') : (Value.tuple #[rv x y z, .int .i64 e]) = .tuple #[rv x' y' z', .int .i64 e'] := by subst hx hy hz he; rfl
theorem resOrder_any (a0 a1 a2 b0 b1 b2 d0 d1 d2 : Int) (w : World) :
    Calls Try.prog 6 #[rv a0 a1 a2, rv b0 b1 b2, rv d0 d1 d2] w fun e w' => e = .returned (.bool true) ∧ Below w.heap.size w w' := by
  by_cases hall : rightB a0 a1 a2 = true ∧ rightB b0 b1 b2 = true ∧ rightB d0 d1 d2 = true
  · obtain ⟨ra, rb, rd⟩ := hall
    cases ht : rightB (a0 + b0 + d0) (a1 + b1 + d1) (a2 + b2 + d2) with
    | false =>
      have s1 := sum3_over (a := ⟨a0, a1, a2⟩) (b := ⟨b0, b1, b2⟩) (c := ⟨d0, d1, d2⟩) ra rb rd ht
      have s2 := sum3_over (a := ⟨d0, d1, d2⟩) (b := ⟨a0, a1, a2⟩) (c := ⟨b0, b1, b2⟩) rd ra rb (by
        rw [← ht]; congr 1 <;> simp only <;> omega)
      exact ord_6 _ _ _ _ _ _ _ _ _ w (hid (by rw [s1]; rfl)) (hid (by rw [s2]; rfl)) ra rb rd (p := _) (q := _) (r := _) (g := _) rfl
    | true =>
      have s1 := sum3_ok (a := ⟨a0, a1, a2⟩) (b := ⟨b0, b1, b2⟩) (c := ⟨d0, d1, d2⟩) ra rb rd ht
      have s2 := sum3_ok (a := ⟨d0, d1, d2⟩) (b := ⟨a0, a1, a2⟩) (c := ⟨b0, b1, b2⟩) rd ra rb (by
        rw [← ht]; congr 1 <;> simp only <;> omega)
      obtain ⟨_, _, _, _, _, _⟩ := right_out ra
      obtain ⟨_, _, _, _, _, _⟩ := right_out rb
      obtain ⟨_, _, _, _, _, _⟩ := right_out rd
      obtain ⟨_, _, _, _, _, _⟩ := right_out ht
      have hbd : rightB (b0 + 1 * d0) (b1 + 1 * d1) (b2 + 1 * d2) = true := right_mk' (by omega)
      have hg := addV_0 rb rd hbd
      have hh : addV a0 a1 a2 (b0 + 1 * d0) (b1 + 1 * d1) (b2 + 1 * d2) 1 = .tuple #[rv (a0 + b0 + d0) (a1 + b1 + d1) (a2 + b2 + d2), .int .i64 0] := (addV_0 ra hbd (right_mk' (by omega))).trans (rtup (by omega) (by omega) (by omega) rfl)
      exact ord_0 _ _ _ _ _ _ _ _ _ w (hid (by rw [s1]; rfl)) (hid (by rw [s2]; exact rtup (by simp only; omega) (by simp only; omega) (by simp only; omega) rfl)) ra rb rd hg hh
  · have n1 : ((sumS ⟨0, 0, 0⟩ [⟨a0, a1, a2⟩, ⟨b0, b1, b2⟩, ⟨d0, d1, d2⟩]).2 != 0) = true := by
      simp only [bne_iff_ne, ne_eq]
      intro h
      have k := sumS_ok _ _ h
      exact hall ⟨k ⟨a0, a1, a2⟩ (by simp), k ⟨b0, b1, b2⟩ (by simp), k ⟨d0, d1, d2⟩ (by simp)⟩
    have n2 : ((sumS ⟨0, 0, 0⟩ [⟨d0, d1, d2⟩, ⟨a0, a1, a2⟩, ⟨b0, b1, b2⟩]).2 != 0) = true := by
      simp only [bne_iff_ne, ne_eq]
      intro h
      have k := sumS_ok _ _ h
      exact hall ⟨k ⟨a0, a1, a2⟩ (by simp), k ⟨b0, b1, b2⟩ (by simp), k ⟨d0, d1, d2⟩ (by simp)⟩
    cases ra : rightB a0 a1 a2 with
    | false => exact ord_a _ _ _ _ _ _ _ _ _ w (hid rfl) (hid rfl) n1 n2 ra
    | true =>
      cases rb : rightB b0 b1 b2 with
      | false => exact ord_b _ _ _ _ _ _ _ _ _ w (hid rfl) (hid rfl) n1 n2 ra rb
      | true =>
        cases rd : rightB d0 d1 d2 with
        | false => exact ord_d _ _ _ _ _ _ _ _ _ w (hid rfl) (hid rfl) n1 n2 ra rb rd
        | true => exact (hall ⟨ra, rb, rd⟩).elim
end Go.Proofs.Ytlbingogclfdbaa
