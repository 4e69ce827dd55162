/- ResSums, walked. No conditions. -/
import Derived.Test.YtlbingogclfdbaaK
import Derived.Test.YtlbingogclfdbaaSumL
namespace Go.Proofs.Ytlbingogclfdbaa
open Go.RowKit Go.Lw
attribute [local go_sem] lt_p2 le_p2 lt_p3 le_p3 lt_p4 le_p4 lt_p5 le_p5 lt_p6 le_p6 lt_p7 le_p7 lt_p8 le_p8 lt_p9 le_p9 lt_p10 le_p10 lt_p11 le_p11 lt_p12 le_p12 lt_p13 le_p13 lt_p14 le_p14 lt_p15 le_p15 lt_p16 le_p16 le_c0 le_c1 lt_c2 le_c2 lt_c3 le_c3 lt_c4 le_c4 lt_c5 le_c5 lt_c6 le_c6 lt_c7 le_c7 lt_c8 le_c8 lt_c9 le_c9 lt_c10 le_c10 lt_c11 le_c11 lt_c12 le_c12 lt_c13 le_c13 lt_c14 le_c14 lt_c15 le_c15 lt_c16 le_c16 cell_set uponV_value uponV_skip uponV_enter
set_option linter.unusedVariables false
set_option linter.unusedSimpArgs false

theorem sum_k {b off len cap : Nat} {xs : List R3} {w : World} {R : Ending → World → Prop} {x y z e : Int} (hlen : xs.length = len) (hmax : len ≤ 1000000000) (hb0 : b < w.heap.size) (hl : Lies w b off xs)
    (h : (Value.tuple #[(sumS ⟨0, 0, 0⟩ xs).1.val, .int .i64 (sumS ⟨0, 0, 0⟩ xs).2]) = .tuple #[rv x y z, .int .i64 e]) (hR : ∀ w', Below w.heap.size w w' → R (.returned (.tuple #[rv x y z, .int .i64 e])) w') : Calls Try.prog 14 #[.slice (some ⟨b, off, none⟩) len cap] w R :=
  calls_k (sum_any b off len cap xs w hlen hmax hb0 hl) h hR
theorem rsum_k {b off len cap : Nat} {xs : List R3} {w : World} {R : Ending → World → Prop} {x y z e : Int} (hlen : xs.length = len) (hmax : len ≤ 1000000000) (hb0 : b < w.heap.size) (hl : Lies w b off xs)
    (h : (Value.tuple #[(sumS ⟨0, 0, 0⟩ xs).1.val, .int .i64 (sumS ⟨0, 0, 0⟩ xs).2]) = .tuple #[rv x y z, .int .i64 e]) (hR : ∀ w', Below w.heap.size w w' → R (.returned (.tuple #[rv x y z, .int .i64 e])) w') : Calls Try.prog 15 #[.slice (some ⟨b, off, none⟩) len cap] w R :=
  calls_k (rsum_any b off len cap xs w hlen hmax hb0 hl) h hR

set_option maxHeartbeats 1000000 in
theorem sumnil_any (w : World) (a : Option Addr) (cap : Nat) : Calls Try.prog 14 #[.slice a 0 cap] w fun e w' => e = .returned (.tuple #[rv 0 0 0, .int .i64 0]) ∧ Below w.heap.size w w' := by
  go_enter Try.func14, Try.ntmps14
  go_wp2
  refine wp_loop_rounds 1 ?_
  rw [rounds_succ]
  go_wp2
  exact bodyPost_ret (v := .tuple #[rv 0 0 0, .int .i64 0]) (by simp [results, Try.results14, go_sem, rv]) rfl ⟨rfl, by (repeat (first | with_reducible exact Below.refl _ _ | with_reducible assumption | with_reducible refine Below.drew ?_ | with_reducible refine bl_drewN ?_ | (with_reducible refine bl_alloc ?_ ?_; · (first | omega | (simp; done) | (simp; omega))) | (with_reducible refine bl_set ?_ ?_; · (first | omega | (simp; done) | (simp; omega)))))⟩
theorem sumnil_k {w : World} {a : Option Addr} {cap : Nat} {R : Ending → World → Prop} (hR : ∀ w', Below w.heap.size w w' → R (.returned (.tuple #[rv 0 0 0, .int .i64 0])) w') : Calls Try.prog 14 #[.slice a 0 cap] w R := calls_k (sumnil_any w a cap) rfl hR

set_option maxHeartbeats 1000000 in
theorem rsumnil_any (w : World) (a : Option Addr) (cap : Nat) : Calls Try.prog 15 #[.slice a 0 cap] w fun e w' => e = .returned (.tuple #[rv 0 0 0, .int .i64 0]) ∧ Below w.heap.size w w' := by
  go_enter Try.func15, Try.ntmps15
  go_wp2
  refine wp_loop_rounds 1 ?_
  rw [rounds_succ]
  go_wp2
  exact bodyPost_ret (v := .tuple #[rv 0 0 0, .int .i64 0]) (by simp [results, Try.results15, go_sem, rv]) rfl ⟨rfl, by (repeat (first | with_reducible exact Below.refl _ _ | with_reducible assumption | with_reducible refine Below.drew ?_ | with_reducible refine bl_drewN ?_ | (with_reducible refine bl_alloc ?_ ?_; · (first | omega | (simp; done) | (simp; omega))) | (with_reducible refine bl_set ?_ ?_; · (first | omega | (simp; done) | (simp; omega)))))⟩
theorem rsumnil_k {w : World} {a : Option Addr} {cap : Nat} {R : Ending → World → Prop} (hR : ∀ w', Below w.heap.size w w' → R (.returned (.tuple #[rv 0 0 0, .int .i64 0])) w') : Calls Try.prog 15 #[.slice a 0 cap] w R := calls_k (rsumnil_any w a cap) rfl hR

set_option maxHeartbeats 4000000 in
theorem resSums_nil (w : World) (a : Option Addr) (cap : Nat) : Calls Try.prog 5 #[.slice a 0 cap] w fun e w' => e = .returned (.bool true) ∧ Below w.heap.size w w' := by
  have e1 := eq3 0 0 0 0 0 0
  simp only [beq_self_eq_true, Bool.and_self] at e1
  go_enter Try.func5, Try.ntmps5
  go_wp2_with fail
  with_reducible refine awake_k (fun x1 hb1 => ?_)
  try dsimp only
  have hz1 := hb1.size; (try simp only [World.size_alloc, World.size_setCell, World.size_drew] at hz1)
  go_wp2_with fail
  with_reducible refine sumnil_k (fun x2 hb2 => ?_)
  try dsimp only
  have hz2 := hb2.size; (try simp only [World.size_alloc, World.size_setCell, World.size_drew] at hz2)
  go_wp2_with fail
  with_reducible refine rsumnil_k (fun x3 hb3 => ?_)
  try dsimp only
  have hz3 := hb3.size; (try simp only [World.size_alloc, World.size_setCell, World.size_drew] at hz3)
  have c3_0 : ∀ o, x3.cell? ⟨x2.heap.size, o, none⟩ = _ := fun o => hb3.cell (p := ⟨x2.heap.size, o, none⟩) (by simp only [World.size_alloc, World.size_setCell, World.size_drew] <;> omega)
  have g3_0 : ∀ o, x3.frozen? ⟨x2.heap.size, o, none⟩ = _ := fun o => hb3.frozen (p := ⟨x2.heap.size, o, none⟩) (by simp only [World.size_alloc, World.size_setCell, World.size_drew] <;> omega)
  have f3_0 : x2.heap.size < x3.heap.size := by omega
  go_wp2
  go_ret
  exact ⟨rfl, by (repeat (first | with_reducible exact Below.refl _ _ | with_reducible assumption | with_reducible refine Below.drew ?_ | with_reducible refine bl_drewN ?_ | (with_reducible refine bl_alloc ?_ ?_; · (first | omega | (simp; done) | (simp; omega))) | (with_reducible refine bl_set ?_ ?_; · (first | omega | (simp; done) | (simp; omega))) | (with_reducible refine bl_trans hb3 ?_ ?_; · (first | omega | (simp; done) | (simp; omega))) | (with_reducible refine bl_trans hb2 ?_ ?_; · (first | omega | (simp; done) | (simp; omega))) | (with_reducible refine bl_trans hb1 ?_ ?_; · (first | omega | (simp; done) | (simp; omega)))))⟩

set_option maxHeartbeats 4000000 in
theorem resSums_any (b off len cap : Nat) (xs : List R3) (w : World) (hlen : xs.length = len) (hm : len ≤ 9223372036854775807) (hb0 : b < w.heap.size) (hl : Lies w b off xs) :
    Calls Try.prog 5 #[.slice (some ⟨b, off, none⟩) len cap] w fun e w' => e = .returned (.bool true) ∧ Below w.heap.size w w' := by
  by_cases h : len ≤ 1000
  · obtain ⟨x, y, z, e, hE⟩ : ∃ x y z e, (Value.tuple #[(sumS ⟨0, 0, 0⟩ xs).1.val, .int .i64 (sumS ⟨0, 0, 0⟩ xs).2]) = .tuple #[rv x y z, .int .i64 e] := ⟨_, _, _, _, rfl⟩
    have HE := hid hE
    clear hE
    have e1 := eq3 x y z x y z
    simp only [beq_self_eq_true, Bool.and_self] at e1
    have h' : (len : Int) ≤ 1000 := by omega
    go_enter Try.func5, Try.ntmps5
    go_wp2_with fail
    with_reducible refine awake_k (fun x1 hb1 => ?_)
    try dsimp only
    have hz1 := hb1.size; (try simp only [World.size_alloc, World.size_setCell, World.size_drew] at hz1)
    have c1_0 : ∀ o, x1.cell? ⟨b, o, none⟩ = _ := fun o => hb1.cell (p := ⟨b, o, none⟩) (by simp only [World.size_alloc, World.size_setCell, World.size_drew] <;> omega)
    have g1_0 : ∀ o, x1.frozen? ⟨b, o, none⟩ = _ := fun o => hb1.frozen (p := ⟨b, o, none⟩) (by simp only [World.size_alloc, World.size_setCell, World.size_drew] <;> omega)
    have f1_0 : b < x1.heap.size := by omega
    have hl1 := hl.below hb1 hb0
    go_wp2_with fail
    with_reducible refine sum_k (xs := xs) hlen (by omega) f1_0 hl1 HE.out (fun x2 hb2 => ?_)
    try dsimp only
    have hz2 := hb2.size; (try simp only [World.size_alloc, World.size_setCell, World.size_drew] at hz2)
    have c2_0 : ∀ o, x2.cell? ⟨b, o, none⟩ = _ := fun o => hb2.cell (p := ⟨b, o, none⟩) (by simp only [World.size_alloc, World.size_setCell, World.size_drew] <;> omega)
    have g2_0 : ∀ o, x2.frozen? ⟨b, o, none⟩ = _ := fun o => hb2.frozen (p := ⟨b, o, none⟩) (by simp only [World.size_alloc, World.size_setCell, World.size_drew] <;> omega)
    have f2_0 : b < x2.heap.size := by omega
    have hl2 := hl1.below hb2 f1_0
    have hl3 : Lies (x2.alloc (.cells #[.int .i64 x, .int .i64 y, .int .i64 z] 23)) b off xs := hl2.below (below1 x2 _) f2_0
    go_wp2_with fail
    with_reducible refine rsum_k (xs := xs) hlen (by omega) (by simp; omega) hl3 HE.out (fun x3 hb3 => ?_)
    try dsimp only
    have hz3 := hb3.size; (try simp only [World.size_alloc, World.size_setCell, World.size_drew] at hz3)
    have c3_0 : ∀ o, x3.cell? ⟨b, o, none⟩ = _ := fun o => hb3.cell (p := ⟨b, o, none⟩) (by simp only [World.size_alloc, World.size_setCell, World.size_drew] <;> omega)
    have g3_0 : ∀ o, x3.frozen? ⟨b, o, none⟩ = _ := fun o => hb3.frozen (p := ⟨b, o, none⟩) (by simp only [World.size_alloc, World.size_setCell, World.size_drew] <;> omega)
    have f3_0 : b < x3.heap.size := by omega
    have c3_1 : ∀ o, x3.cell? ⟨x2.heap.size, o, none⟩ = _ := fun o => hb3.cell (p := ⟨x2.heap.size, o, none⟩) (by simp only [World.size_alloc, World.size_setCell, World.size_drew] <;> omega)
    have g3_1 : ∀ o, x3.frozen? ⟨x2.heap.size, o, none⟩ = _ := fun o => hb3.frozen (p := ⟨x2.heap.size, o, none⟩) (by simp only [World.size_alloc, World.size_setCell, World.size_drew] <;> omega)
    have f3_1 : x2.heap.size < x3.heap.size := by omega
    go_wp2
    go_ret
    exact ⟨rfl, by (repeat (first | with_reducible exact Below.refl _ _ | with_reducible assumption | with_reducible refine Below.drew ?_ | with_reducible refine bl_drewN ?_ | (with_reducible refine bl_alloc ?_ ?_; · (first | omega | (simp; done) | (simp; omega))) | (with_reducible refine bl_set ?_ ?_; · (first | omega | (simp; done) | (simp; omega))) | (with_reducible refine bl_trans hb3 ?_ ?_; · (first | omega | (simp; done) | (simp; omega))) | (with_reducible refine bl_trans hb2 ?_ ?_; · (first | omega | (simp; done) | (simp; omega))) | (with_reducible refine bl_trans hb1 ?_ ?_; · (first | omega | (simp; done) | (simp; omega)))))⟩
  · have h' : (1000 : Int) < len := by omega
    go_enter Try.func5, Try.ntmps5
    go_wp2_with fail
    with_reducible refine awake_k (fun x1 hb1 => ?_)
    try dsimp only
    have hz1 := hb1.size; (try simp only [World.size_alloc, World.size_setCell, World.size_drew] at hz1)
    go_wp2_with fail
    with_reducible refine awake_k (fun x2 hb2 => ?_)
    try dsimp only
    have hz2 := hb2.size; (try simp only [World.size_alloc, World.size_setCell, World.size_drew] at hz2)
    go_wp2
    go_ret
    exact ⟨rfl, by (repeat (first | with_reducible exact Below.refl _ _ | with_reducible assumption | with_reducible refine Below.drew ?_ | with_reducible refine bl_drewN ?_ | (with_reducible refine bl_alloc ?_ ?_; · (first | omega | (simp; done) | (simp; omega))) | (with_reducible refine bl_set ?_ ?_; · (first | omega | (simp; done) | (simp; omega))) | (with_reducible refine bl_trans hb2 ?_ ?_; · (first | omega | (simp; done) | (simp; omega))) | (with_reducible refine bl_trans hb1 ?_ ?_; · (first | omega | (simp; done) | (simp; omega)))))⟩

end Go.Proofs.Ytlbingogclfdbaa
