/- Sum of package res and of its reference, each by a contract. No conditions but that a list is read as it lies. -/
import Derived.Test.YtlbingogclfdbaaSums
namespace Go.Proofs.Ytlbingogclfdbaa
open Go.RowKit Go.Lw
attribute [local go_sem] lt_p2 le_p2 lt_p3 le_p3 lt_p4 le_p4 lt_p5 le_p5 lt_p6 le_p6 lt_p7 le_p7 lt_p8 le_p8 lt_p9 le_p9 lt_p10 le_p10 lt_p11 le_p11 lt_p12 le_p12 lt_p13 le_p13 lt_p14 le_p14 lt_p15 le_p15 lt_p16 le_p16 le_c0 le_c1 lt_c2 le_c2 lt_c3 le_c3 lt_c4 le_c4 lt_c5 le_c5 lt_c6 le_c6 lt_c7 le_c7 lt_c8 le_c8 lt_c9 le_c9 lt_c10 le_c10 lt_c11 le_c11 lt_c12 le_c12 lt_c13 le_c13 lt_c14 le_c14 lt_c15 le_c15 lt_c16 le_c16 cell_set
set_option linter.unusedVariables false
set_option linter.unusedSimpArgs false

structure R3 where
  a : Int
  b : Int
  c : Int
def R3.val (x : R3) : Value := rv x.a x.b x.c
def R3.ok (x : R3) : Bool := rightB x.a x.b x.c
def R3.e (x y : R3) : Int := addE x.a x.b x.c y.a y.b y.c 1
def R3.add (x y : R3) : R3 := ⟨x.a + y.a, x.b + y.b, x.c + y.c⟩
def sumS (acc : R3) : List R3 → R3 × Int
  | [] => (acc, 0)
  | y :: l => if acc.e y = 0 then sumS (acc.add y) l else (⟨0, 0, 0⟩, acc.e y)
/-- A list of amounts as it lies in memory: the cells of each. -/
def Lies (w : World) (b off : Nat) (xs : List R3) : Prop :=
  ∀ i x, xs[i]? = some x → w.cell? ⟨b, off + i * 3, none⟩ = some (.int .i64 x.a) ∧ w.cell? ⟨b, off + i * 3 + 1, none⟩ = some (.int .i64 x.b) ∧ w.cell? ⟨b, off + i * 3 + 2, none⟩ = some (.int .i64 x.c)
theorem Lies.below {w w' : World} {b off n : Nat} {xs : List R3} (h : Lies w b off xs) (hb : Below n w w') (hn : b < n) : Lies w' b off xs := fun i x hx => by
  obtain ⟨h0, h1, h2⟩ := h i x hx
  exact ⟨by rw [hb.cell (p := ⟨b, _, none⟩) hn]; exact h0, by rw [hb.cell (p := ⟨b, _, none⟩) hn]; exact h1, by rw [hb.cell (p := ⟨b, _, none⟩) hn]; exact h2⟩

set_option maxHeartbeats 2000000 in
theorem sum_any (b off len cap : Nat) (xs : List R3) (w : World) (hlen : xs.length = len) (hmax : len ≤ 1000000000) (hb0 : b < w.heap.size) (hl : Lies w b off xs) :
    Calls Try.prog 14 #[.slice (some ⟨b, off, none⟩) len cap] w fun e w' => e = .returned (.tuple #[(sumS ⟨0, 0, 0⟩ xs).1.val, .int .i64 (sumS ⟨0, 0, 0⟩ xs).2]) ∧ Below w.heap.size w w' := by
  go_enter Try.func14, Try.ntmps14
  go_wp2
  go_loopw [11] (fun i wr => ∃ k : Nat, ∃ p : R3, k ≤ len ∧ i = .int .i64 k ∧ sumS ⟨0, 0, 0⟩ xs = sumS p (xs.drop k) ∧ Below w.heap.size w wr ∧ w.heap.size + 1 < wr.heap.size ∧ w.heap.size < wr.heap.size ∧
      wr.cell? ⟨w.heap.size + 1, 0, none⟩ = some (.int .i64 p.a) ∧ wr.cell? ⟨w.heap.size + 1, 1, none⟩ = some (.int .i64 p.b) ∧ wr.cell? ⟨w.heap.size + 1, 2, none⟩ = some (.int .i64 p.c) ∧ 
      (∀ o, wr.frozen? ⟨w.heap.size + 1, o, none⟩ = false) ∧ (∀ o, wr.frozen? ⟨w.heap.size, o, none⟩ = false) ∧ (∃ z0 z1 z2, wr.cell? ⟨w.heap.size, 0, none⟩ = some z0 ∧ wr.cell? ⟨w.heap.size, 1, none⟩ = some z1 ∧ wr.cell? ⟨w.heap.size, 2, none⟩ = some z2)) (fun i _ => len - (intOf i).toNat)
  case atStart =>
    refine ⟨0, ⟨0, 0, 0⟩, by omega, rfl, by simp, ?_, ?_, ?_, ?_, ?_, ?_, ?_, ?_, ?_⟩
    · (repeat (first | with_reducible exact Below.refl _ _ | with_reducible assumption | with_reducible refine Below.drew ?_ | with_reducible refine bl_drewN ?_ | (with_reducible refine bl_alloc ?_ ?_; · (first | omega | (simp; done) | (simp; omega))) | (with_reducible refine bl_set ?_ ?_; · (first | omega | (simp; done) | (simp; omega)))))
    · simp
    · simp; omega
    · simp [go_sem]
    · simp [go_sem]
    · simp [go_sem]
    · intro o; simp [go_sem]
    · intro o; simp [go_sem]
    · exact ⟨_, _, _, by simp [go_sem]; rfl, by simp [go_sem]; rfl, by simp [go_sem]; rfl⟩
  case round =>
    obtain ⟨k, p, hk, rfl, hs, hbe, hz1, hz2, hp0, hp1, hp2, hfo, hfr, z0, z1, z2, hr0, hr1, hr2⟩ := hrel
    have HS := hid hs
    clear hs
    by_cases hlt : k < len
    · obtain ⟨x, hx⟩ : ∃ x, xs[k]? = some x := ⟨xs[k], List.getElem?_eq_getElem (by omega)⟩
      obtain ⟨hx0, hx1, hx2⟩ := (hl.below hbe hb0) k x hx
      have hbr : b < wr.heap.size := Nat.lt_of_lt_of_le hb0 hbe.size
      have HX := hid hx
      clear hx
      have hsp : sumS p (xs.drop k) = if p.e x = 0 then sumS (p.add x) (xs.drop (k + 1)) else (⟨0, 0, 0⟩, p.e x) := by
        rw [List.drop_eq_getElem_cons (by omega : k < xs.length)]
        obtain rfl : xs[k] = x := by have := HX.out; rw [List.getElem?_eq_getElem (by omega)] at this; simpa using this
        rfl
      have HP := hid hsp
      clear hsp
      go_wp2_with fail
      refine (add_any _ _ _ _ _ _ _).mono ?_
      unfold addV rv
      rintro e w' ⟨rfl, hb⟩
      have hz := hb.size; simp only [World.size_alloc, World.size_setCell, World.size_drew] at hz; have c0 : ∀ o, w'.cell? ⟨w.heap.size, o, none⟩ = _ := fun o => hb.cell (p := ⟨w.heap.size, o, none⟩) (by simp only [World.size_alloc, World.size_setCell, World.size_drew] <;> omega); have g0 : ∀ o, w'.frozen? ⟨w.heap.size, o, none⟩ = _ := fun o => hb.frozen (p := ⟨w.heap.size, o, none⟩) (by simp only [World.size_alloc, World.size_setCell, World.size_drew] <;> omega); have f0 : w.heap.size < w'.heap.size := (by omega); have c1 : ∀ o, w'.cell? ⟨w.heap.size + 1, o, none⟩ = _ := fun o => hb.cell (p := ⟨w.heap.size + 1, o, none⟩) (by simp only [World.size_alloc, World.size_setCell, World.size_drew] <;> omega); have g1 : ∀ o, w'.frozen? ⟨w.heap.size + 1, o, none⟩ = _ := fun o => hb.frozen (p := ⟨w.heap.size + 1, o, none⟩) (by simp only [World.size_alloc, World.size_setCell, World.size_drew] <;> omega); have f1 : w.heap.size + 1 < w'.heap.size := (by omega); have c2 : ∀ o, w'.cell? ⟨wr.heap.size, o, none⟩ = _ := fun o => hb.cell (p := ⟨wr.heap.size, o, none⟩) (by simp only [World.size_alloc, World.size_setCell, World.size_drew] <;> omega); have g2 : ∀ o, w'.frozen? ⟨wr.heap.size, o, none⟩ = _ := fun o => hb.frozen (p := ⟨wr.heap.size, o, none⟩) (by simp only [World.size_alloc, World.size_setCell, World.size_drew] <;> omega); have f2 : wr.heap.size < w'.heap.size := (by omega)
      all_goals
        obtain ⟨E, hE⟩ : ∃ E, E = addE p.a p.b p.c x.a x.b x.c 1 := ⟨_, rfl⟩
        rw [← hE]
        have HE := hid hE
        clear hE
        by_cases h0 : E = 0
        · have q0 : pick0 E (p.a + x.a) = p.a + x.a := by simp [pick0, h0]
          have q1 : pick0 E (p.b + x.b) = p.b + x.b := by simp [pick0, h0]
          have q2 : pick0 E (p.c + x.c) = p.c + x.c := by simp [pick0, h0]
          (try simp only [Int.one_mul]); rw [q0, q1, q2]
          clear q0 q1 q2

          go_wp2
          go_roundw
          case rel =>
            refine ⟨k + 1, p.add x, by omega, by go_num, ?_, ?_, ?_, ?_, ?_, ?_, ?_, ?_, ?_, ?_⟩
            · rw [HS.out, HP.out, if_pos]; have := HE.out; unfold R3.e; omega
            · (repeat (first | with_reducible exact Below.refl _ _ | with_reducible assumption | with_reducible refine Below.drew ?_ | with_reducible refine bl_drewN ?_ | (with_reducible refine bl_alloc ?_ ?_; · (first | omega | (simp; done) | (simp; omega))) | (with_reducible refine bl_set ?_ ?_; · (first | omega | (simp; done) | (simp; omega))) | (with_reducible refine bl_trans hb ?_ ?_; · (first | omega | (simp; done) | (simp; omega))) | (with_reducible refine bl_trans hbe ?_ ?_; · (first | omega | (simp; done) | (simp; omega)))))
            · simp; omega
            · simp; omega
            · simp [go_sem, c1, hp0, hp1, hp2, f1, R3.add, hz1, hz2]
            · simp [go_sem, c1, hp0, hp1, hp2, f1, R3.add, hz1, hz2]
            · simp [go_sem, c1, hp0, hp1, hp2, f1, R3.add, hz1, hz2]
            · intro o; simp [go_sem, g1, f1, hfo, hz1, hz2]
            · intro o; simp [go_sem, g0, f0, hfr, hz1, hz2]
            · exact ⟨z0, z1, z2, by simp [go_sem, c0, f0, hr0, hz1, hz2], by simp [go_sem, c0, f0, hr1, hz1, hz2], by simp [go_sem, c0, f0, hr2, hz1, hz2]⟩
          case measure => simp [intOf]; omega
        · have q0 : pick0 E (p.a + x.a) = 0 := by simp [pick0, h0]
          have q1 : pick0 E (p.b + x.b) = 0 := by simp [pick0, h0]
          have q2 : pick0 E (p.c + x.c) = 0 := by simp [pick0, h0]
          (try simp only [Int.one_mul]); rw [q0, q1, q2]
          clear q0 q1 q2
          go_wp2
          exact bodyPost_ret (v := .tuple #[rv 0 0 0, .int .i64 E]) (by simp [results, Try.results14, go_sem, c0, g0, f0, hr0, hr1, hr2, hz1, hz2]) rfl ⟨by rw [HS.out, HP.out, if_neg (by have := HE.out; unfold R3.e; omega)]; simp [R3.val, R3.e, ← HE.out], by (repeat (first | with_reducible exact Below.refl _ _ | with_reducible assumption | with_reducible refine Below.drew ?_ | with_reducible refine bl_drewN ?_ | (with_reducible refine bl_alloc ?_ ?_; · (first | omega | (simp; done) | (simp; omega))) | (with_reducible refine bl_set ?_ ?_; · (first | omega | (simp; done) | (simp; omega))) | (with_reducible refine bl_trans hb ?_ ?_; · (first | omega | (simp; done) | (simp; omega))) | (with_reducible refine bl_trans hbe ?_ ?_; · (first | omega | (simp; done) | (simp; omega)))))⟩
    · obtain rfl : k = len := by omega
      go_wp2
      exact bodyPost_ret (v := .tuple #[p.val, .int .i64 0]) (by simp [results, Try.results14, go_sem, hr0, hr1, hr2, hz1, hz2, R3.val, rv]) rfl ⟨by rw [HS.out, List.drop_of_length_le (by omega)]; rfl, by (repeat (first | with_reducible exact Below.refl _ _ | with_reducible assumption | with_reducible refine Below.drew ?_ | with_reducible refine bl_drewN ?_ | (with_reducible refine bl_alloc ?_ ?_; · (first | omega | (simp; done) | (simp; omega))) | (with_reducible refine bl_set ?_ ?_; · (first | omega | (simp; done) | (simp; omega))) | (with_reducible refine bl_trans hbe ?_ ?_; · (first | omega | (simp; done) | (simp; omega)))))⟩

set_option maxHeartbeats 2000000 in
theorem rsum_any (b off len cap : Nat) (xs : List R3) (w : World) (hlen : xs.length = len) (hmax : len ≤ 1000000000) (hb0 : b < w.heap.size) (hl : Lies w b off xs) :
    Calls Try.prog 15 #[.slice (some ⟨b, off, none⟩) len cap] w fun e w' => e = .returned (.tuple #[(sumS ⟨0, 0, 0⟩ xs).1.val, .int .i64 (sumS ⟨0, 0, 0⟩ xs).2]) ∧ Below w.heap.size w w' := by
  go_enter Try.func15, Try.ntmps15
  go_wp2
  go_loopw [11] (fun i wr => ∃ k : Nat, ∃ p : R3, k ≤ len ∧ i = .int .i64 k ∧ sumS ⟨0, 0, 0⟩ xs = sumS p (xs.drop k) ∧ Below w.heap.size w wr ∧ w.heap.size + 1 < wr.heap.size ∧ w.heap.size < wr.heap.size ∧
      wr.cell? ⟨w.heap.size + 1, 0, none⟩ = some (.int .i64 p.a) ∧ wr.cell? ⟨w.heap.size + 1, 1, none⟩ = some (.int .i64 p.b) ∧ wr.cell? ⟨w.heap.size + 1, 2, none⟩ = some (.int .i64 p.c) ∧ 
      (∀ o, wr.frozen? ⟨w.heap.size + 1, o, none⟩ = false) ∧ (∀ o, wr.frozen? ⟨w.heap.size, o, none⟩ = false) ∧ (∃ z0 z1 z2, wr.cell? ⟨w.heap.size, 0, none⟩ = some z0 ∧ wr.cell? ⟨w.heap.size, 1, none⟩ = some z1 ∧ wr.cell? ⟨w.heap.size, 2, none⟩ = some z2)) (fun i _ => len - (intOf i).toNat)
  case atStart =>
    refine ⟨0, ⟨0, 0, 0⟩, by omega, rfl, by simp, ?_, ?_, ?_, ?_, ?_, ?_, ?_, ?_, ?_⟩
    · (repeat (first | with_reducible exact Below.refl _ _ | with_reducible assumption | with_reducible refine Below.drew ?_ | with_reducible refine bl_drewN ?_ | (with_reducible refine bl_alloc ?_ ?_; · (first | omega | (simp; done) | (simp; omega))) | (with_reducible refine bl_set ?_ ?_; · (first | omega | (simp; done) | (simp; omega)))))
    · simp
    · simp; omega
    · simp [go_sem]
    · simp [go_sem]
    · simp [go_sem]
    · intro o; simp [go_sem]
    · intro o; simp [go_sem]
    · exact ⟨_, _, _, by simp [go_sem]; rfl, by simp [go_sem]; rfl, by simp [go_sem]; rfl⟩
  case round =>
    obtain ⟨k, p, hk, rfl, hs, hbe, hz1, hz2, hp0, hp1, hp2, hfo, hfr, z0, z1, z2, hr0, hr1, hr2⟩ := hrel
    have HS := hid hs
    clear hs
    by_cases hlt : k < len
    · obtain ⟨x, hx⟩ : ∃ x, xs[k]? = some x := ⟨xs[k], List.getElem?_eq_getElem (by omega)⟩
      obtain ⟨hx0, hx1, hx2⟩ := (hl.below hbe hb0) k x hx
      have hbr : b < wr.heap.size := Nat.lt_of_lt_of_le hb0 hbe.size
      have HX := hid hx
      clear hx
      have hsp : sumS p (xs.drop k) = if p.e x = 0 then sumS (p.add x) (xs.drop (k + 1)) else (⟨0, 0, 0⟩, p.e x) := by
        rw [List.drop_eq_getElem_cons (by omega : k < xs.length)]
        obtain rfl : xs[k] = x := by have := HX.out; rw [List.getElem?_eq_getElem (by omega)] at this; simpa using this
        rfl
      have HP := hid hsp
      clear hsp
      
      have ne1 : ¬ wr.heap.size = w.heap.size + 1 := by omega
      have ne2 : ¬ wr.heap.size = b := by omega
      have ne3 : ¬ wr.heap.size = w.heap.size := by omega
      go_wp2
      go_region_held3 (fun w1 => w1.cell? ⟨w.heap.size + 1, 0, none⟩ = some (.int .i64 p.a) ∧ w1.cell? ⟨w.heap.size + 1, 1, none⟩ = some (.int .i64 p.b) ∧ w1.cell? ⟨w.heap.size + 1, 2, none⟩ = some (.int .i64 p.c) ∧ w1.cell? ⟨b, off + k * 3, none⟩ = some (.int .i64 x.a) ∧ w1.cell? ⟨b, off + k * 3 + 1, none⟩ = some (.int .i64 x.b) ∧ w1.cell? ⟨b, off + k * 3 + 2, none⟩ = some (.int .i64 x.c)) (go_keep) (first | (go_at_call 17; refine (radd_any _ _ _ _ _ _ _).mono ?_; unfold addV rv; rintro e w' ⟨rfl, hb⟩; have hz := hb.size; simp only [World.size_alloc, World.size_setCell, World.size_drew] at hz; have c0 : ∀ o, w'.cell? ⟨w.heap.size, o, none⟩ = _ := fun o => hb.cell (p := ⟨w.heap.size, o, none⟩) (by simp only [World.size_alloc, World.size_setCell, World.size_drew] <;> omega); have g0 : ∀ o, w'.frozen? ⟨w.heap.size, o, none⟩ = _ := fun o => hb.frozen (p := ⟨w.heap.size, o, none⟩) (by simp only [World.size_alloc, World.size_setCell, World.size_drew] <;> omega); have f0 : w.heap.size < w'.heap.size := (by omega); have c1 : ∀ o, w'.cell? ⟨w.heap.size + 1, o, none⟩ = _ := fun o => hb.cell (p := ⟨w.heap.size + 1, o, none⟩) (by simp only [World.size_alloc, World.size_setCell, World.size_drew] <;> omega); have g1 : ∀ o, w'.frozen? ⟨w.heap.size + 1, o, none⟩ = _ := fun o => hb.frozen (p := ⟨w.heap.size + 1, o, none⟩) (by simp only [World.size_alloc, World.size_setCell, World.size_drew] <;> omega); have f1 : w.heap.size + 1 < w'.heap.size := (by omega); have c2 : ∀ o, w'.cell? ⟨b, o, none⟩ = _ := fun o => hb.cell (p := ⟨b, o, none⟩) (by simp only [World.size_alloc, World.size_setCell, World.size_drew] <;> omega); have g2 : ∀ o, w'.frozen? ⟨b, o, none⟩ = _ := fun o => hb.frozen (p := ⟨b, o, none⟩) (by simp only [World.size_alloc, World.size_setCell, World.size_drew] <;> omega); have f2 : b < w'.heap.size := (by omega); have c3 : wr.heap.size < _ → ∀ o, w'.cell? ⟨wr.heap.size, o, none⟩ = _ := fun h o => hb.cell (p := ⟨wr.heap.size, o, none⟩) h; have g3 : wr.heap.size < _ → ∀ o, w'.frozen? ⟨wr.heap.size, o, none⟩ = _ := fun h o => hb.frozen (p := ⟨wr.heap.size, o, none⟩) h; have f3 : wr.heap.size < _ → wr.heap.size < w'.heap.size := fun h => Nat.lt_of_lt_of_le h hb.size))
      all_goals
        obtain ⟨E, hE⟩ : ∃ E, E = addE p.a p.b p.c x.a x.b x.c 1 := ⟨_, rfl⟩
        rw [← hE]
        have HE := hid hE
        clear hE
        by_cases h0 : E = 0
        · have q0 : pick0 E (p.a + x.a) = p.a + x.a := by simp [pick0, h0]
          have q1 : pick0 E (p.b + x.b) = p.b + x.b := by simp [pick0, h0]
          have q2 : pick0 E (p.c + x.c) = p.c + x.c := by simp [pick0, h0]
          (try simp only [Int.one_mul]); rw [q0, q1, q2]
          clear q0 q1 q2

          go_wp2
          go_roundw
          case rel =>
            refine ⟨k + 1, p.add x, by omega, by go_num, ?_, ?_, ?_, ?_, ?_, ?_, ?_, ?_, ?_, ?_⟩
            · rw [HS.out, HP.out, if_pos]; have := HE.out; unfold R3.e; omega
            · (repeat (first | with_reducible exact Below.refl _ _ | with_reducible assumption | with_reducible refine Below.drew ?_ | with_reducible refine bl_drewN ?_ | (with_reducible refine bl_alloc ?_ ?_; · (first | omega | (simp; done) | (simp; omega))) | (with_reducible refine bl_set ?_ ?_; · (first | omega | (simp; done) | (simp; omega))) | (with_reducible refine bl_trans hb ?_ ?_; · (first | omega | (simp; done) | (simp; omega))) | (with_reducible refine bl_trans hbe ?_ ?_; · (first | omega | (simp; done) | (simp; omega)))))
            · simp; omega
            · simp; omega
            · simp [go_sem, c1, hp0, hp1, hp2, f1, R3.add, hz1, hz2, c3, g3, f3, ne1, ne2, ne3]
            · simp [go_sem, c1, hp0, hp1, hp2, f1, R3.add, hz1, hz2, c3, g3, f3, ne1, ne2, ne3]
            · simp [go_sem, c1, hp0, hp1, hp2, f1, R3.add, hz1, hz2, c3, g3, f3, ne1, ne2, ne3]
            · intro o; simp [go_sem, g1, f1, hfo, hz1, hz2, c3, g3, f3, ne1, ne2, ne3]
            · intro o; simp [go_sem, g0, f0, hfr, hz1, hz2, c3, g3, f3, ne1, ne2, ne3]
            · exact ⟨z0, z1, z2, by simp [go_sem, c0, f0, hr0, hz1, hz2, c3, g3, f3, ne1, ne2, ne3], by simp [go_sem, c0, f0, hr1, hz1, hz2, c3, g3, f3, ne1, ne2, ne3], by simp [go_sem, c0, f0, hr2, hz1, hz2, c3, g3, f3, ne1, ne2, ne3]⟩
          case measure => simp [intOf]; omega
        · have q0 : pick0 E (p.a + x.a) = 0 := by simp [pick0, h0]
          have q1 : pick0 E (p.b + x.b) = 0 := by simp [pick0, h0]
          have q2 : pick0 E (p.c + x.c) = 0 := by simp [pick0, h0]
          (try simp only [Int.one_mul]); rw [q0, q1, q2]
          clear q0 q1 q2
          go_wp2
          exact bodyPost_ret (v := .tuple #[rv 0 0 0, .int .i64 E]) (by simp [results, Try.results15, go_sem, c0, g0, f0, hr0, hr1, hr2, hz1, hz2, c3, g3, f3, ne1, ne2, ne3]) rfl ⟨by rw [HS.out, HP.out, if_neg (by have := HE.out; unfold R3.e; omega)]; simp [R3.val, R3.e, ← HE.out], by (repeat (first | with_reducible exact Below.refl _ _ | with_reducible assumption | with_reducible refine Below.drew ?_ | with_reducible refine bl_drewN ?_ | (with_reducible refine bl_alloc ?_ ?_; · (first | omega | (simp; done) | (simp; omega))) | (with_reducible refine bl_set ?_ ?_; · (first | omega | (simp; done) | (simp; omega))) | (with_reducible refine bl_trans hb ?_ ?_; · (first | omega | (simp; done) | (simp; omega))) | (with_reducible refine bl_trans hbe ?_ ?_; · (first | omega | (simp; done) | (simp; omega)))))⟩
    · obtain rfl : k = len := by omega
      go_wp2
      exact bodyPost_ret (v := .tuple #[p.val, .int .i64 0]) (by simp [results, Try.results15, go_sem, hr0, hr1, hr2, hz1, hz2, R3.val, rv]) rfl ⟨by rw [HS.out, List.drop_of_length_le (by omega)]; rfl, by (repeat (first | with_reducible exact Below.refl _ _ | with_reducible assumption | with_reducible refine Below.drew ?_ | with_reducible refine bl_drewN ?_ | (with_reducible refine bl_alloc ?_ ?_; · (first | omega | (simp; done) | (simp; omega))) | (with_reducible refine bl_set ?_ ?_; · (first | omega | (simp; done) | (simp; omega))) | (with_reducible refine bl_trans hbe ?_ ?_; · (first | omega | (simp; done) | (simp; omega)))))⟩

end Go.Proofs.Ytlbingogclfdbaa
