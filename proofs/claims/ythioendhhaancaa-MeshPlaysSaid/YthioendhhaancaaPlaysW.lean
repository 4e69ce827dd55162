/- MeshPlays, walked. No conditions but that the script is read as it lies. -/
import Derived.Test.YthioendhhaancaaTwo
namespace Go.Proofs.Ythioendhhaancaa
open Go.RowKit Go.Lw
attribute [local go_sem] lt_p2 le_p2 lt_p3 le_p3 lt_p4 le_p4 lt_p5 le_p5 lt_p6 le_p6 lt_p7 le_p7 lt_p8 le_p8 lt_p9 le_p9 lt_p10 le_p10 lt_p11 le_p11 lt_p12 le_p12 lt_p13 le_p13 lt_p14 le_p14 lt_p15 le_p15 lt_p16 le_p16 le_c0 le_c1 lt_c2 le_c2 lt_c3 le_c3 lt_c4 le_c4 lt_c5 le_c5 lt_c6 le_c6 lt_c7 le_c7 lt_c8 le_c8 lt_c9 le_c9 lt_c10 le_c10 lt_c11 le_c11 lt_c12 le_c12 lt_c13 le_c13 lt_c14 le_c14 lt_c15 le_c15 lt_c16 le_c16 cell_set uponV_value uponV_skip uponV_enter
set_option linter.unusedVariables false
set_option linter.unusedSimpArgs false

structure OpV where
  kind : Int
  n : Int
def Lies2 (w : World) (b off : Nat) (xs : List OpV) : Prop :=
  ∀ i x, xs[i]? = some x → w.cell? ⟨b, off + i * 2, none⟩ = some (.int .i64 x.kind) ∧ w.cell? ⟨b, off + i * 2 + 1, none⟩ = some (.int .i64 x.n)
theorem SendPost.cell {T : TypeId} {W w' : World} {g : Nat} {v : Value} {room : Int} {zs : List Int} (hp : SendPost T W g v room zs w') {B : Nat} (hb : B < W.heap.size) (h1 : B ≠ g) (h2 : v.ownBlock ≠ some B) (o : Nat) : w'.cell? ⟨B, o, none⟩ = W.cell? ⟨B, o, none⟩ := by
  obtain ⟨v', hm, hc, ho⟩ := hp
  exact hc.cell hb (fun e => e.elim h1 h2) o
theorem Lies2.below {w w' : World} {b off n : Nat} {xs : List OpV} (h : Lies2 w b off xs) (hb : Below n w w') (hn : b < n) : Lies2 w' b off xs := fun i x hx => by
  obtain ⟨h0, h1⟩ := h i x hx
  exact ⟨by rw [hb.cell (p := ⟨b, _, none⟩) hn]; exact h0, by rw [hb.cell (p := ⟨b, _, none⟩) hn]; exact h1⟩
set_option maxRecDepth 100000 in
set_option maxHeartbeats 8000000 in
theorem plays_any (room : Int) (b off len cap : Nat) (ops : List OpV) (w : World) (hlen : ops.length = len) (hmax : len ≤ 300) (hb0 : b < w.heap.size) (hl : Lies2 w b off ops) :
    Calls Try.prog 5 #[.int .i64 room, .slice (some ⟨b, off, none⟩) len cap] w fun e w' => e = .returned (.bool true) ∧ Below w.heap.size w w' := by
  have h300 : (len : Int) ≤ 300 := by omega
  go_enter Try.func5, Try.ntmps5
  go_wp2_with fail
  refine (awake_any _).mono ?_
  rintro e x1 ⟨rfl, hb1⟩
  go_wp2_with (first | (go_at_call 8; refine (new_any _ _).mono ?_; rintro e w' ⟨rfl, rfl⟩) | (go_at_call 20; refine (rnew_any _ _).mono ?_; rintro e w' ⟨rfl, rfl⟩))
  have T0 : Two w ((x1.alloc (.cells #[.slice none 0 0, .int .i64 (rm room)] 50)).alloc (.cells #[.slice none 0 0, .int .i64 (rm room)] 48)) x1.heap.size (x1.heap.size + 1) (.slice none 0 0) (.slice none 0 0) (rm room) [] [] := by
    have hz := hb1.size
    refine ⟨(new_MI _ _).chg ((Chg.refl (fun _ => False) _).alloc _) (fun h => h) (fun _ _ h => h), by simpa using rnew_MI (rm room) (x1.alloc (.cells #[.slice none 0 0, .int .i64 (rm room)] 50)), by (repeat (first | with_reducible exact Below.refl _ _ | with_reducible assumption | with_reducible refine Below.drew ?_ | with_reducible refine bl_drewN ?_ | (with_reducible refine bl_alloc ?_ ?_; · (first | omega | (simp; done) | (simp; omega))) | (with_reducible refine bl_set ?_ ?_; · (first | omega | (simp; done) | (simp; omega))) | (with_reducible refine bl_trans hb1 ?_ ?_; · (first | omega | (simp; done) | (simp; omega))))), by omega, by omega, by omega, fun b hb => by simp [Value.ownBlock] at hb, fun b hb => by simp [Value.ownBlock] at hb⟩
  go_loopw [29] (fun i wr => ∃ k : Nat, ∃ vm vr : Value, ∃ xs : List Int, k ≤ len ∧ i = .int .i64 k ∧ xs.length ≤ k ∧ Two w wr x1.heap.size (x1.heap.size + 1) vm vr (rm room) xs xs) (fun i _ => len - (intOf i).toNat)
  case atStart => exact ⟨0, _, _, [], Nat.zero_le _, rfl, by simp, T0⟩
  case round =>
    clear T0
    obtain ⟨k, vm, vr, xs, hk, rfl, hxk, T⟩ := hrel
    by_cases hlt : k < len
    · obtain ⟨o, ho⟩ : ∃ o, ops[k]? = some o := ⟨ops[k], List.getElem?_eq_getElem (by omega)⟩
      obtain ⟨ho0, ho1⟩ := (hl.below T.b hb0) k o ho
      have HO := hid ho
      clear ho
      have hbr : b < wr.heap.size := Nat.lt_of_lt_of_le hb0 T.b.size
      have hxk' : xs.length ≤ 300 := by omega
      have gmlt := (T.m.cells).2.2.2
      have grlt := (T.r.cells).2.2.2
      have hvm : Hid (∀ o : Obj, vm.ownBlock ≠ some wr.heap.size) := hid (fun _ e => by have := (T.m.2.lt _ e).2; omega)
      have hvr : Hid (∀ o : Obj, vr.ownBlock ≠ some wr.heap.size) := hid (fun _ e => by have := (T.r.2.lt _ e).2; omega)
      by_cases k1 : o.kind = 1
      · have q1 : (o.kind == 1) = true := by simpa using k1
        clear k1
        go_wp2
        have T0 := T.keep ((Chg.refl (fun _ => False) wr).alloc (.cells #[.int .i64 o.kind, .int .i64 o.n] 29))
        go_region_held3 (fun w1 => w1.cell? ⟨wr.heap.size, 1, none⟩ = some (.int .i64 o.n)) (simp [go_sem, *]) (first | (go_at_call 10; refine (msend_any _ _ _ _ _ _ (T0.keep (Chg.refl _ _).drew).m (by omega)).mono ?_; rintro e w2 ⟨rfl, hp⟩; have d2 := hp.cell (B := wr.heap.size) (by simp) (by omega) (hvm.out default) 1; have d2z := (hp.choose_spec.2.1).size; obtain ⟨vm', T2⟩ := (T0.keep (Chg.refl _ _).drew).step_m hp) | (go_at_call 21; refine (rsend_any _ _ _ _ _ _ T2.r (by omega)).mono ?_; rintro e w3 ⟨rfl, hp3⟩; have d3 := hp3.cell (B := wr.heap.size) (by simp at d2z; omega) (by omega) (hvr.out default) 1; obtain ⟨vr', T3'⟩ := T2.step_r hp3))
        go_wp2
        have hx' := sendL_len (rm room) xs o.n
        generalize sendL (rm room) xs o.n = zs at T3' hx'
        have T1 := T3'
        obtain ⟨gc0, gc1, gfz, glt⟩ := T1.r.cells
        obtain ⟨ar, cr, rfl, _, _⟩ := own_form T1.r.2
        go_region_held3 (fun w1 => w1.cell? ⟨x1.heap.size + 1, 0, none⟩ = some (.slice ar zs.length cr)) (simp [go_sem, *]) (first | (go_at_call 16; refine (len_any _ _ _ _ _ (T1.keep (Chg.refl _ _).drew).m (by omega)).mono ?_; rintro e w' ⟨rfl, rfl⟩) | (go_at_call 18; refine (all_any _ _ _ _ _ (T1.keep (Chg.refl _ _).drew).m (by omega)).mono ?_; rintro e w3 ⟨v', rfl, ho3, hb3⟩; have T3 := (T1.keep (Chg.refl _ _).drew).keep (Chg.below hb3); obtain ⟨gc3, _, _, glt3⟩ := T3.r.cells; obtain ⟨a3, c3, rfl, _, _⟩ := own_form (base0 ho3)) | (go_at_call 19; refine (same_eq _ _ zs _ (base0 ho3) T3.r.2 (by omega)).mono ?_; rintro e w4 ⟨rfl, hc4⟩; have T4 := T3.keep hc4; obtain ⟨gc4, _, _, glt4⟩ := T4.r.cells))
        go_wp2
        go_roundw
        case rel => exact ⟨k + 1, _, _, _, by omega, by go_num, by omega, T4⟩
        case measure => simp [intOf]; omega
      by_cases k2 : o.kind = 2
      · have q1 : (o.kind == 1) = false := by simpa using k1
        have q2 : (o.kind == 2) = true := by simpa using k2
        clear k1 k2
        have T0 := T.keep ((Chg.refl (fun _ => False) wr).alloc (.cells #[.int .i64 o.kind, .int .i64 o.n] 29))
        go_wp2_with (first | (go_at_call 12; refine (mtake_any _ _ _ _ _ _ T0.m (by omega)).mono ?_; rintro e w2 ⟨rfl, hp⟩; have d2 := hp.cell (B := wr.heap.size) (by simp) (by omega) (hvm.out default) 1; have d2z := (hp.choose_spec.2.1).size; obtain ⟨vm', T2⟩ := T0.step_m hp) | (go_at_call 22; refine (rtake_any _ _ _ _ _ _ T2.r (by omega)).mono ?_; rintro e w3 ⟨rfl, hp3⟩; obtain ⟨vr', T3'⟩ := T2.step_r hp3))
        have hx' := takeL_len xs o.n
        generalize takeL xs o.n = zs at T3' hx'
        have T1 := T3'
        obtain ⟨gc0, gc1, gfz, glt⟩ := T1.r.cells
        obtain ⟨ar, cr, rfl, _, _⟩ := own_form T1.r.2
        go_region_held3 (fun w1 => w1.cell? ⟨x1.heap.size + 1, 0, none⟩ = some (.slice ar zs.length cr)) (simp [go_sem, *]) (first | (go_at_call 16; refine (len_any _ _ _ _ _ (T1.keep (Chg.refl _ _).drew).m (by omega)).mono ?_; rintro e w' ⟨rfl, rfl⟩) | (go_at_call 18; refine (all_any _ _ _ _ _ (T1.keep (Chg.refl _ _).drew).m (by omega)).mono ?_; rintro e w3 ⟨v', rfl, ho3, hb3⟩; have T3 := (T1.keep (Chg.refl _ _).drew).keep (Chg.below hb3); obtain ⟨gc3, _, _, glt3⟩ := T3.r.cells; obtain ⟨a3, c3, rfl, _, _⟩ := own_form (base0 ho3)) | (go_at_call 19; refine (same_eq _ _ zs _ (base0 ho3) T3.r.2 (by omega)).mono ?_; rintro e w4 ⟨rfl, hc4⟩; have T4 := T3.keep hc4; obtain ⟨gc4, _, _, glt4⟩ := T4.r.cells))
        go_wp2
        go_roundw
        case rel => exact ⟨k + 1, _, _, _, by omega, by go_num, by omega, T4⟩
        case measure => simp [intOf]; omega
      by_cases k3 : o.kind = 3
      · have q1 : (o.kind == 1) = false := by simpa using k1
        have q2 : (o.kind == 2) = false := by simpa using k2
        have q3 : (o.kind == 3) = true := by simpa using k3
        clear k1 k2 k3
        go_wp2
        have T0 := T.keep ((Chg.refl (fun _ => False) wr).alloc (.cells #[.int .i64 o.kind, .int .i64 o.n] 29))
        go_region_held3 (fun w1 => w1.cell? ⟨wr.heap.size, 1, none⟩ = some (.int .i64 o.n)) (simp [go_sem, *]) (first | (go_at_call 14; refine (mdouble_any _ _ _ _ _ _ (T0.keep (Chg.refl _ _).drew).m (by omega)).mono ?_; rintro e w2 ⟨rfl, hp⟩; have d2 := hp.cell (B := wr.heap.size) (by simp) (by omega) (hvm.out default) 1; have d2z := (hp.choose_spec.2.1).size; obtain ⟨vm', T2⟩ := (T0.keep (Chg.refl _ _).drew).step_m hp) | (go_at_call 23; refine (rdouble_any _ _ _ _ _ _ T2.r (by omega)).mono ?_; rintro e w3 ⟨rfl, hp3⟩; have d3 := hp3.cell (B := wr.heap.size) (by simp at d2z; omega) (by omega) (hvr.out default) 1; obtain ⟨vr', T3'⟩ := T2.step_r hp3))
        go_wp2
        have hx' := dblL_len (rm room) xs o.n
        generalize dblL (rm room) xs o.n = zs at T3' hx'
        have T1 := T3'
        obtain ⟨gc0, gc1, gfz, glt⟩ := T1.r.cells
        obtain ⟨ar, cr, rfl, _, _⟩ := own_form T1.r.2
        go_region_held3 (fun w1 => w1.cell? ⟨x1.heap.size + 1, 0, none⟩ = some (.slice ar zs.length cr)) (simp [go_sem, *]) (first | (go_at_call 16; refine (len_any _ _ _ _ _ (T1.keep (Chg.refl _ _).drew).m (by omega)).mono ?_; rintro e w' ⟨rfl, rfl⟩) | (go_at_call 18; refine (all_any _ _ _ _ _ (T1.keep (Chg.refl _ _).drew).m (by omega)).mono ?_; rintro e w3 ⟨v', rfl, ho3, hb3⟩; have T3 := (T1.keep (Chg.refl _ _).drew).keep (Chg.below hb3); obtain ⟨gc3, _, _, glt3⟩ := T3.r.cells; obtain ⟨a3, c3, rfl, _, _⟩ := own_form (base0 ho3)) | (go_at_call 19; refine (same_eq _ _ zs _ (base0 ho3) T3.r.2 (by omega)).mono ?_; rintro e w4 ⟨rfl, hc4⟩; have T4 := T3.keep hc4; obtain ⟨gc4, _, _, glt4⟩ := T4.r.cells))
        go_wp2
        go_roundw
        case rel => exact ⟨k + 1, _, _, _, by omega, by go_num, by omega, T4⟩
        case measure => simp [intOf]; omega
      have q1 : (o.kind == 1) = false := by simpa using k1
      have q2 : (o.kind == 2) = false := by simpa using k2
      have q3 : (o.kind == 3) = false := by simpa using k3
      go_wp2
      have T1 := T.keep ((Chg.refl (fun _ => False) wr).alloc (.cells #[.int .i64 o.kind, .int .i64 o.n] 29))
      obtain ⟨gc0, gc1, gfz, glt⟩ := T1.r.cells
      obtain ⟨ar, cr, rfl, _, _⟩ := own_form T1.r.2
      go_region_held3 (fun w1 => w1.cell? ⟨x1.heap.size + 1, 0, none⟩ = some (.slice ar xs.length cr)) (simp [go_sem, *]) (first | (go_at_call 16; refine (len_any _ _ _ _ _ (T1.keep (Chg.refl _ _).drew).m (by omega)).mono ?_; rintro e w' ⟨rfl, rfl⟩) | (go_at_call 18; refine (all_any _ _ _ _ _ (T1.keep (Chg.refl _ _).drew).m (by omega)).mono ?_; rintro e w3 ⟨v', rfl, ho3, hb3⟩; have T3 := (T1.keep (Chg.refl _ _).drew).keep (Chg.below hb3); obtain ⟨gc3, _, _, glt3⟩ := T3.r.cells; obtain ⟨a3, c3, rfl, _, _⟩ := own_form (base0 ho3)) | (go_at_call 19; refine (same_eq _ _ xs _ (base0 ho3) T3.r.2 (by omega)).mono ?_; rintro e w4 ⟨rfl, hc4⟩; have T4 := T3.keep hc4; obtain ⟨gc4, _, _, glt4⟩ := T4.r.cells))
      go_wp2
      go_roundw
      case rel => exact ⟨k + 1, _, _, _, by omega, by go_num, by omega, T4⟩
      case measure => simp [intOf]; omega
    · obtain rfl : k = len := by omega
      go_wp2
      have T1 := T
      obtain ⟨gc0, gc1, gfz, glt⟩ := T1.r.cells
      obtain ⟨ar, cr, rfl, _, _⟩ := own_form T1.r.2
      go_region_held3 (fun w1 => w1.cell? ⟨x1.heap.size + 1, 0, none⟩ = some (.slice ar xs.length cr)) (simp [go_sem, *]) (first | (go_at_call 18; refine (all_any _ _ _ _ _ (T1.keep (Chg.refl _ _).drew).m (by omega)).mono ?_; rintro e w3 ⟨v', rfl, ho3, hb3⟩; have T3 := (T1.keep (Chg.refl _ _).drew).keep (Chg.below hb3); obtain ⟨gc3, _, _, glt3⟩ := T3.r.cells; obtain ⟨a3, c3, rfl, _, _⟩ := own_form (base0 ho3)) | (go_at_call 19; refine (same_eq _ _ xs _ (base0 ho3) T3.r.2 (by omega)).mono ?_; rintro e w4 ⟨rfl, hc4⟩; have T4 := T3.keep hc4; obtain ⟨gc4, _, _, glt4⟩ := T4.r.cells))
      go_wp2
      go_ret
      exact ⟨rfl, T4.b⟩
set_option maxHeartbeats 4000000 in
theorem plays_nil (room : Int) (a : Option Addr) (cap : Nat) (w : World) :
    Calls Try.prog 5 #[.int .i64 room, .slice a 0 cap] w fun e w' => e = .returned (.bool true) ∧ Below w.heap.size w w' := by
  go_enter Try.func5, Try.ntmps5
  go_wp2_with fail
  refine (awake_any _).mono ?_
  rintro e x1 ⟨rfl, hb1⟩
  go_wp2_with (first | (go_at_call 8; refine (new_any _ _).mono ?_; rintro e w' ⟨rfl, rfl⟩) | (go_at_call 20; refine (rnew_any _ _).mono ?_; rintro e w' ⟨rfl, rfl⟩))
  have T1 : Two w ((x1.alloc (.cells #[.slice none 0 0, .int .i64 (rm room)] 50)).alloc (.cells #[.slice none 0 0, .int .i64 (rm room)] 48)) x1.heap.size (x1.heap.size + 1) (.slice none 0 0) (.slice none 0 0) (rm room) [] [] := by
    have hz := hb1.size
    refine ⟨(new_MI _ _).chg ((Chg.refl (fun _ => False) _).alloc _) (fun h => h) (fun _ _ h => h), by simpa using rnew_MI (rm room) (x1.alloc (.cells #[.slice none 0 0, .int .i64 (rm room)] 50)), by (repeat (first | with_reducible exact Below.refl _ _ | with_reducible assumption | with_reducible refine Below.drew ?_ | with_reducible refine bl_drewN ?_ | (with_reducible refine bl_alloc ?_ ?_; · (first | omega | (simp; done) | (simp; omega))) | (with_reducible refine bl_set ?_ ?_; · (first | omega | (simp; done) | (simp; omega))) | (with_reducible refine bl_trans hb1 ?_ ?_; · (first | omega | (simp; done) | (simp; omega))))), by omega, by omega, by omega, fun b hb => by simp [Value.ownBlock] at hb, fun b hb => by simp [Value.ownBlock] at hb⟩
  refine wp_loop_rounds 1 ?_
  rw [rounds_succ]
  go_wp2
  obtain ⟨gc0, gc1, gfz, glt⟩ := T1.r.cells
  skip
  go_region_held3 (fun w1 => w1.cell? ⟨x1.heap.size + 1, 0, none⟩ = some (.slice none 0 0)) (simp [go_sem, *]) (first | (go_at_call 18; refine (all_any _ _ _ _ _ (T1.keep (Chg.refl _ _).drew).m (by simp)).mono ?_; rintro e w3 ⟨v', rfl, ho3, hb3⟩; have T3 := (T1.keep (Chg.refl _ _).drew).keep (Chg.below hb3); obtain ⟨gc3, _, _, glt3⟩ := T3.r.cells; obtain ⟨a3, c3, rfl, _, _⟩ := own_form (base0 ho3)) | (go_at_call 19; refine (same_eq _ _ [] _ (base0 ho3) T3.r.2 (by simp)).mono ?_; rintro e w4 ⟨rfl, hc4⟩; have T4 := T3.keep hc4; obtain ⟨gc4, _, _, glt4⟩ := T4.r.cells))
  go_wp2
  go_ret
  exact ⟨rfl, T4.b⟩
set_option maxHeartbeats 4000000 in
theorem plays_long (room : Int) (a : Option Addr) (len cap : Nat) (w : World) (h : 300 < len) :
    Calls Try.prog 5 #[.int .i64 room, .slice a len cap] w fun e w' => e = .returned (.bool true) ∧ Below w.heap.size w w' := by
  have h300 : (300 : Int) < len := by omega
  go_enter Try.func5, Try.ntmps5
  go_wp2_with fail
  refine (awake_any _).mono ?_
  rintro e x1 ⟨rfl, hb1⟩
  go_wp2_with fail
  refine (awake_any _).mono ?_
  rintro e x2 ⟨rfl, hb2⟩
  have hz := hb1.size
  go_wp2
  go_ret
  exact ⟨rfl, by (repeat (first | with_reducible exact Below.refl _ _ | with_reducible assumption | with_reducible refine Below.drew ?_ | with_reducible refine bl_drewN ?_ | (with_reducible refine bl_alloc ?_ ?_; · (first | omega | (simp; done) | (simp; omega))) | (with_reducible refine bl_set ?_ ?_; · (first | omega | (simp; done) | (simp; omega))) | (with_reducible refine bl_trans hb2 ?_ ?_; · (first | omega | (simp; done) | (simp; omega))) | (with_reducible refine bl_trans hb1 ?_ ?_; · (first | omega | (simp; done) | (simp; omega)))))⟩
end Go.Proofs.Ythioendhhaancaa
