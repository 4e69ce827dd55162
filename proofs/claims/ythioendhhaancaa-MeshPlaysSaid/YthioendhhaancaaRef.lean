/- The reference's mesh, each function by a contract. No conditions. -/
import Derived.Test.YthioendhhaancaaNilW
namespace Go.Proofs.Ythioendhhaancaa
open Go.RowKit Go.Lw
attribute [local go_sem] lt_p2 le_p2 lt_p3 le_p3 lt_p4 le_p4 lt_p5 le_p5 lt_p6 le_p6 lt_p7 le_p7 lt_p8 le_p8 lt_p9 le_p9 lt_p10 le_p10 lt_p11 le_p11 lt_p12 le_p12 lt_p13 le_p13 lt_p14 le_p14 lt_p15 le_p15 lt_p16 le_p16 le_c0 le_c1 lt_c2 le_c2 lt_c3 le_c3 lt_c4 le_c4 lt_c5 le_c5 lt_c6 le_c6 lt_c7 le_c7 lt_c8 le_c8 lt_c9 le_c9 lt_c10 le_c10 lt_c11 le_c11 lt_c12 le_c12 lt_c13 le_c13 lt_c14 le_c14 lt_c15 le_c15 lt_c16 le_c16 cell_set uponV_value uponV_skip uponV_enter
set_option linter.unusedVariables false
set_option linter.unusedSimpArgs false

theorem rnew_any (room : Int) (w : World) : Calls Try.prog 20 #[.int .i64 room] w fun e w' => e = .returned (.pointer (some ⟨w.heap.size, 0, none⟩)) ∧ w.alloc (.cells #[.slice none 0 0, .int .i64 (rm room)] 48) = w' := by
  go_enter Try.func20, Try.ntmps20
  go_wp2
  go_ret
  exact ⟨rfl, rfl⟩
theorem rnew_MI (room : Int) (w : World) : MI 48 (w.alloc (.cells #[.slice none 0 0, .int .i64 room] 48)) w.heap.size (.slice none 0 0) room [] :=
  ⟨by show (w.heap.push _)[w.heap.size]? = _; simp, World.ownsRow_nil _ _ _ _⟩
set_option maxHeartbeats 1000000 in
theorem rsend_no (g : Nat) (v : Value) (room : Int) (xs : List Int) (w : World) (x : Int) (h : MI 48 w g v room xs) (hx : xs.length ≤ 70000) (hr : room ≤ xs.length) :
    Calls Try.prog 21 #[.pointer (some ⟨g, 0, none⟩), .int .i64 x] w fun e w' => e = .returned (.bool false) ∧ Chg (fun _ => False) w w' := by
  obtain ⟨hc0, hc1, hf, hg⟩ := h.cells
  obtain ⟨a, cap, rfl, _, _⟩ := own_form h.2
  go_enter Try.func21, Try.ntmps21
  go_wp2
  refine wp_region_B (by kernel_rfl) (by kernel_rfl) ?_
  (repeat (first | (apply runS_skip (by rfl); (try simp only [Act.put, List.setIfInBounds_toArray, List.set_cons_zero, List.set_cons_succ])) | (apply runS_cons (by rfl); (· (intro w1 hS K hK; obtain ⟨q1, q2⟩ := cells_B hS; (go_simp); (first | with_reducible exact hK _ hS | exact hK _ hS))); (try simp only [Act.put, List.setIfInBounds_toArray, List.set_cons_zero, List.set_cons_succ]))))
  refine runS_nil (fun w2 hb2 => ?_)
  go_wp2
  go_ret
  exact ⟨rfl, Chg.below (by (repeat (first | with_reducible exact Below.refl _ _ | with_reducible assumption | with_reducible refine Below.drew ?_ | with_reducible refine bl_drewN ?_ | (with_reducible refine bl_alloc ?_ ?_; · (first | omega | (simp; done) | (simp; omega))) | (with_reducible refine bl_set ?_ ?_; · (first | omega | (simp; done) | (simp; omega))) | (with_reducible refine bl_trans hb2 ?_ ?_; · (first | omega | (simp; done) | (simp; omega))))))⟩
set_option maxHeartbeats 1000000 in
theorem rsend_yes (g : Nat) (v : Value) (room : Int) (xs : List Int) (w : World) (x : Int) (h : MI 48 w g v room xs) (hx : xs.length ≤ 70000) (hr : (xs.length : Int) < room) :
    Calls Try.prog 21 #[.pointer (some ⟨g, 0, none⟩), .int .i64 x] w fun e w' => e = .returned (.bool true) ∧ SendPost 48 w g v room (xs ++ [x]) w' := by
  obtain ⟨hc0, hc1, hf, hg⟩ := h.cells
  obtain ⟨a, cap, rfl, _, _⟩ := own_form h.2
  go_enter Try.func21, Try.ntmps21
  go_wp2
  refine wp_region_B (by kernel_rfl) (by kernel_rfl) ?_
  (repeat (first | (apply runS_skip (by rfl); (try simp only [Act.put, List.setIfInBounds_toArray, List.set_cons_zero, List.set_cons_succ])) | (apply runS_cons (by rfl); (· (intro w1 hS K hK; obtain ⟨q1, q2⟩ := cells_B hS; (go_simp); (first | with_reducible exact hK _ hS | exact hK _ hS))); (try simp only [Act.put, List.setIfInBounds_toArray, List.set_cons_zero, List.set_cons_succ]))))
  refine runS_nil (fun w2 hb2 => ?_)
  obtain ⟨k1, k2⟩ := cells_B hb2
  have hz2 : g < w2.heap.size := Nat.lt_of_lt_of_le hg hb2.size
  have hne : Hid ((Value.slice a xs.length cap).ownBlock ≠ some g) := hid (ownsRow_type h.2 h.1 (by decide))
  obtain ⟨i0, hi, hi0, hi1, hi2⟩ := info_parts info3
  have ho2 : w2.ownsRow 0 3 1 (.slice a xs.length cap) xs.length (xs.map (.int .i64)) := ownsRow_chg h.2 (Chg.below (F := fun _ => False) hb2) (fun _ _ h => h)
  go_wp2_with (at_builtin; refine wpList_append_own_at _ rfl _ _ 39 rfl 0 3 i0 (.int .i64 0) 1 8 Try.underlying39 hi hi0 hi1 hi2 rfl (by decide) _ _ _ rfl (ho2.alloc _) ⟨w2.heap.size, 0, none⟩ 1 1 [.int .i64 x] rfl rfl (cell_one_new _ _ _) (by simp [Value.oneCell']) (by unfold maxLen; omega) (by omega) (Nat.zero_le _) ?_; intro v' w3 hown' hgrow _ hat; obtain ⟨a', cap', rfl, _, _⟩ := own_form hown'; have c3 : ∀ o, w3.cell? ⟨g, o, none⟩ = _ := fun o => (Chg.grown hgrow).cell (b := g) (by simp <;> omega) hne.out o; have f3 : ∀ o, w3.frozen? ⟨g, o, none⟩ = _ := fun o => (Chg.grown hgrow).frozen (b := g) (by simp <;> omega) hne.out o)
  go_ret
  exact ⟨rfl, send_post (by decide) h hb2 (by simp) (by simp) hown' hgrow hat⟩
set_option maxHeartbeats 1000000 in
theorem rtake_no (g : Nat) (v : Value) (room : Int) (xs : List Int) (w : World) (i : Int) (h : MI 48 w g v room xs) (hx : xs.length ≤ 70000) (hk : i < 0 ∨ (xs.length : Int) ≤ i) :
    Calls Try.prog 22 #[.pointer (some ⟨g, 0, none⟩), .int .i64 i] w fun e w' => e = .returned (.tuple #[.int .i64 0, .bool false]) ∧ w = w' := by
  obtain ⟨hc0, hc1, hf, hg⟩ := h.cells
  obtain ⟨a, cap, rfl, _, _⟩ := own_form h.2
  by_cases h0 : i < 0
  · go_enter Try.func22, Try.ntmps22
    go_wp2
    go_ret2
    exact ⟨rfl, rfl⟩
  · have h1 : (xs.length : Int) ≤ i := by omega
    go_enter Try.func22, Try.ntmps22
    go_wp2
    go_ret2
    exact ⟨rfl, rfl⟩
theorem own_eq {w : World} {v : Value} {n : Nat} {cs : List Value} {ys : List Int} (h : w.ownsRow 0 3 1 v n cs) (hn : n = ys.length) (hc : cs = ys.map (.int .i64)) : w.ownsRow 0 3 1 v ys.length (ys.map (.int .i64)) := by subst hn hc; exact h
theorem news_at {w : World} {r : Nat} {xs : List Int} (hc : ∀ j (hj : j < xs.length), w.cell? ⟨r, j, none⟩ = some (.int .i64 xs[j])) (a m : Nat) (h : a + m ≤ xs.length) :
    ∀ j u, (((xs.drop a).take m).map (Value.int .i64))[j]? = some u → w.cell? ((⟨r, a, none⟩ : Addr).add j) = some u := by
  intro j u hu
  have hj : j < m := by
    rcases Nat.lt_or_ge j m with hj | hj
    · exact hj
    · rw [List.getElem?_eq_none (by simp; omega)] at hu; cases hu
  have hadd : (⟨r, a, none⟩ : Addr).add j = ⟨r, a + j, none⟩ := by unfold Addr.add; split <;> simp_all
  rw [hadd, hc (a + j) (by omega)]
  simp [hj, show a + j < xs.length by omega] at hu
  rw [← hu]
set_option maxHeartbeats 2000000 in
theorem rtake_yes (g : Nat) (v : Value) (room : Int) (xs : List Int) (w : World) (k : Nat) (h : MI 48 w g v room xs) (hx : xs.length ≤ 70000) (hk : k < xs.length) :
    Calls Try.prog 22 #[.pointer (some ⟨g, 0, none⟩), .int .i64 k] w fun e w' => e = .returned (.tuple #[.int .i64 xs[k], .bool true]) ∧ SendPost 48 w g v room (xs.eraseIdx k) w' := by
  obtain ⟨hc0, hc1, hf, hg⟩ := h.cells
  obtain ⟨r, cap, rfl, hl, hcm, hr, hcells⟩ := row_form h.2 (by omega)
  have hck := hcells k hk
  have HC := hid hcells
  clear hcells
  have h0 : (0 : Int) ≤ k := by omega
  have h1 : (k : Int) < xs.length := by omega
  have h2 : (xs.length : Int) ≤ 70000 := by omega
  obtain ⟨i0, hi, hi0, hi1, hi2⟩ := info_parts info3
  have HN1 := hid (news_at HC.out 0 k (by omega))
  by_cases hcap : cap = k + 1
  · subst hcap
    have hxl : xs.length ≤ k + 1 := hl
    go_enter Try.func22, Try.ntmps22
    go_wp2_with (first | (at_builtin; refine wpList_append_own_at _ rfl (.tmp 26) (.tmp 32) 39 rfl w.heap.size 3 i0 (.int .i64 0) 1 8 Try.underlying39 hi hi0 hi1 hi2 rfl (by decide) _ 0 [] rfl (World.ownsRow_nil _ _ _ _) ⟨r, 0, none⟩ k (k + 1) (((xs.drop 0).take k).map (.int .i64)) rfl (by simp; omega) HN1.out (ints_oneCell _ _) (by unfold maxLen; omega) (by omega) (Nat.le_refl _) ?_; intro v1 w3 hown1 hgrow1 _ hat1; have ch1 : Chg (fun _ => False) w w3 := (Chg.grown hgrow1).mono (fun b _ hb => by have hb' : (none : Option Nat) = some b := hb; cases hb'); have c3 : ∀ o, w3.cell? ⟨g, o, none⟩ = _ := fun o => ch1.cell (b := g) hg (fun h => h) o; have f3 : ∀ o, w3.frozen? ⟨g, o, none⟩ = _ := fun o => ch1.frozen (b := g) hg (fun h => h) o; simp only [Nat.zero_add, List.nil_append, List.drop_zero] at hown1; have hn1 := hid hown1.lt) | (at_builtin; refine wpList_append_own_at _ rfl (.tmp 35) (.tmp 42) 39 rfl w.heap.size 3 i0 (.int .i64 0) 1 8 Try.underlying39 hi hi0 hi1 hi2 rfl (by decide) _ _ _ rfl hown1 ⟨r, 0, none⟩ 0 0 [] rfl (by simp <;> omega) (by simp) (by simp [Value.oneCell']) (by unfold maxLen; omega) (by omega) ch1.size ?_; intro v2 w4 hown2 hgrow2 _ hat2; obtain ⟨a', cap', rfl, _, _⟩ := own_form (base0 hown2); have ch2 := Chg.grown hgrow2; have hgn : Hid (v1.ownBlock ≠ some g) := hid (fun e => by have := (hn1.out g e).1; omega); have c4 : ∀ o, w4.cell? ⟨g, o, none⟩ = _ := fun o => ch2.cell (b := g) (Nat.lt_of_lt_of_le hg ch1.size) hgn.out o; have f4 : ∀ o, w4.frozen? ⟨g, o, none⟩ = _ := fun o => ch2.frozen (b := g) (Nat.lt_of_lt_of_le hg ch1.size) hgn.out o))
    go_ret2
    have hch : Chg (fun b => (Value.slice (some ⟨r, 0, none⟩) xs.length (k + 1)).ownBlock = some b) w w4 := (ch1.trans ch2 (fun b hb e => by have := (hn1.out b e).1; omega)).mono (fun _ _ h => h.elim)
    have hfr : ∀ b, v1.ownBlock = some b → w.heap.size ≤ b := fun b e => (hn1.out b e).1
    have ho2 := hown2.lt
    refine ⟨rfl, put_post (by decide) h hch (own_eq (base0 hown2) (by simp [List.length_eraseIdx, hk]; omega) (by rw [List.append_nil, List.eraseIdx_eq_take_drop_succ, List.drop_of_length_le (by omega), List.append_nil])) ?_⟩
    exact fun b hb => .inr (ho2 b hb).1

  · have HN2 : ∀ w3 : World, (∀ j (hj : j < xs.length), w3.cell? ⟨r, j, none⟩ = some (.int .i64 xs[j])) → _ := fun w3 hc => news_at hc (k + 1) (xs.length - (k + 1)) (by omega)
    have HH := hid HN2
    clear HN2
    go_enter Try.func22, Try.ntmps22
    go_wp2_with (first | (at_builtin; refine wpList_append_own_at _ rfl (.tmp 26) (.tmp 32) 39 rfl w.heap.size 3 i0 (.int .i64 0) 1 8 Try.underlying39 hi hi0 hi1 hi2 rfl (by decide) _ 0 [] rfl (World.ownsRow_nil _ _ _ _) ⟨r, 0, none⟩ k cap (((xs.drop 0).take k).map (.int .i64)) rfl (by simp; omega) HN1.out (ints_oneCell _ _) (by unfold maxLen; omega) (by omega) (Nat.le_refl _) ?_; intro v1 w3 hown1 hgrow1 _ hat1; have ch1 : Chg (fun _ => False) w w3 := (Chg.grown hgrow1).mono (fun b _ hb => by have hb' : (none : Option Nat) = some b := hb; cases hb'); have c3 : ∀ o, w3.cell? ⟨g, o, none⟩ = _ := fun o => ch1.cell (b := g) hg (fun h => h) o; have f3 : ∀ o, w3.frozen? ⟨g, o, none⟩ = _ := fun o => ch1.frozen (b := g) hg (fun h => h) o; simp only [Nat.zero_add, List.nil_append, List.drop_zero] at hown1; have hn1 := hid hown1.lt) | (at_builtin; refine wpList_append_own_at _ rfl (.tmp 35) (.tmp 42) 39 rfl w.heap.size 3 i0 (.int .i64 0) 1 8 Try.underlying39 hi hi0 hi1 hi2 rfl (by decide) _ _ _ rfl hown1 ⟨r, k + 1, none⟩ (xs.length - (k + 1)) (cap - (k + 1)) (((xs.drop (k + 1)).take (xs.length - (k + 1))).map (.int .i64)) rfl (by simp <;> omega) (HH.out w3 (fun j hj => by rw [ch1.cell (b := r) hr (fun h => h)]; exact HC.out j hj)) (ints_oneCell _ _) (by unfold maxLen; omega) (by omega) ch1.size ?_; intro v2 w4 hown2 hgrow2 _ hat2; obtain ⟨a', cap', rfl, _, _⟩ := own_form (base0 hown2); have ch2 := Chg.grown hgrow2; have hgn : Hid (v1.ownBlock ≠ some g) := hid (fun e => by have := (hn1.out g e).1; omega); have c4 : ∀ o, w4.cell? ⟨g, o, none⟩ = _ := fun o => ch2.cell (b := g) (Nat.lt_of_lt_of_le hg ch1.size) hgn.out o; have f4 : ∀ o, w4.frozen? ⟨g, o, none⟩ = _ := fun o => ch2.frozen (b := g) (Nat.lt_of_lt_of_le hg ch1.size) hgn.out o))
    go_ret2
    have hch : Chg (fun b => (Value.slice (some ⟨r, 0, none⟩) xs.length cap).ownBlock = some b) w w4 := (ch1.trans ch2 (fun b hb e => by have := (hn1.out b e).1; omega)).mono (fun _ _ h => h.elim)
    have hfr : ∀ b, v1.ownBlock = some b → w.heap.size ≤ b := fun b e => (hn1.out b e).1
    have ho2 := hown2.lt
    refine ⟨rfl, put_post (by decide) h hch (own_eq (base0 hown2) (by simp [List.length_eraseIdx, hk]; omega) (by rw [show (xs.drop (k + 1)).take (xs.length - (k + 1)) = xs.drop (k + 1) from List.take_of_length_le (by simp), List.eraseIdx_eq_take_drop_succ, List.map_append])) ?_⟩
    exact fun b hb => .inr (ho2 b hb).1
end Go.Proofs.Ythioendhhaancaa
