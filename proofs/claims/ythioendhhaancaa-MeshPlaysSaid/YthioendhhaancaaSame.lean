/- The reference's mesh, Double; and its Same at two lists that are alike. No conditions. -/
import Derived.Test.YthioendhhaancaaRef
namespace Go.Proofs.Ythioendhhaancaa
open Go.RowKit Go.Lw
attribute [local go_sem] lt_p2 le_p2 lt_p3 le_p3 lt_p4 le_p4 lt_p5 le_p5 lt_p6 le_p6 lt_p7 le_p7 lt_p8 le_p8 lt_p9 le_p9 lt_p10 le_p10 lt_p11 le_p11 lt_p12 le_p12 lt_p13 le_p13 lt_p14 le_p14 lt_p15 le_p15 lt_p16 le_p16 le_c0 le_c1 lt_c2 le_c2 lt_c3 le_c3 lt_c4 le_c4 lt_c5 le_c5 lt_c6 le_c6 lt_c7 le_c7 lt_c8 le_c8 lt_c9 le_c9 lt_c10 le_c10 lt_c11 le_c11 lt_c12 le_c12 lt_c13 le_c13 lt_c14 le_c14 lt_c15 le_c15 lt_c16 le_c16 cell_set uponV_value uponV_skip uponV_enter
set_option linter.unusedVariables false
set_option linter.unusedSimpArgs false

set_option maxHeartbeats 1000000 in
theorem rdouble_no (g : Nat) (v : Value) (room : Int) (xs : List Int) (w : World) (i : Int) (h : MI 48 w g v room xs) (hx : xs.length ≤ 70000) (hk : i < 0 ∨ (xs.length : Int) ≤ i) :
    Calls Try.prog 23 #[.pointer (some ⟨g, 0, none⟩), .int .i64 i] w fun e w' => e = .returned (.bool false) ∧ w = w' := by
  obtain ⟨hc0, hc1, hf, hg⟩ := h.cells
  obtain ⟨a, cap, rfl, _, _⟩ := own_form h.2
  by_cases h0 : (0 : Int) ≤ i
  · have h1 : ¬ i < xs.length := by omega
    go_enter Try.func23, Try.ntmps23
    go_wp2
    go_ret
    exact ⟨ret_bool (by simp <;> omega), rfl⟩
  · go_enter Try.func23, Try.ntmps23
    go_wp2
    go_ret
    exact ⟨ret_bool (by simp <;> omega), rfl⟩
set_option maxHeartbeats 1000000 in
theorem rdouble_full (g : Nat) (v : Value) (room : Int) (xs : List Int) (w : World) (k : Nat) (h : MI 48 w g v room xs) (hx : xs.length ≤ 70000) (hk : k < xs.length) (hr : room ≤ xs.length) :
    Calls Try.prog 23 #[.pointer (some ⟨g, 0, none⟩), .int .i64 k] w fun e w' => e = .returned (.bool false) ∧ Chg (fun _ => False) w w' := by
  obtain ⟨hc0, hc1, hf, hg⟩ := h.cells
  obtain ⟨r, cap, rfl, hl, hcm, hr', hcells⟩ := row_form h.2 (by omega)
  have hck := hcells k hk
  clear hcells
  have h0 : (0 : Int) ≤ k := by omega
  have h1 : (k : Int) < xs.length := by omega
  go_enter Try.func23, Try.ntmps23
  go_wp2_with (first | (go_at_call 21; refine (rsend_no _ _ _ _ _ _ h hx hr).mono ?_; rintro e w3 ⟨rfl, hch⟩))
  go_ret
  exact ⟨rfl, hch⟩
set_option maxHeartbeats 1000000 in
theorem rdouble_yes (g : Nat) (v : Value) (room : Int) (xs : List Int) (w : World) (k : Nat) (h : MI 48 w g v room xs) (hx : xs.length ≤ 70000) (hk : k < xs.length) (hr : (xs.length : Int) < room) :
    Calls Try.prog 23 #[.pointer (some ⟨g, 0, none⟩), .int .i64 k] w fun e w' => e = .returned (.bool true) ∧ SendPost 48 w g v room (xs ++ [xs[k]]) w' := by
  obtain ⟨hc0, hc1, hf, hg⟩ := h.cells
  obtain ⟨r, cap, rfl, hl, hcm, hr', hcells⟩ := row_form h.2 (by omega)
  have hck := hcells k hk
  clear hcells
  have h0 : (0 : Int) ≤ k := by omega
  have h1 : (k : Int) < xs.length := by omega
  go_enter Try.func23, Try.ntmps23
  go_wp2_with (first | (go_at_call 21; refine (rsend_yes _ _ _ _ _ _ h hx hr).mono ?_; rintro e w3 ⟨rfl, hch⟩))
  go_ret
  exact ⟨rfl, hch⟩
theorem len_own {w : World} {base : Nat} {v : Value} {n : Nat} {cs : List Value} (h : w.ownsRow base 3 1 v n cs) : w.ownsRow 0 3 1 v n cs := base0 h
set_option maxHeartbeats 2000000 in
theorem same_eq (va vb : Value) (xs : List Int) (w : World) (ha : w.ownsRow 0 3 1 va xs.length (xs.map (.int .i64))) (hb : w.ownsRow 0 3 1 vb xs.length (xs.map (.int .i64))) (hx : xs.length ≤ 70000) :
    Calls Try.prog 19 #[va, vb] w fun e w' => e = .returned (.bool true) ∧ Chg (fun _ => False) w w' := by
  by_cases hn : 0 < xs.length
  · obtain ⟨ra, ca, rfl, hla, hcma, hra, hca⟩ := row_form ha hn
    obtain ⟨rb, cb, rfl, hlb, hcmb, hrb, hcb⟩ := row_form hb hn
    have HA := hid hca
    have HB := hid hcb
    clear hca hcb
    go_enter Try.func19, Try.ntmps19
    go_wp2
    go_loopw [13] (fun i wr => ∃ k : Nat, k ≤ xs.length ∧ i = .int .i64 k ∧ Chg (fun _ => False) w wr) (fun i _ => xs.length - (intOf i).toNat)
    case atStart => exact ⟨0, Nat.zero_le _, rfl, Chg.refl _ _⟩
    case round =>
      obtain ⟨k, hk, rfl, hch⟩ := hrel
      by_cases hlt : k < xs.length
      · have ga := (hch.cell hra (fun h => h) k).trans (HA.out k hlt)
        have gb := (hch.cell hrb (fun h => h) k).trans (HB.out k hlt)
        have la := Nat.lt_of_lt_of_le hra hch.size
        have lb := Nat.lt_of_lt_of_le hrb hch.size
        go_wp2
        refine wp_region_B (by kernel_rfl) (by kernel_rfl) ?_
        (repeat (first | (apply runS_skip (by rfl); (try simp only [Act.put, List.setIfInBounds_toArray, List.set_cons_zero, List.set_cons_succ])) | (apply runS_cons (by rfl); (· (intro w1 hS K hK; obtain ⟨q1, q2⟩ := cells_B hS; (go_simp); (first | with_reducible exact hK _ hS | exact hK _ hS))); (try simp only [Act.put, List.setIfInBounds_toArray, List.set_cons_zero, List.set_cons_succ]))))
        refine runS_nil (fun w2 hb2 => ?_)
        go_wp2
        go_roundw
        case rel => exact ⟨k + 1, by omega, by go_num, hch.trans (Chg.below hb2) (fun _ _ h => h)⟩
        case measure => simp [intOf]; omega
      · obtain rfl : k = xs.length := by omega
        go_wp2
        go_ret
        exact ⟨rfl, hch⟩
  · obtain ⟨a1, c1, rfl, _, _⟩ := own_form ha
    obtain ⟨a2, c2, rfl, _, _⟩ := own_form hb
    obtain rfl : xs = [] := List.length_eq_zero_iff.1 (by omega)
    go_enter Try.func19, Try.ntmps19
    go_wp2
    refine wp_loop_rounds 1 ?_
    rw [rounds_succ]
    go_wp2
    go_ret
    exact ⟨rfl, Chg.refl _ _⟩
end Go.Proofs.Ythioendhhaancaa
