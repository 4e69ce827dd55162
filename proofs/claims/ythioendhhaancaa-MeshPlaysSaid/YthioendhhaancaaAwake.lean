/- The functions of package mesh that double, tell all and make anew, each by a contract. No conditions. -/
import Derived.Test.YthioendhhaancaaTake
namespace Go.Proofs.Ythioendhhaancaa
open Go.RowKit Go.Lw
attribute [local go_sem] lt_p2 le_p2 lt_p3 le_p3 lt_p4 le_p4 lt_p5 le_p5 lt_p6 le_p6 lt_p7 le_p7 lt_p8 le_p8 lt_p9 le_p9 lt_p10 le_p10 lt_p11 le_p11 lt_p12 le_p12 lt_p13 le_p13 lt_p14 le_p14 lt_p15 le_p15 lt_p16 le_p16 le_c0 le_c1 lt_c2 le_c2 lt_c3 le_c3 lt_c4 le_c4 lt_c5 le_c5 lt_c6 le_c6 lt_c7 le_c7 lt_c8 le_c8 lt_c9 le_c9 lt_c10 le_c10 lt_c11 le_c11 lt_c12 le_c12 lt_c13 le_c13 lt_c14 le_c14 lt_c15 le_c15 lt_c16 le_c16 cell_set uponV_value uponV_skip uponV_enter
set_option linter.unusedVariables false
set_option linter.unusedSimpArgs false

theorem double_no (p : Option Addr) (w : World) (i : Int) (ht : ∀ w, Calls Try.prog 24 #[.pointer p, .int .i64 i] w fun e w' => e = .returned (.bool false) ∧ w = w') :
    Calls Try.prog 14 #[.pointer p, .int .i64 i] w fun e w' => e = .returned (.bool false) ∧ w = w' := by
  go_enter Try.func14, Try.ntmps14
  go_wp2_with (first | (go_at_call 24; refine (ht _).mono ?_; rintro e w' ⟨rfl, rfl⟩))
  go_ret
  exact ⟨rfl, rfl⟩
set_option maxHeartbeats 1000000 in
theorem double_full (g : Nat) (v : Value) (room : Int) (xs : List Int) (w : World) (k : Nat) (h : MI 50 w g v room xs) (hx : xs.length ≤ 70000) (hk : k < xs.length) (hr : room ≤ xs.length) :
    Calls Try.prog 14 #[.pointer (some ⟨g, 0, none⟩), .int .i64 k] w fun e w' => e = .returned (.bool false) ∧ Chg (fun _ => False) w w' := by
  obtain ⟨hc0, hc1, hf, hg⟩ := h.cells
  obtain ⟨r, cap, rfl, hl, hcm, hr', hcells⟩ := row_form h.2 (by omega)
  have hck := hcells k hk
  clear hcells
  have h0 : (0 : Int) ≤ k := by omega
  have h1 : (k : Int) < xs.length := by omega
  go_enter Try.func14, Try.ntmps14
  go_wp2_with (first | (go_at_call 24; refine (there_t _ _ _ _ _ _ h hx hk).mono ?_; rintro e w' ⟨rfl, rfl⟩) | (go_at_call 10; refine (send_no _ _ _ _ _ _ h hx hr).mono ?_; rintro e w3 ⟨rfl, hch⟩))
  go_ret
  exact ⟨rfl, hch⟩
set_option maxHeartbeats 1000000 in
theorem double_yes (g : Nat) (v : Value) (room : Int) (xs : List Int) (w : World) (k : Nat) (h : MI 50 w g v room xs) (hx : xs.length ≤ 70000) (hk : k < xs.length) (hr : (xs.length : Int) < room) :
    Calls Try.prog 14 #[.pointer (some ⟨g, 0, none⟩), .int .i64 k] w fun e w' => e = .returned (.bool true) ∧ SendPost 50 w g v room (xs ++ [xs[k]]) w' := by
  obtain ⟨hc0, hc1, hf, hg⟩ := h.cells
  obtain ⟨r, cap, rfl, hl, hcm, hr', hcells⟩ := row_form h.2 (by omega)
  have hck := hcells k hk
  clear hcells
  have h0 : (0 : Int) ≤ k := by omega
  have h1 : (k : Int) < xs.length := by omega
  go_enter Try.func14, Try.ntmps14
  go_wp2_with (first | (go_at_call 24; refine (there_t _ _ _ _ _ _ h hx hk).mono ?_; rintro e w' ⟨rfl, rfl⟩) | (go_at_call 10; refine (send_yes _ _ _ _ _ _ h hx hr).mono ?_; rintro e w3 ⟨rfl, hch⟩))
  go_ret
  exact ⟨rfl, hch⟩
theorem send_nil (w : World) (x : Int) : Calls Try.prog 10 #[.pointer none, .int .i64 x] w fun e w' => e = .returned (.bool false) ∧ Chg (fun _ => False) w w' := by
  go_enter Try.func10, Try.ntmps10
  go_wp2
  refine wp_region_B (by kernel_rfl) (by kernel_rfl) ?_
  (repeat (first | (apply runS_skip (by rfl); (try simp only [Act.put, List.setIfInBounds_toArray, List.set_cons_zero, List.set_cons_succ])) | (apply runS_cons (by rfl); (· (intro w1 hS K hK; obtain ⟨q1, q2⟩ := cells_B hS; (go_simp); (first | with_reducible exact hK _ hS | exact hK _ hS))); (try simp only [Act.put, List.setIfInBounds_toArray, List.set_cons_zero, List.set_cons_succ]))))
  refine runS_nil (fun w2 hb2 => ?_)
  go_wp2
  go_ret
  exact ⟨rfl, Chg.below hb2⟩
def AllPost (w : World) (xs : List Int) (e : Ending) (w' : World) : Prop := ∃ v', e = .returned v' ∧ w'.ownsRow w.heap.size 3 1 v' xs.length (xs.map (.int .i64)) ∧ Below w.heap.size w w'
theorem all_nil (w : World) : Calls Try.prog 18 #[.pointer none] w (AllPost w []) := by
  go_enter Try.func18, Try.ntmps18
  go_wp2
  go_ret
  exact ⟨_, rfl, World.ownsRow_nil _ _ _ _, Below.refl _ _⟩
theorem clone_any (w : World) (v : Value) (xs : List Int) (h : w.ownsRow 0 3 1 v xs.length (xs.map (.int .i64))) (hx : xs.length ≤ 70000) : Calls Try.prog 28 #[v] w (AllPost w xs) := by
  rcases h.2 with ⟨rfl, hn⟩ | ⟨r, cap, cur, rfl, _, hh, hl, hcm, hsz, htk⟩
  · obtain rfl : xs = [] := List.length_eq_zero_iff.1 hn
    refine (Try.slices_Clone_int_nil 0 0 w).mono ?_
    rintro e w' ⟨rfl, rfl⟩
    exact ⟨_, rfl, World.ownsRow_nil _ _ _ _, Below.refl _ _⟩
  · by_cases h0 : xs.length = 0
    · obtain rfl : xs = [] := List.length_eq_zero_iff.1 h0
      refine (Try.slices_Clone_int_zero _ cap w).mono ?_
      rintro e w' ⟨v', rfl, ho, _, hb⟩
      exact ⟨_, rfl, ho, hb⟩
    · refine (Try.slices_Clone_int r 0 xs.length cap xs w (Nat.le_refl _) (by omega) (fun j hj => ?_)).mono ?_
      · rw [Nat.zero_add, h.cellAt j (by omega), toList_ints xs j hj]; simp [hj]
      · rintro e w' ⟨v', rfl, ho, _, hb⟩
        rw [List.take_of_length_le (Nat.le_refl _)] at ho
        exact ⟨_, rfl, ho, hb⟩
set_option maxHeartbeats 1000000 in
theorem all_any (g : Nat) (v : Value) (room : Int) (xs : List Int) (w : World) (h : MI 50 w g v room xs) (hx : xs.length ≤ 70000) : Calls Try.prog 18 #[.pointer (some ⟨g, 0, none⟩)] w (AllPost w xs) := by
  obtain ⟨hc0, hc1, hf, hg⟩ := h.cells
  obtain ⟨a, cap, rfl, _, _⟩ := own_form h.2
  go_enter Try.func18, Try.ntmps18
  go_wp2_with (first | (go_at_call 28; refine (clone_any _ _ _ h.2 hx).mono ?_; rintro e w3 ⟨v', rfl, ho, hb⟩))
  go_ret
  exact ⟨_, rfl, ho, hb⟩
def rm (room : Int) : Int := max 0 (min room 65536)
theorem new_any (room : Int) (w : World) : Calls Try.prog 8 #[.int .i64 room] w fun e w' => e = .returned (.pointer (some ⟨w.heap.size, 0, none⟩)) ∧ w.alloc (.cells #[.slice none 0 0, .int .i64 (rm room)] 50) = w' := by
  go_enter Try.func8, Try.ntmps8
  go_wp2
  go_ret
  exact ⟨rfl, rfl⟩
theorem new_MI (room : Int) (w : World) : MI 50 (w.alloc (.cells #[.slice none 0 0, .int .i64 room] 50)) w.heap.size (.slice none 0 0) room [] :=
  ⟨by show (w.heap.push _)[w.heap.size]? = _; simp, World.ownsRow_nil _ _ _ _⟩
theorem take_i (g : Nat) (v : Value) (room : Int) (xs : List Int) (w : World) (i : Int) (k : Nat) (hi : i = k) (h : MI 50 w g v room xs) (hx : xs.length ≤ 70000) (hk : k < xs.length) :
    Calls Try.prog 12 #[.pointer (some ⟨g, 0, none⟩), .int .i64 i] w fun e w' => e = .returned (.tuple #[.int .i64 xs[k], .bool true]) ∧ SendPost 50 w g v room (xs.eraseIdx k) w' := by subst hi; exact take_yes g v room xs w k h hx hk
set_option maxHeartbeats 2000000 in
theorem awake_any (w : World) : Calls Try.prog 7 #[] w fun e w' => e = .returned (.bool true) ∧ Below w.heap.size w w' := by
  have r1 : rm 1 = 1 := by decide
  go_enter Try.func7, Try.ntmps7
  go_wp2_with fail
  refine (new_any 1 _).mono ?_
  rw [r1]
  rintro e w1 ⟨rfl, rfl⟩
  have h1 := new_MI 1 w
  go_wp2_with fail
  refine (send_yes _ _ _ _ _ 7 h1 (by simp) (by simp)).mono ?_
  rintro e w2 ⟨rfl, v2, h2, hch2, hat2⟩
  go_wp2_with fail
  refine (send_no _ _ _ _ _ 8 h2 (by simp) (by simp)).mono ?_
  rintro e w3 ⟨rfl, hch3⟩
  have h3 := h2.chg hch3 (fun h => h) (fun _ _ h => h)
  go_wp2_with fail
  refine (take_i _ _ _ _ _ 0 0 rfl h3 (by simp) (by simp)).mono ?_
  rintro e w4 ⟨rfl, v4, h4, hch4, hat4⟩
  go_wp2_with (first | (go_at_call 16; refine (len_any _ _ _ _ _ h4 (by simp)).mono ?_; rintro e w' ⟨rfl, rfl⟩))
  go_ret
  refine ⟨rfl, ?_⟩
  have b1 : Below w.heap.size w (w.alloc (.cells #[.slice none 0 0, .int .i64 1] 50)) := below1 _ _
  have b2 := Chg.to_below b1 hch2 (fun k hk hf => hf.elim (fun h => by omega) (fun h => by simp [Value.ownBlock] at h))
  have b3 := Chg.to_below b2 hch3 (fun _ _ h => h)
  have hv2 : ∀ k, v2.ownBlock = some k → w.heap.size ≤ k := fun k hk => by
    rcases hat2 k hk with e | e
    · simp [Value.ownBlock] at e
    · simp at e; omega
  exact Chg.to_below b3 hch4 (fun k hk hf => hf.elim (fun h => by omega) (fun h => by have := hv2 k h; omega))
end Go.Proofs.Ythioendhhaancaa
