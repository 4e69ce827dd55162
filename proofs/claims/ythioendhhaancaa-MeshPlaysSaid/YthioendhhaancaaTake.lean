/- The functions of package mesh that take and double, each by a contract. No conditions. -/
import Derived.Test.YthioendhhaancaaSend
import Derived.Test.YthioendhhaancaaRowPut
import Derived.Test.YthioendhhaancaaShelf
namespace Go.Proofs.Ythioendhhaancaa
open Go.RowKit Go.Lw
attribute [local go_sem] lt_p2 le_p2 lt_p3 le_p3 lt_p4 le_p4 lt_p5 le_p5 lt_p6 le_p6 lt_p7 le_p7 lt_p8 le_p8 lt_p9 le_p9 lt_p10 le_p10 lt_p11 le_p11 lt_p12 le_p12 lt_p13 le_p13 lt_p14 le_p14 lt_p15 le_p15 lt_p16 le_p16 le_c0 le_c1 lt_c2 le_c2 lt_c3 le_c3 lt_c4 le_c4 lt_c5 le_c5 lt_c6 le_c6 lt_c7 le_c7 lt_c8 le_c8 lt_c9 le_c9 lt_c10 le_c10 lt_c11 le_c11 lt_c12 le_c12 lt_c13 le_c13 lt_c14 le_c14 lt_c15 le_c15 lt_c16 le_c16 cell_set uponV_value uponV_skip uponV_enter
set_option linter.unusedVariables false
set_option linter.unusedSimpArgs false

theorem toList_ints (xs : List Int) (j : Nat) (hj : j < xs.length) : (xs.map (Value.int .i64))[j]? = some (.int .i64 xs[j]) := by simp [hj]
theorem del_any (v : Value) (xs : List Int) (k : Nat) (j : Int) (w : World) (h : w.ownsRow 0 3 1 v xs.length (xs.map (.int .i64))) (hk : k < xs.length) (hj : j = (k : Int) + 1) :
    Calls Try.prog 25 #[v, .int .i64 k, .int .i64 j] w fun e w' => ∃ v', e = .returned v' ∧ v'.ownBlock = v.ownBlock ∧ w'.ownsRow 0 3 1 v' (xs.eraseIdx k).length ((xs.eraseIdx k).map (.int .i64)) ∧ Chg (fun b => v.ownBlock = some b) w w' := by
  have h0 := h
  rcases h.2 with ⟨_, hn⟩ | ⟨g, cap, cur, rfl, _, hh, hn, hcm, hsz, htk⟩
  · omega
  have hol : «Sort».Holds (Value.int .i64) w g 0 xs.toArray := fun i hi => by
    have hi' : i < xs.length := by simpa using hi
    have c := h0.cellAt i (by omega)
    have f := h0.frozenAt i
    rw [toList_ints xs i hi'] at c
    refine ⟨?_, by simpa using f⟩
    rw [Nat.zero_add, c]
    simp [hi']
  have hjk : j = ((k + 1 : Nat) : Int) := by omega
  rw [hjk]
  refine (Try.slices_Delete_int g 0 cap k (k + 1) xs w hol hn (by unfold maxLen at hcm; omega) (by omega) (by omega)).mono ?_
  rintro e w' ⟨rfl, q, rfl⟩
  have hle : (xs.eraseIdx k).length = xs.length - 1 := List.length_eraseIdx_of_lt hk
  have hd : (List.take k xs ++ List.drop (k + 1) xs ++ List.replicate (k + 1 - k) (0 : Int)).length = xs.length := by simp; omega
  have hp := own_put (enc := Value.int .i64) (q := q) (m := xs.length - 1) h0 hd (by omega)
  have ht : (List.take k xs ++ List.drop (k + 1) xs ++ List.replicate (k + 1 - k) (0 : Int)).take (xs.length - 1) = xs.eraseIdx k := by
    rw [List.eraseIdx_eq_take_drop_succ, List.take_append_of_le_length (by simp; omega), List.take_of_length_le (by simp; omega)]
  rw [ht] at hp
  refine ⟨_, rfl, ?_, ?_, ?_⟩
  · rfl
  · rw [hle, show k + 1 - k = 1 by omega]
    rw [show k + 1 - k = 1 by omega] at hp
    exact hp
  · refine ⟨rfl, rfl, rfl, by simp, fun b hb hne => heap_putRow_ne _ (fun e => hne (by rw [e]; rfl))⟩
theorem there_t (g : Nat) (v : Value) (room : Int) (xs : List Int) (w : World) (k : Nat) (h : MI 50 w g v room xs) (hx : xs.length ≤ 70000) (hk : k < xs.length) :
    Calls Try.prog 24 #[.pointer (some ⟨g, 0, none⟩), .int .i64 k] w fun e w' => e = .returned (.bool true) ∧ w = w' := by
  have h0 : (0 : Int) ≤ k := by omega
  have h1 : (k : Int) < xs.length := by omega
  go_enter Try.func24, Try.ntmps24
  go_wp2_with (first | (go_at_call 16; refine (len_any _ _ _ _ _ h hx).mono ?_; rintro e w' ⟨rfl, rfl⟩))
  go_ret
  exact ⟨ret_bool (by simp <;> omega), rfl⟩
theorem there_f (g : Nat) (v : Value) (room : Int) (xs : List Int) (w : World) (i : Int) (h : MI 50 w g v room xs) (hx : xs.length ≤ 70000) (hk : i < 0 ∨ (xs.length : Int) ≤ i) :
    Calls Try.prog 24 #[.pointer (some ⟨g, 0, none⟩), .int .i64 i] w fun e w' => e = .returned (.bool false) ∧ w = w' := by
  by_cases h0 : (0 : Int) ≤ i
  · have h1 : ¬ i < xs.length := by omega
    go_enter Try.func24, Try.ntmps24
    go_wp2_with (first | (go_at_call 16; refine (len_any _ _ _ _ _ h hx).mono ?_; rintro e w' ⟨rfl, rfl⟩))
    go_ret
    exact ⟨ret_bool (by simp <;> omega), rfl⟩
  · go_enter Try.func24, Try.ntmps24
    go_wp2_with (first | (go_at_call 16; refine (len_any _ _ _ _ _ h hx).mono ?_; rintro e w' ⟨rfl, rfl⟩))
    go_ret
    exact ⟨ret_bool (by simp <;> omega), rfl⟩
theorem there_nil (w : World) (i : Int) : Calls Try.prog 24 #[.pointer none, .int .i64 i] w fun e w' => e = .returned (.bool false) ∧ w = w' := by
  by_cases h0 : (0 : Int) ≤ i
  · have h1 : ¬ i < 0 := by omega
    go_enter Try.func24, Try.ntmps24
    go_wp2_with (first | (go_at_call 16; refine (len_nil _).mono ?_; rintro e w' ⟨rfl, rfl⟩))
    go_ret
    exact ⟨ret_bool (by simp <;> omega), rfl⟩
  · go_enter Try.func24, Try.ntmps24
    go_wp2_with (first | (go_at_call 16; refine (len_nil _).mono ?_; rintro e w' ⟨rfl, rfl⟩))
    go_ret
    exact ⟨ret_bool (by simp <;> omega), rfl⟩
theorem take_no (p : Option Addr) (w : World) (i : Int) (ht : ∀ w, Calls Try.prog 24 #[.pointer p, .int .i64 i] w fun e w' => e = .returned (.bool false) ∧ w = w') : 
    Calls Try.prog 12 #[.pointer p, .int .i64 i] w fun e w' => e = .returned (.tuple #[.int .i64 0, .bool false]) ∧ w = w' := by
  go_enter Try.func12, Try.ntmps12
  go_wp2_with (first | (go_at_call 24; refine (ht _).mono ?_; rintro e w' ⟨rfl, rfl⟩))
  go_ret2
  exact ⟨rfl, rfl⟩
theorem put_post {T : TypeId} (hT : T ≠ 3) {w w3 : World} {g : Nat} {v v' : Value} {room : Int} {xs ys : List Int} (h : MI T w g v room xs) (hc : Chg (fun k => v.ownBlock = some k) w w3)
    (hown : w3.ownsRow 0 3 1 v' ys.length (ys.map (.int .i64))) (hat : ∀ k, v'.ownBlock = some k → v.ownBlock = some k ∨ w.heap.size ≤ k) : SendPost T w g v room ys (w3.setCell ⟨g, 0, none⟩ v') := by
  have hne : v.ownBlock ≠ some g := ownsRow_type h.2 h.1 hT
  have hgb := hc.heap h.1 hne
  refine ⟨v', ⟨by simpa using heap_set (i := 0) hgb v', ?_⟩, (hc.mono (fun _ _ h => .inr h)).setCell (.inl (.inl rfl)) _, hat⟩
  have hne' : v'.ownBlock ≠ some g := ownsRow_type hown hgb hT
  exact ownsRow_heap hown fun k hk => Below.heap_setCell _ _ _ _ (fun e => hne' (by rw [hk, e]))
theorem row_form {w : World} {v : Value} {xs : List Int} (h : w.ownsRow 0 3 1 v xs.length (xs.map (.int .i64))) (hn : 0 < xs.length) :
    ∃ r cap, v = .slice (some ⟨r, 0, none⟩) xs.length cap ∧ xs.length ≤ cap ∧ cap ≤ maxLen ∧ r < w.heap.size ∧ ∀ j (hj : j < xs.length), w.cell? ⟨r, j, none⟩ = some (.int .i64 xs[j]) := by
  have h0 := h
  rcases h.2 with ⟨_, hn'⟩ | ⟨r, cap, cur, rfl, _, hh, hl, hcm, hsz, htk⟩
  · omega
  · exact ⟨r, cap, rfl, hl, hcm, heap_lt hh, fun j hj => by rw [h0.cellAt j (by omega)]; exact toList_ints xs j hj⟩
set_option maxHeartbeats 1000000 in
theorem take_yes (g : Nat) (v : Value) (room : Int) (xs : List Int) (w : World) (k : Nat) (h : MI 50 w g v room xs) (hx : xs.length ≤ 70000) (hk : k < xs.length) :
    Calls Try.prog 12 #[.pointer (some ⟨g, 0, none⟩), .int .i64 k] w fun e w' => e = .returned (.tuple #[.int .i64 xs[k], .bool true]) ∧ SendPost 50 w g v room (xs.eraseIdx k) w' := by
  obtain ⟨hc0, hc1, hf, hg⟩ := h.cells
  obtain ⟨r, cap, rfl, hl, hcm, hr, hcells⟩ := row_form h.2 (by omega)
  have hck := hcells k hk
  clear hcells
  have h0 : (0 : Int) ≤ k := by omega
  have h1 : (k : Int) < xs.length := by omega
  have h2 : (xs.length : Int) ≤ 70000 := by omega
  have HD := fun (w : World) (hw : w.ownsRow 0 3 1 (.slice (some ⟨r, 0, none⟩) xs.length cap) xs.length (xs.map (.int .i64))) => del_any _ xs k ((k : Int) + 1) w hw hk rfl
  go_enter Try.func12, Try.ntmps12
  go_wp2_with (first | (go_at_call 24; refine (there_t _ _ _ _ _ _ h hx hk).mono ?_; rintro e w' ⟨rfl, rfl⟩) | (go_at_call 25; refine (HD _ h.2).mono ?_; rintro e w3 ⟨v', rfl, hob, hown, hch⟩; obtain ⟨a', cap', rfl, _, _⟩ := own_form hown; have hne : Hid ((Value.slice (some ⟨r, 0, none⟩) xs.length cap).ownBlock ≠ some g) := hid (ownsRow_type h.2 h.1 (by decide)); have c3 : ∀ o, w3.cell? ⟨g, o, none⟩ = _ := fun o => hch.cell (b := g) hg hne.out o; have f3 : ∀ o, w3.frozen? ⟨g, o, none⟩ = _ := fun o => hch.frozen (b := g) hg hne.out o))
  go_ret2
  exact ⟨rfl, put_post (by decide) h hch hown (fun k hk => .inl (hob ▸ hk))⟩
end Go.Proofs.Ythioendhhaancaa
