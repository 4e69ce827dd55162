/- The functions of package mesh, each by a contract. No conditions. -/
import Derived.Test.YthioendhhaancaaRows
import Derived.Test.YthioendhhaancaaLib
import Derived.Test.YthioendhhaancaaMem
import Derived.Test.YthioendhhaancaaReg
namespace Go.Proofs.Ythioendhhaancaa
open Go.RowKit Go.Lw
attribute [local go_sem] lt_p2 le_p2 lt_p3 le_p3 lt_p4 le_p4 lt_p5 le_p5 lt_p6 le_p6 lt_p7 le_p7 lt_p8 le_p8 lt_p9 le_p9 lt_p10 le_p10 lt_p11 le_p11 lt_p12 le_p12 lt_p13 le_p13 lt_p14 le_p14 lt_p15 le_p15 lt_p16 le_p16 le_c0 le_c1 lt_c2 le_c2 lt_c3 le_c3 lt_c4 le_c4 lt_c5 le_c5 lt_c6 le_c6 lt_c7 le_c7 lt_c8 le_c8 lt_c9 le_c9 lt_c10 le_c10 lt_c11 le_c11 lt_c12 le_c12 lt_c13 le_c13 lt_c14 le_c14 lt_c15 le_c15 lt_c16 le_c16 cell_set uponV_value uponV_skip uponV_enter
set_option linter.unusedVariables false
set_option linter.unusedSimpArgs false

theorem info3 : (Try.prog.info? 3).map (fun i => (i.zero, i.size, i.bytes)) = some (some (.int .i64 0), 1, 8) := by kernel_rfl
/-- A mesh of numbers, as it lies: the struct's block, and the row that it owns. -/
def MI (T : TypeId) (w : World) (g : Nat) (v : Value) (room : Int) (xs : List Int) : Prop :=
  w.heap[g]? = some (.cells #[v, .int .i64 room] T (0, 0)) ∧ w.ownsRow 0 3 1 v xs.length (xs.map (.int .i64))
theorem MI.chg {T : TypeId} {F : Nat → Prop} {w w' : World} {g : Nat} {v : Value} {room : Int} {xs : List Int} (h : MI T w g v room xs) (hc : Chg F w w') (h1 : ¬ F g) (h2 : ∀ k, v.ownBlock = some k → ¬ F k) : MI T w' g v room xs :=
  ⟨hc.heap h.1 h1, ownsRow_chg h.2 hc h2⟩
theorem MI.cells {T : TypeId} {w : World} {g : Nat} {v : Value} {room : Int} {xs : List Int} (h : MI T w g v room xs) :
    w.cell? ⟨g, 0, none⟩ = some v ∧ w.cell? ⟨g, 1, none⟩ = some (.int .i64 room) ∧ (∀ o, w.frozen? ⟨g, o, none⟩ = false) ∧ g < w.heap.size := by
  refine ⟨by simp [World.cell?, h.1], by simp [World.cell?, h.1], fun o => by simp [World.frozen?, h.1], heap_lt h.1⟩
theorem own_form {w : World} {v : Value} {n : Nat} {cs : List Value} (h : w.ownsRow 0 3 1 v n cs) : ∃ a cap, v = .slice a n cap ∧ n ≤ cap ∧ cap ≤ maxLen := by
  rcases h.2 with ⟨rfl, rfl⟩ | ⟨g, cap, cur, rfl, _, _, hn, hm, _⟩
  · exact ⟨none, 0, rfl, Nat.le_refl _, by unfold maxLen; omega⟩
  · exact ⟨_, _, rfl, hn, hm⟩
set_option maxHeartbeats 400000 in
theorem len_any (g : Nat) (v : Value) (room : Int) (xs : List Int) (w : World) (h : MI 50 w g v room xs) (hx : xs.length ≤ 70000) :
    Calls Try.prog 16 #[.pointer (some ⟨g, 0, none⟩)] w fun e w' => e = .returned (.int .i64 xs.length) ∧ w = w' := by
  obtain ⟨hc0, hc1, hf, hg⟩ := h.cells
  obtain ⟨a, cap, rfl, _, _⟩ := own_form h.2
  go_enter Try.func16, Try.ntmps16
  go_wp2
  go_ret
  exact ⟨rfl, rfl⟩
theorem len_nil (w : World) : Calls Try.prog 16 #[.pointer none] w fun e w' => e = .returned (.int .i64 0) ∧ w = w' := by
  go_enter Try.func16, Try.ntmps16
  go_wp2
  go_ret
  exact ⟨rfl, rfl⟩
set_option maxHeartbeats 400000 in
theorem send_no (g : Nat) (v : Value) (room : Int) (xs : List Int) (w : World) (x : Int) (h : MI 50 w g v room xs) (hx : xs.length ≤ 70000) (hr : room ≤ xs.length) :
    Calls Try.prog 10 #[.pointer (some ⟨g, 0, none⟩), .int .i64 x] w fun e w' => e = .returned (.bool false) ∧ Chg (fun _ => False) w w' := by
  obtain ⟨hc0, hc1, hf, hg⟩ := h.cells
  obtain ⟨a, cap, rfl, _, _⟩ := own_form h.2
  go_enter Try.func10, Try.ntmps10
  go_wp2
  refine wp_region_B (by kernel_rfl) (by kernel_rfl) ?_
  (repeat (first | (apply runS_skip (by rfl); (try simp only [Act.put, List.setIfInBounds_toArray, List.set_cons_zero, List.set_cons_succ])) | (apply runS_cons (by rfl); (· (intro w1 hS K hK; obtain ⟨q1, q2⟩ := cells_B hS; (go_simp); (first | with_reducible exact hK _ hS | exact hK _ hS))); (try simp only [Act.put, List.setIfInBounds_toArray, List.set_cons_zero, List.set_cons_succ]))))
  refine runS_nil (fun w2 hb2 => ?_)
  go_wp2
  go_ret
  exact ⟨rfl, Chg.below (by (repeat (first | with_reducible exact Below.refl _ _ | with_reducible assumption | with_reducible refine Below.drew ?_ | with_reducible refine bl_drewN ?_ | (with_reducible refine bl_alloc ?_ ?_; · (first | omega | (simp; done) | (simp; omega))) | (with_reducible refine bl_set ?_ ?_; · (first | omega | (simp; done) | (simp; omega))) | (with_reducible refine bl_trans hb2 ?_ ?_; · (first | omega | (simp; done) | (simp; omega))))))⟩
theorem heap_set {w : World} {g i : Nat} {cs : Array Value} {t : TypeId} {fr : Nat × Nat} (h : w.heap[g]? = some (.cells cs t fr)) (v : Value) : (w.setCell ⟨g, i, none⟩ v).heap[g]? = some (.cells (cs.setIfInBounds i v) t fr) := by
  simp only [World.setCell, Array.getElem?_modify, if_true, h, Option.map_some]
  rfl
def SendPost (T : TypeId) (w : World) (g : Nat) (v : Value) (room : Int) (ys : List Int) (w' : World) : Prop :=
  ∃ v', MI T w' g v' room ys ∧ Chg (fun k => k = g ∨ v.ownBlock = some k) w w' ∧ (∀ k, v'.ownBlock = some k → v.ownBlock = some k ∨ w.heap.size ≤ k)
theorem send_post {T : TypeId} (hT : T ≠ 3) {w w2 w1 : World} {g : Nat} {v v' : Value} {room : Int} {xs ys : List Int} {o : Obj} (h : MI T w g v room xs) (hb : Below w.heap.size w w2) {n : Nat} {cs : List Value} (hn : n = ys.length) (hcs : cs = ys.map (.int .i64))
    (hown : w1.ownsRow 0 3 1 v' n cs) (hgrow : (w2.alloc o).grownBy w1 v.ownBlock) (hat : v'.ownBlock = v.ownBlock ∨ v'.ownBlock = some (w2.alloc o).heap.size) : SendPost T w g v room ys (w1.setCell ⟨g, 0, none⟩ v') := by
  subst hn hcs
  have hg := heap_lt h.1
  have hne : v.ownBlock ≠ some g := ownsRow_type h.2 h.1 hT
  have h1 : Chg (fun k => v.ownBlock = some k) w w1 := ((Chg.below hb).alloc o).trans (Chg.grown hgrow) (fun _ _ h => h)
  have hgb := h1.heap h.1 hne
  have h2 : Chg (fun k => k = g ∨ v.ownBlock = some k) w (w1.setCell ⟨g, 0, none⟩ v') := (h1.mono (fun _ _ h => .inr h)).setCell (.inl (.inl rfl)) _
  have hz := hb.size
  refine ⟨v', ⟨by simpa using heap_set (i := 0) hgb v', ?_⟩, h2, ?_⟩
  · have hne' : v'.ownBlock ≠ some g := ownsRow_type hown hgb hT
    exact ownsRow_heap hown fun k hk => Below.heap_setCell _ _ _ _ (fun e => hne' (by rw [hk, e]))
  · intro k hk
    rcases hat with hat | hat
    · exact .inl (hat ▸ hk)
    · rw [hat] at hk
      injection hk with hk
      exact .inr (by rw [← hk]; simp; omega)
set_option maxHeartbeats 1000000 in
theorem send_yes (g : Nat) (v : Value) (room : Int) (xs : List Int) (w : World) (x : Int) (h : MI 50 w g v room xs) (hx : xs.length ≤ 70000) (hr : (xs.length : Int) < room) :
    Calls Try.prog 10 #[.pointer (some ⟨g, 0, none⟩), .int .i64 x] w fun e w' => e = .returned (.bool true) ∧ SendPost 50 w g v room (xs ++ [x]) w' := by
  obtain ⟨hc0, hc1, hf, hg⟩ := h.cells
  obtain ⟨a, cap, rfl, _, _⟩ := own_form h.2
  go_enter Try.func10, Try.ntmps10
  go_wp2
  refine wp_region_B (by kernel_rfl) (by kernel_rfl) ?_
  (repeat (first | (apply runS_skip (by rfl); (try simp only [Act.put, List.setIfInBounds_toArray, List.set_cons_zero, List.set_cons_succ])) | (apply runS_cons (by rfl); (· (intro w1 hS K hK; obtain ⟨q1, q2⟩ := cells_B hS; (go_simp); (first | with_reducible exact hK _ hS | exact hK _ hS))); (try simp only [Act.put, List.setIfInBounds_toArray, List.set_cons_zero, List.set_cons_succ]))))
  refine runS_nil (fun w2 hb2 => ?_)
  obtain ⟨k1, k2⟩ := cells_B hb2
  have hz2 : g < w2.heap.size := Nat.lt_of_lt_of_le hg hb2.size
  have hne : Hid ((Value.slice a xs.length cap).ownBlock ≠ some g) := hid (ownsRow_type h.2 h.1 (by decide))
  obtain ⟨i0, hi, hi0, hi1, hi2⟩ := info_parts info3
  have ho2 : w2.ownsRow 0 3 1 (.slice a xs.length cap) xs.length (xs.map (.int .i64)) := ownsRow_chg h.2 (Chg.below (F := fun _ => False) hb2) (fun _ _ h => h)
  go_wp2_with (at_builtin; refine wpList_append_own_at _ rfl _ _ 39 rfl 0 3 i0 (.int .i64 0) 1 8 Try.underlying39 hi hi0 hi1 hi2 rfl (by decide) _ _ _ rfl (ho2.alloc _) ⟨w2.heap.size, 0, none⟩ 1 1 [.int .i64 x] rfl rfl (cell_one_new _ _ _) (by simp [Value.oneCell']) (by unfold maxLen; omega) (by omega) (Nat.zero_le _) ?_; intro v' w3 hown' hgrow _ hat; obtain ⟨a', cap', rfl, _, _⟩ := own_form hown'; have c3 : ∀ o, w3.cell? ⟨g, o, none⟩ = _ := fun o => (Chg.grown hgrow).cell (b := g) (by simp <;> omega) hne.out o; have f3 : ∀ o, w3.frozen? ⟨g, o, none⟩ = _ := fun o => (Chg.grown hgrow).frozen (b := g) (by simp <;> omega) hne.out o)
  go_ret
  exact ⟨rfl, send_post (by decide) h hb2 (by simp) (by simp) hown' hgrow hat⟩
end Go.Proofs.Ythioendhhaancaa
