/- Small lemmas for walks whose world is a variable: what stays where a call makes memory of its own. No Go program is named here; no conditions. -/
import Derived.WalkKit
import Derived.WalkSpells
import Derived.WalkLawsBesides
import Derived.LoopN
import Derived.Deep.RegionHeld3
import Derived.Deep.QuietTactic
import Derived.BigQuiet
namespace Go.Lw
open Go.RowKit

abbrev rv (a b c : Int) : Value := .agg #[.int .i64 a, .int .i64 b, .int .i64 c]
theorem ret_bool {a b : Bool} (h : a = b) : Ending.returned (.bool a) = .returned (.bool b) := by rw [h]
theorem ret_int {k : IntKind} {a b : Int} (h : a = b) : Ending.returned (.int k a) = .returned (.int k b) := by rw [h]
theorem below2 (w : World) (o o1 : Obj) : Below w.heap.size w ((w.alloc o).alloc o1) := ((Below.refl _ _).alloc (Nat.le_refl _) _).alloc (by simp) _
theorem below1 (w : World) (o : Obj) : Below w.heap.size w (w.alloc o) := (Below.refl _ _).alloc (Nat.le_refl _) _
theorem lt_p2 (n : Nat) : (n < n + 1 + 1) = True := by simp only [eq_iff_iff, iff_true]; omega
theorem le_p2 (n : Nat) : (n ≤ n + 1 + 1) = True := by simp only [eq_iff_iff, iff_true]; omega
theorem lt_p3 (n : Nat) : (n < n + 1 + 1 + 1) = True := by simp only [eq_iff_iff, iff_true]; omega
theorem le_p3 (n : Nat) : (n ≤ n + 1 + 1 + 1) = True := by simp only [eq_iff_iff, iff_true]; omega
theorem lt_p4 (n : Nat) : (n < n + 1 + 1 + 1 + 1) = True := by simp only [eq_iff_iff, iff_true]; omega
theorem le_p4 (n : Nat) : (n ≤ n + 1 + 1 + 1 + 1) = True := by simp only [eq_iff_iff, iff_true]; omega
theorem lt_p5 (n : Nat) : (n < n + 1 + 1 + 1 + 1 + 1) = True := by simp only [eq_iff_iff, iff_true]; omega
theorem le_p5 (n : Nat) : (n ≤ n + 1 + 1 + 1 + 1 + 1) = True := by simp only [eq_iff_iff, iff_true]; omega
theorem lt_p6 (n : Nat) : (n < n + 1 + 1 + 1 + 1 + 1 + 1) = True := by simp only [eq_iff_iff, iff_true]; omega
theorem le_p6 (n : Nat) : (n ≤ n + 1 + 1 + 1 + 1 + 1 + 1) = True := by simp only [eq_iff_iff, iff_true]; omega
theorem lt_p7 (n : Nat) : (n < n + 1 + 1 + 1 + 1 + 1 + 1 + 1) = True := by simp only [eq_iff_iff, iff_true]; omega
theorem le_p7 (n : Nat) : (n ≤ n + 1 + 1 + 1 + 1 + 1 + 1 + 1) = True := by simp only [eq_iff_iff, iff_true]; omega
theorem lt_p8 (n : Nat) : (n < n + 1 + 1 + 1 + 1 + 1 + 1 + 1 + 1) = True := by simp only [eq_iff_iff, iff_true]; omega
theorem le_p8 (n : Nat) : (n ≤ n + 1 + 1 + 1 + 1 + 1 + 1 + 1 + 1) = True := by simp only [eq_iff_iff, iff_true]; omega
theorem lt_p9 (n : Nat) : (n < n + 1 + 1 + 1 + 1 + 1 + 1 + 1 + 1 + 1) = True := by simp only [eq_iff_iff, iff_true]; omega
theorem le_p9 (n : Nat) : (n ≤ n + 1 + 1 + 1 + 1 + 1 + 1 + 1 + 1 + 1) = True := by simp only [eq_iff_iff, iff_true]; omega
theorem lt_p10 (n : Nat) : (n < n + 1 + 1 + 1 + 1 + 1 + 1 + 1 + 1 + 1 + 1) = True := by simp only [eq_iff_iff, iff_true]; omega
theorem le_p10 (n : Nat) : (n ≤ n + 1 + 1 + 1 + 1 + 1 + 1 + 1 + 1 + 1 + 1) = True := by simp only [eq_iff_iff, iff_true]; omega
theorem lt_p11 (n : Nat) : (n < n + 1 + 1 + 1 + 1 + 1 + 1 + 1 + 1 + 1 + 1 + 1) = True := by simp only [eq_iff_iff, iff_true]; omega
theorem le_p11 (n : Nat) : (n ≤ n + 1 + 1 + 1 + 1 + 1 + 1 + 1 + 1 + 1 + 1 + 1) = True := by simp only [eq_iff_iff, iff_true]; omega
theorem lt_p12 (n : Nat) : (n < n + 1 + 1 + 1 + 1 + 1 + 1 + 1 + 1 + 1 + 1 + 1 + 1) = True := by simp only [eq_iff_iff, iff_true]; omega
theorem le_p12 (n : Nat) : (n ≤ n + 1 + 1 + 1 + 1 + 1 + 1 + 1 + 1 + 1 + 1 + 1 + 1) = True := by simp only [eq_iff_iff, iff_true]; omega
theorem lt_p13 (n : Nat) : (n < n + 1 + 1 + 1 + 1 + 1 + 1 + 1 + 1 + 1 + 1 + 1 + 1 + 1) = True := by simp only [eq_iff_iff, iff_true]; omega
theorem le_p13 (n : Nat) : (n ≤ n + 1 + 1 + 1 + 1 + 1 + 1 + 1 + 1 + 1 + 1 + 1 + 1 + 1) = True := by simp only [eq_iff_iff, iff_true]; omega
theorem lt_p14 (n : Nat) : (n < n + 1 + 1 + 1 + 1 + 1 + 1 + 1 + 1 + 1 + 1 + 1 + 1 + 1 + 1) = True := by simp only [eq_iff_iff, iff_true]; omega
theorem le_p14 (n : Nat) : (n ≤ n + 1 + 1 + 1 + 1 + 1 + 1 + 1 + 1 + 1 + 1 + 1 + 1 + 1 + 1) = True := by simp only [eq_iff_iff, iff_true]; omega
theorem lt_p15 (n : Nat) : (n < n + 1 + 1 + 1 + 1 + 1 + 1 + 1 + 1 + 1 + 1 + 1 + 1 + 1 + 1 + 1) = True := by simp only [eq_iff_iff, iff_true]; omega
theorem le_p15 (n : Nat) : (n ≤ n + 1 + 1 + 1 + 1 + 1 + 1 + 1 + 1 + 1 + 1 + 1 + 1 + 1 + 1 + 1) = True := by simp only [eq_iff_iff, iff_true]; omega
theorem lt_p16 (n : Nat) : (n < n + 1 + 1 + 1 + 1 + 1 + 1 + 1 + 1 + 1 + 1 + 1 + 1 + 1 + 1 + 1 + 1) = True := by simp only [eq_iff_iff, iff_true]; omega
theorem le_p16 (n : Nat) : (n ≤ n + 1 + 1 + 1 + 1 + 1 + 1 + 1 + 1 + 1 + 1 + 1 + 1 + 1 + 1 + 1 + 1) = True := by simp only [eq_iff_iff, iff_true]; omega
theorem le_c0 (n m : Nat) (h : n < m) : (n ≤ m) = True := by simp only [eq_iff_iff, iff_true]; omega
theorem le_c1 (n m : Nat) (h : n < m) : (n ≤ m + 1) = True := by simp only [eq_iff_iff, iff_true]; omega
theorem lt_c2 (n m : Nat) (h : n < m) : (n < m + 1 + 1) = True := by simp only [eq_iff_iff, iff_true]; omega
theorem le_c2 (n m : Nat) (h : n < m) : (n ≤ m + 1 + 1) = True := by simp only [eq_iff_iff, iff_true]; omega
theorem lt_c3 (n m : Nat) (h : n < m) : (n < m + 1 + 1 + 1) = True := by simp only [eq_iff_iff, iff_true]; omega
theorem le_c3 (n m : Nat) (h : n < m) : (n ≤ m + 1 + 1 + 1) = True := by simp only [eq_iff_iff, iff_true]; omega
theorem lt_c4 (n m : Nat) (h : n < m) : (n < m + 1 + 1 + 1 + 1) = True := by simp only [eq_iff_iff, iff_true]; omega
theorem le_c4 (n m : Nat) (h : n < m) : (n ≤ m + 1 + 1 + 1 + 1) = True := by simp only [eq_iff_iff, iff_true]; omega
theorem lt_c5 (n m : Nat) (h : n < m) : (n < m + 1 + 1 + 1 + 1 + 1) = True := by simp only [eq_iff_iff, iff_true]; omega
theorem le_c5 (n m : Nat) (h : n < m) : (n ≤ m + 1 + 1 + 1 + 1 + 1) = True := by simp only [eq_iff_iff, iff_true]; omega
theorem lt_c6 (n m : Nat) (h : n < m) : (n < m + 1 + 1 + 1 + 1 + 1 + 1) = True := by simp only [eq_iff_iff, iff_true]; omega
theorem le_c6 (n m : Nat) (h : n < m) : (n ≤ m + 1 + 1 + 1 + 1 + 1 + 1) = True := by simp only [eq_iff_iff, iff_true]; omega
theorem lt_c7 (n m : Nat) (h : n < m) : (n < m + 1 + 1 + 1 + 1 + 1 + 1 + 1) = True := by simp only [eq_iff_iff, iff_true]; omega
theorem le_c7 (n m : Nat) (h : n < m) : (n ≤ m + 1 + 1 + 1 + 1 + 1 + 1 + 1) = True := by simp only [eq_iff_iff, iff_true]; omega
theorem lt_c8 (n m : Nat) (h : n < m) : (n < m + 1 + 1 + 1 + 1 + 1 + 1 + 1 + 1) = True := by simp only [eq_iff_iff, iff_true]; omega
theorem le_c8 (n m : Nat) (h : n < m) : (n ≤ m + 1 + 1 + 1 + 1 + 1 + 1 + 1 + 1) = True := by simp only [eq_iff_iff, iff_true]; omega
theorem lt_c9 (n m : Nat) (h : n < m) : (n < m + 1 + 1 + 1 + 1 + 1 + 1 + 1 + 1 + 1) = True := by simp only [eq_iff_iff, iff_true]; omega
theorem le_c9 (n m : Nat) (h : n < m) : (n ≤ m + 1 + 1 + 1 + 1 + 1 + 1 + 1 + 1 + 1) = True := by simp only [eq_iff_iff, iff_true]; omega
theorem lt_c10 (n m : Nat) (h : n < m) : (n < m + 1 + 1 + 1 + 1 + 1 + 1 + 1 + 1 + 1 + 1) = True := by simp only [eq_iff_iff, iff_true]; omega
theorem le_c10 (n m : Nat) (h : n < m) : (n ≤ m + 1 + 1 + 1 + 1 + 1 + 1 + 1 + 1 + 1 + 1) = True := by simp only [eq_iff_iff, iff_true]; omega
theorem lt_c11 (n m : Nat) (h : n < m) : (n < m + 1 + 1 + 1 + 1 + 1 + 1 + 1 + 1 + 1 + 1 + 1) = True := by simp only [eq_iff_iff, iff_true]; omega
theorem le_c11 (n m : Nat) (h : n < m) : (n ≤ m + 1 + 1 + 1 + 1 + 1 + 1 + 1 + 1 + 1 + 1 + 1) = True := by simp only [eq_iff_iff, iff_true]; omega
theorem lt_c12 (n m : Nat) (h : n < m) : (n < m + 1 + 1 + 1 + 1 + 1 + 1 + 1 + 1 + 1 + 1 + 1 + 1) = True := by simp only [eq_iff_iff, iff_true]; omega
theorem le_c12 (n m : Nat) (h : n < m) : (n ≤ m + 1 + 1 + 1 + 1 + 1 + 1 + 1 + 1 + 1 + 1 + 1 + 1) = True := by simp only [eq_iff_iff, iff_true]; omega
theorem lt_c13 (n m : Nat) (h : n < m) : (n < m + 1 + 1 + 1 + 1 + 1 + 1 + 1 + 1 + 1 + 1 + 1 + 1 + 1) = True := by simp only [eq_iff_iff, iff_true]; omega
theorem le_c13 (n m : Nat) (h : n < m) : (n ≤ m + 1 + 1 + 1 + 1 + 1 + 1 + 1 + 1 + 1 + 1 + 1 + 1 + 1) = True := by simp only [eq_iff_iff, iff_true]; omega
theorem lt_c14 (n m : Nat) (h : n < m) : (n < m + 1 + 1 + 1 + 1 + 1 + 1 + 1 + 1 + 1 + 1 + 1 + 1 + 1 + 1) = True := by simp only [eq_iff_iff, iff_true]; omega
theorem le_c14 (n m : Nat) (h : n < m) : (n ≤ m + 1 + 1 + 1 + 1 + 1 + 1 + 1 + 1 + 1 + 1 + 1 + 1 + 1 + 1) = True := by simp only [eq_iff_iff, iff_true]; omega
theorem lt_c15 (n m : Nat) (h : n < m) : (n < m + 1 + 1 + 1 + 1 + 1 + 1 + 1 + 1 + 1 + 1 + 1 + 1 + 1 + 1 + 1) = True := by simp only [eq_iff_iff, iff_true]; omega
theorem le_c15 (n m : Nat) (h : n < m) : (n ≤ m + 1 + 1 + 1 + 1 + 1 + 1 + 1 + 1 + 1 + 1 + 1 + 1 + 1 + 1 + 1) = True := by simp only [eq_iff_iff, iff_true]; omega
theorem lt_c16 (n m : Nat) (h : n < m) : (n < m + 1 + 1 + 1 + 1 + 1 + 1 + 1 + 1 + 1 + 1 + 1 + 1 + 1 + 1 + 1 + 1) = True := by simp only [eq_iff_iff, iff_true]; omega
theorem le_c16 (n m : Nat) (h : n < m) : (n ≤ m + 1 + 1 + 1 + 1 + 1 + 1 + 1 + 1 + 1 + 1 + 1 + 1 + 1 + 1 + 1 + 1) = True := by simp only [eq_iff_iff, iff_true]; omega

theorem cell_set (w : World) (b o b' o' : Nat) (v : Value) : (w.setCell ⟨b, o, none⟩ v).cell? ⟨b', o', none⟩ = if b = b' ∧ o = o' then (w.cell? ⟨b', o', none⟩).map (fun _ => v) else w.cell? ⟨b', o', none⟩ := by
  split
  · rename_i h
    obtain ⟨rfl, rfl⟩ := h
    cases hc : w.cell? ⟨b, o, none⟩ with
    | none =>
      simp only [Option.map_none]
      unfold World.cell? at hc ⊢
      simp only [World.setCell, Array.getElem?_modify, if_true] at hc ⊢
      cases hh : w.heap[b]? with
      | none => simp
      | some x => cases x <;> simp_all
    | some u => rw [World.cell?_setCell_same (h := hc)]; rfl
  · rename_i h
    rw [World.cell?_setCell_other]
    intro e
    injection e with e1 e2
    exact h ⟨e1, e2⟩

/-- What a call that makes memory of its own alone leaves as it was, in the walk's own spelling. -/
theorem keeps {W w1 : World} (hb : Below W.heap.size W w1) :
    (∀ b o, b < W.heap.size → w1.cell? ⟨b, o, none⟩ = W.cell? ⟨b, o, none⟩) ∧ (∀ b o, b < W.heap.size → w1.frozen? ⟨b, o, none⟩ = W.frozen? ⟨b, o, none⟩) ∧
    (∀ n, n < W.heap.size → n < w1.heap.size) ∧ (∀ n, n < W.heap.size → n ≤ w1.heap.size) ∧
    (∀ n, n < W.heap.size → ¬ n = w1.heap.size) ∧ (∀ n, n < W.heap.size → ¬ w1.heap.size = n) ∧
    (∀ n k, n < W.heap.size → ¬ n = w1.heap.size + k) ∧ (∀ n k, n < W.heap.size → ¬ w1.heap.size + k = n) :=
  have hz := hb.size
  ⟨fun b o h => hb.cell (p := ⟨b, o, none⟩) h, fun b o h => hb.frozen (p := ⟨b, o, none⟩) h, fun _ _ => by omega, fun _ _ => by omega, fun _ _ => by omega, fun _ _ => by omega, fun _ _ _ => by omega, fun _ _ _ => by omega⟩
theorem bl_alloc {B : Nat} {a w : World} {o : Obj} (hB : B ≤ w.heap.size) (h : Below B a w) : Below B a (w.alloc o) := h.alloc hB o
theorem bl_set {B : Nat} {a w : World} {p : Addr} {u : Value} (hp : B ≤ p.block) (h : Below B a w) : Below B a (w.setCell p u) := h.setCell hp u
theorem bl_drewN {B : Nat} {a w : World} {n : Nat} (h : Below B a w) : Below B a (w.drewN n) := ⟨h.os, h.tape, h.output, h.size, h.block⟩
theorem bl_trans {B n : Nat} {a W w : World} (h2 : Below n W w) (hn : B ≤ n) (h : Below B a W) : Below B a w := h.trans (h2.mono hn)
theorem hid {p : Prop} (h : p) : RowKit.Hid p := h
theorem sz_set (w : World) (a : Addr) (v : Value) : (w.setCell a v).heap.size = w.heap.size := World.size_setCell ..
end Go.Lw
