/- The mesh and its reference by one word each: what a call answers, and what is under way behind it. No conditions. -/
import Derived.Test.YthioendhhaancaaSame
namespace Go.Proofs.Ythioendhhaancaa
open Go.RowKit Go.Lw
attribute [local go_sem] lt_p2 le_p2 lt_p3 le_p3 lt_p4 le_p4 lt_p5 le_p5 lt_p6 le_p6 lt_p7 le_p7 lt_p8 le_p8 lt_p9 le_p9 lt_p10 le_p10 lt_p11 le_p11 lt_p12 le_p12 lt_p13 le_p13 lt_p14 le_p14 lt_p15 le_p15 lt_p16 le_p16 le_c0 le_c1 lt_c2 le_c2 lt_c3 le_c3 lt_c4 le_c4 lt_c5 le_c5 lt_c6 le_c6 lt_c7 le_c7 lt_c8 le_c8 lt_c9 le_c9 lt_c10 le_c10 lt_c11 le_c11 lt_c12 le_c12 lt_c13 le_c13 lt_c14 le_c14 lt_c15 le_c15 lt_c16 le_c16 cell_set uponV_value uponV_skip uponV_enter
set_option linter.unusedVariables false
set_option linter.unusedSimpArgs false

def sendB (room : Int) (xs : List Int) : Bool := decide ((xs.length : Int) < room)
def sendL (room : Int) (xs : List Int) (x : Int) : List Int := if sendB room xs then xs ++ [x] else xs
def okB (xs : List Int) (i : Int) : Bool := decide (0 ≤ i ∧ i < xs.length)
def takeV (xs : List Int) (i : Int) : Int := if okB xs i then xs.getD i.toNat 0 else 0
def takeL (xs : List Int) (i : Int) : List Int := if okB xs i then xs.eraseIdx i.toNat else xs
def dblB (room : Int) (xs : List Int) (i : Int) : Bool := okB xs i && sendB room xs
def dblL (room : Int) (xs : List Int) (i : Int) : List Int := if okB xs i then sendL room xs (xs.getD i.toNat 0) else xs
theorem sendL_len (room : Int) (xs : List Int) (x : Int) : (sendL room xs x).length ≤ xs.length + 1 := by unfold sendL; split <;> simp
theorem takeL_len (xs : List Int) (i : Int) : (takeL xs i).length ≤ xs.length := by unfold takeL; split <;> first | exact List.length_eraseIdx_le .. | exact Nat.le_refl _
theorem dblL_len (room : Int) (xs : List Int) (i : Int) : (dblL room xs i).length ≤ xs.length + 1 := by unfold dblL; split <;> first | exact sendL_len .. | omega
theorem post_same {T : TypeId} {w w' : World} {g : Nat} {v : Value} {room : Int} {xs : List Int} (h : MI T w g v room xs) (hc : Chg (fun _ => False) w w') : SendPost T w g v room xs w' :=
  ⟨v, h.chg hc (fun h => h) (fun _ _ h => h), hc.mono (fun _ _ h => h.elim), fun _ h => .inl h⟩

theorem there_fw (g : Nat) (v : Value) (room : Int) (xs : List Int) (i : Int) (w0 : World) (h : MI 50 w0 g v room xs) (hx : xs.length ≤ 70000) (hk : ¬ (0 ≤ i ∧ i < xs.length)) :
    Calls Try.prog 24 #[.pointer (some ⟨g, 0, none⟩), .int .i64 i] w0 fun e w' => e = .returned (.bool false) ∧ w0 = w' := there_f g v room xs w0 i h hx (by omega)
theorem take_f (g : Nat) (v : Value) (room : Int) (xs : List Int) (w : World) (i : Int) (h : MI 50 w g v room xs) (hx : xs.length ≤ 70000) (hk : ¬ (0 ≤ i ∧ i < xs.length)) :
    Calls Try.prog 12 #[.pointer (some ⟨g, 0, none⟩), .int .i64 i] w fun e w' => e = .returned (.tuple #[.int .i64 0, .bool false]) ∧ w = w' := by
  go_enter Try.func12, Try.ntmps12
  go_wp2_with (first | (go_at_call 24; refine (there_fw _ _ _ _ _ _ h hx hk).mono ?_; rintro e w' ⟨rfl, rfl⟩))
  go_ret2
  exact ⟨rfl, rfl⟩
theorem double_f (g : Nat) (v : Value) (room : Int) (xs : List Int) (w : World) (i : Int) (h : MI 50 w g v room xs) (hx : xs.length ≤ 70000) (hk : ¬ (0 ≤ i ∧ i < xs.length)) :
    Calls Try.prog 14 #[.pointer (some ⟨g, 0, none⟩), .int .i64 i] w fun e w' => e = .returned (.bool false) ∧ w = w' := by
  go_enter Try.func14, Try.ntmps14
  go_wp2_with (first | (go_at_call 24; refine (there_fw _ _ _ _ _ _ h hx hk).mono ?_; rintro e w' ⟨rfl, rfl⟩))
  go_ret
  exact ⟨rfl, rfl⟩

theorem msend_any (g : Nat) (v : Value) (room : Int) (xs : List Int) (w : World) (x : Int) (h : MI 50 w g v room xs) (hx : xs.length ≤ 60000) :
    Calls Try.prog 10 #[.pointer (some ⟨g, 0, none⟩), .int .i64 x] w fun e w' => e = .returned (.bool (sendB room xs)) ∧ SendPost 50 w g v room (sendL room xs x) w' := by
  by_cases hr : (xs.length : Int) < room
  · have e1 : sendB room xs = true := by unfold sendB; simpa using hr
    have e2 : sendL room xs x = xs ++ [x] := by unfold sendL; rw [if_pos e1]
    rw [e1, e2]
    exact send_yes g v room xs w x h (by omega) hr
  · have e1 : sendB room xs = false := by unfold sendB; simpa using hr
    have e2 : sendL room xs x = xs := by unfold sendL; rw [if_neg (by simp [e1])]
    rw [e1, e2]
    exact (send_no g v room xs w x h (by omega) (by omega)).mono fun e w' ⟨he, hc⟩ => ⟨he, post_same h hc⟩
theorem mtake_any (g : Nat) (v : Value) (room : Int) (xs : List Int) (w : World) (i : Int) (h : MI 50 w g v room xs) (hx : xs.length ≤ 60000) :
    Calls Try.prog 12 #[.pointer (some ⟨g, 0, none⟩), .int .i64 i] w fun e w' => e = .returned (.tuple #[.int .i64 (takeV xs i), .bool (okB xs i)]) ∧ SendPost 50 w g v room (takeL xs i) w' := by
  by_cases hr : 0 ≤ i ∧ i < xs.length
  · have e1 : okB xs i = true := by unfold okB; simpa using hr
    obtain ⟨k, rfl⟩ : ∃ k : Nat, i = k := ⟨i.toNat, by omega⟩
    have hk : k < xs.length := by omega
    have e2 : takeL xs k = xs.eraseIdx k := by unfold takeL; rw [if_pos e1]; rfl
    have e3 : takeV xs k = xs[k] := by unfold takeV; rw [if_pos e1]; simp [hk]
    rw [e1, e2, e3]
    exact take_yes g v room xs w k h (by omega) hk
  · have e1 : okB xs i = false := by unfold okB; simpa using hr
    have e2 : takeL xs i = xs := by unfold takeL; rw [if_neg (by simp [e1])]
    have e3 : takeV xs i = 0 := by unfold takeV; rw [if_neg (by simp [e1])]
    rw [e1, e2, e3]
    exact (take_f g v room xs w i h (by omega) hr).mono fun e w' ⟨he, hw⟩ => ⟨he, hw ▸ post_same h (Chg.refl _ _)⟩
theorem mdouble_any (g : Nat) (v : Value) (room : Int) (xs : List Int) (w : World) (i : Int) (h : MI 50 w g v room xs) (hx : xs.length ≤ 60000) :
    Calls Try.prog 14 #[.pointer (some ⟨g, 0, none⟩), .int .i64 i] w fun e w' => e = .returned (.bool (dblB room xs i)) ∧ SendPost 50 w g v room (dblL room xs i) w' := by
  by_cases hr : 0 ≤ i ∧ i < xs.length
  · have e1 : okB xs i = true := by unfold okB; simpa using hr
    obtain ⟨k, rfl⟩ : ∃ k : Nat, i = k := ⟨i.toNat, by omega⟩
    have hk : k < xs.length := by omega
    have e3 : xs.getD (k : Int).toNat 0 = xs[k] := by simp [hk]
    by_cases hs : (xs.length : Int) < room
    · have e4 : sendB room xs = true := by unfold sendB; simpa using hs
      have e5 : dblB room xs k = true := by unfold dblB; rw [e1, e4]; rfl
      have e6 : dblL room xs k = xs ++ [xs[k]] := by unfold dblL sendL; rw [if_pos e1, if_pos e4, e3]
      rw [e5, e6]
      exact double_yes g v room xs w k h (by omega) hk hs
    · have e4 : sendB room xs = false := by unfold sendB; simpa using hs
      have e5 : dblB room xs k = false := by unfold dblB; rw [e1, e4]; rfl
      have e6 : dblL room xs k = xs := by unfold dblL sendL; rw [if_pos e1, if_neg (by simp [e4])]
      rw [e5, e6]
      exact (double_full g v room xs w k h (by omega) hk (by omega)).mono fun e w' ⟨he, hc⟩ => ⟨he, post_same h hc⟩
  · have e1 : okB xs i = false := by unfold okB; simpa using hr
    have e5 : dblB room xs i = false := by unfold dblB; rw [e1]; rfl
    have e6 : dblL room xs i = xs := by unfold dblL; rw [if_neg (by simp [e1])]
    rw [e5, e6]
    exact (double_f g v room xs w i h (by omega) hr).mono fun e w' ⟨he, hw⟩ => ⟨he, hw ▸ post_same h (Chg.refl _ _)⟩

theorem rsend_any (g : Nat) (v : Value) (room : Int) (xs : List Int) (w : World) (x : Int) (h : MI 48 w g v room xs) (hx : xs.length ≤ 60000) :
    Calls Try.prog 21 #[.pointer (some ⟨g, 0, none⟩), .int .i64 x] w fun e w' => e = .returned (.bool (sendB room xs)) ∧ SendPost 48 w g v room (sendL room xs x) w' := by
  by_cases hr : (xs.length : Int) < room
  · have e1 : sendB room xs = true := by unfold sendB; simpa using hr
    have e2 : sendL room xs x = xs ++ [x] := by unfold sendL; rw [if_pos e1]
    rw [e1, e2]
    exact rsend_yes g v room xs w x h (by omega) hr
  · have e1 : sendB room xs = false := by unfold sendB; simpa using hr
    have e2 : sendL room xs x = xs := by unfold sendL; rw [if_neg (by simp [e1])]
    rw [e1, e2]
    exact (rsend_no g v room xs w x h (by omega) (by omega)).mono fun e w' ⟨he, hc⟩ => ⟨he, post_same h hc⟩
theorem rtake_any (g : Nat) (v : Value) (room : Int) (xs : List Int) (w : World) (i : Int) (h : MI 48 w g v room xs) (hx : xs.length ≤ 60000) :
    Calls Try.prog 22 #[.pointer (some ⟨g, 0, none⟩), .int .i64 i] w fun e w' => e = .returned (.tuple #[.int .i64 (takeV xs i), .bool (okB xs i)]) ∧ SendPost 48 w g v room (takeL xs i) w' := by
  by_cases hr : 0 ≤ i ∧ i < xs.length
  · have e1 : okB xs i = true := by unfold okB; simpa using hr
    obtain ⟨k, rfl⟩ : ∃ k : Nat, i = k := ⟨i.toNat, by omega⟩
    have hk : k < xs.length := by omega
    have e2 : takeL xs k = xs.eraseIdx k := by unfold takeL; rw [if_pos e1]; rfl
    have e3 : takeV xs k = xs[k] := by unfold takeV; rw [if_pos e1]; simp [hk]
    rw [e1, e2, e3]
    exact rtake_yes g v room xs w k h (by omega) hk
  · have e1 : okB xs i = false := by unfold okB; simpa using hr
    have e2 : takeL xs i = xs := by unfold takeL; rw [if_neg (by simp [e1])]
    have e3 : takeV xs i = 0 := by unfold takeV; rw [if_neg (by simp [e1])]
    rw [e1, e2, e3]
    exact (rtake_no g v room xs w i h (by omega) (by omega)).mono fun e w' ⟨he, hw⟩ => ⟨he, hw ▸ post_same h (Chg.refl _ _)⟩
theorem rdouble_any (g : Nat) (v : Value) (room : Int) (xs : List Int) (w : World) (i : Int) (h : MI 48 w g v room xs) (hx : xs.length ≤ 60000) :
    Calls Try.prog 23 #[.pointer (some ⟨g, 0, none⟩), .int .i64 i] w fun e w' => e = .returned (.bool (dblB room xs i)) ∧ SendPost 48 w g v room (dblL room xs i) w' := by
  by_cases hr : 0 ≤ i ∧ i < xs.length
  · have e1 : okB xs i = true := by unfold okB; simpa using hr
    obtain ⟨k, rfl⟩ : ∃ k : Nat, i = k := ⟨i.toNat, by omega⟩
    have hk : k < xs.length := by omega
    have e3 : xs.getD (k : Int).toNat 0 = xs[k] := by simp [hk]
    by_cases hs : (xs.length : Int) < room
    · have e4 : sendB room xs = true := by unfold sendB; simpa using hs
      have e5 : dblB room xs k = true := by unfold dblB; rw [e1, e4]; rfl
      have e6 : dblL room xs k = xs ++ [xs[k]] := by unfold dblL sendL; rw [if_pos e1, if_pos e4, e3]
      rw [e5, e6]
      exact rdouble_yes g v room xs w k h (by omega) hk hs
    · have e4 : sendB room xs = false := by unfold sendB; simpa using hs
      have e5 : dblB room xs k = false := by unfold dblB; rw [e1, e4]; rfl
      have e6 : dblL room xs k = xs := by unfold dblL sendL; rw [if_pos e1, if_neg (by simp [e4])]
      rw [e5, e6]
      exact (rdouble_full g v room xs w k h (by omega) hk (by omega)).mono fun e w' ⟨he, hc⟩ => ⟨he, post_same h hc⟩
  · have e1 : okB xs i = false := by unfold okB; simpa using hr
    have e5 : dblB room xs i = false := by unfold dblB; rw [e1]; rfl
    have e6 : dblL room xs i = xs := by unfold dblL; rw [if_neg (by simp [e1])]
    rw [e5, e6]
    exact (rdouble_no g v room xs w i h (by omega) (by omega)).mono fun e w' ⟨he, hw⟩ => ⟨he, hw ▸ post_same h (Chg.refl _ _)⟩

/-- The mesh and the reference's, side by side. -/
structure Two (w0 w : World) (gm gr : Nat) (vm vr : Value) (room : Int) (xs ys : List Int) : Prop where
  m : MI 50 w gm vm room xs
  r : MI 48 w gr vr room ys
  b : Below w0.heap.size w0 w
  lm : w0.heap.size ≤ gm
  lr : w0.heap.size ≤ gr
  ne : gm ≠ gr
  om : ∀ b, vm.ownBlock = some b → w0.heap.size ≤ b ∧ vr.ownBlock ≠ some b
  ov : ∀ b, vr.ownBlock = some b → w0.heap.size ≤ b
theorem Two.keep {w0 w w' : World} {gm gr : Nat} {vm vr : Value} {room : Int} {xs ys : List Int} (h : Two w0 w gm gr vm vr room xs ys) (hc : Chg (fun _ => False) w w') : Two w0 w' gm gr vm vr room xs ys :=
  ⟨h.m.chg hc (fun h => h) (fun _ _ h => h), h.r.chg hc (fun h => h) (fun _ _ h => h), Chg.to_below h.b hc (fun _ _ h => h), h.lm, h.lr, h.ne, h.om, h.ov⟩
theorem Two.step_m {w0 w w' : World} {gm gr : Nat} {vm vr : Value} {room : Int} {xs ys zs : List Int} (h : Two w0 w gm gr vm vr room xs ys) (hp : SendPost 50 w gm vm room zs w') : ∃ vm', Two w0 w' gm gr vm' vr room zs ys := by
  obtain ⟨v', hm, hc, ho⟩ := hp
  refine ⟨v', hm, h.r.chg hc (fun e => ?_) (fun b hb e => ?_), Chg.to_below h.b hc (fun b hb e => ?_), h.lm, h.lr, h.ne, fun b hb => ?_, h.ov⟩
  · rcases e with e | e
    · exact h.ne e.symm
    · exact ownsRow_type h.m.2 h.r.1 (by decide) e
  · rcases e with e | e
    · subst e; exact ownsRow_type h.r.2 h.m.1 (by decide) hb
    · exact (h.om b e).2 hb
  · rcases e with e | e
    · have := h.lm; omega
    · have := (h.om b e).1; omega
  · rcases ho b hb with e | e
    · exact h.om b e
    · have hz := h.b.size
      refine ⟨by omega, fun e2 => ?_⟩
      have := (h.r.2.lt b e2).2
      omega
theorem Two.step_r {w0 w w' : World} {gm gr : Nat} {vm vr : Value} {room : Int} {xs ys zs : List Int} (h : Two w0 w gm gr vm vr room xs ys) (hp : SendPost 48 w gr vr room zs w') : ∃ vr', Two w0 w' gm gr vm vr' room xs zs := by
  obtain ⟨v', hm, hc, ho⟩ := hp
  refine ⟨v', h.m.chg hc (fun e => ?_) (fun b hb e => ?_), hm, Chg.to_below h.b hc (fun b hb e => ?_), h.lm, h.lr, h.ne, fun b hb => ⟨(h.om b hb).1, fun e => ?_⟩, fun b hb => ?_⟩
  · rcases e with e | e
    · exact h.ne e
    · exact ownsRow_type h.r.2 h.m.1 (by decide) e
  · rcases e with e | e
    · subst e; exact ownsRow_type h.m.2 h.r.1 (by decide) hb
    · exact (h.om b hb).2 e
  · rcases e with e | e
    · have := h.lr; omega
    · have := h.ov b e; omega
  · rcases ho b e with e2 | e2
    · exact (h.om b hb).2 e2
    · have := (h.m.2.lt b hb).2; omega
  · rcases ho b hb with e | e
    · exact h.ov b e
    · have := h.b.size; omega
end Go.Proofs.Ythioendhhaancaa
