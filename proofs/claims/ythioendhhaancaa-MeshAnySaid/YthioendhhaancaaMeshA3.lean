/- The law of any mesh: doubled, looked at; the law. No conditions. -/
import Derived.Test.YthioendhhaancaaMeshA2
set_option linter.unusedVariables false
set_option linter.unusedSimpArgs false
set_option maxRecDepth 100000
open Go Go.Am Go.Proofs
namespace Go.Am.MeshA
theorem an_dbl {Q : AExit → Ev → AHeap → Prop} (room : Int) (l : List OpR) (k n : Nat) (a : List Int) (b : List ByteArray) (v : Int) (hk : k < l.length) (hx : l[k]? = some ⟨3, v⟩) (h : St k n a b) (hl : l.length ≤ 300) (i : Nat) (hv : v = i) (hi : i < n) (hr : (n : Int) < room) :
    awpC PR 0 b3 (AExit.thn (NX room l k) Q) (PE l k) (PH n a b room) := by
  have hna := h.na
  have hnb := h.nb
  have hnk := h.nk
  obtain ⟨x, y, hxa, hyb, hxy⟩ := h.co i hi
  have hnew := h.put hxy
  have ta := MeshI.double_ok n a room i x hi hna (by omega) hxa hr
  have tb := MeshS.double_ok n b room i y hi hnb (by omega) hyb hr
  rw [← hv] at ta tb
  conv => whnf
  generalize hq : decide ((k : Int) < (l.length : Int)) = q
  cases q
  case false => have := of_decide_eq_false hq; omega
  conv => whnf
  refine k_el (r := .agg [.int .i64 3, .int .i64 v]) (get_map (i := (k : Int)) hx) (by omega) ?_
  conv => whnf
  refine call_fr [0, 1] [] (MeshI.MM 5 (n + 1) (MeshI.putAt n a x) room) ta ?_
  conv => whnf
  refine ⟨rfl, ?_⟩
  conv => whnf
  refine call_fr [2, 3] [] (MeshS.MM 6 (n + 1) (MeshS.putAt n b y) room) tb ?_
  conv => whnf
  refine call_fr [0, 5] [] (MeshI.MA 5 (n + 1) (MeshI.putAt n a x) room) (MeshI.len_ok (n + 1) _ room) ?_
  conv => whnf
  refine call_fr [2, 6] [] (MeshS.MA 6 (n + 1) (MeshS.putAt n b y) room) (MeshS.len_ok (n + 1) _ room) ?_
  conv => whnf
  generalize hqz : (!decide (((n + 1 : Nat) : Int) = ((n + 1 : Nat) : Int))) = qz
  cases qz
  case true => simp at hqz
  conv => whnf
  refine w_as ((k + 1 : Nat) : Int) (by omega) (by omega) ?_
  conv => whnf
  exact at_head [some 0, some 5, some 2, some 6] (PH (n + 1) (MeshI.putAt n a x) (MeshS.putAt n b y) room) (PE l (k + 1)) ⟨hk, _, _, _, rfl, rfl, hnew⟩
theorem an_dfull {Q : AExit → Ev → AHeap → Prop} (room : Int) (l : List OpR) (k n : Nat) (a : List Int) (b : List ByteArray) (v : Int) (hk : k < l.length) (hx : l[k]? = some ⟨3, v⟩) (h : St k n a b) (hl : l.length ≤ 300) (ta : AC PR 14 [.ptr 0 0 0, .int .i64 v] (MeshI.MH n a room) (.bool false) (MeshI.MH n a room)) (tb : AC PR 15 [.ptr 0 0 0, .int .i64 v] (MeshS.MH n b room) (.bool false) (MeshS.MH n b room)) :
    awpC PR 0 b3 (AExit.thn (NX room l k) Q) (PE l k) (PH n a b room) := by
  have hna := h.na
  have hnb := h.nb
  have hnk := h.nk
  have hnew := h.skip
  conv => whnf
  generalize hq : decide ((k : Int) < (l.length : Int)) = q
  cases q
  case false => have := of_decide_eq_false hq; omega
  conv => whnf
  refine k_el (r := .agg [.int .i64 3, .int .i64 v]) (get_map (i := (k : Int)) hx) (by omega) ?_
  conv => whnf
  refine call_fr [0, 1] [] (MeshI.MH n a room) ta ?_
  conv => whnf
  refine ⟨rfl, ?_⟩
  conv => whnf
  refine call_fr [2, 3] [] (MeshS.MA 3 n b room) tb ?_
  conv => whnf
  refine call_fr [0, 1] [] (MeshI.MH n a room) (MeshI.len_ok (n) _ room) ?_
  conv => whnf
  refine call_fr [2, 3] [] (MeshS.MA 3 n b room) (MeshS.len_ok (n) _ room) ?_
  conv => whnf
  generalize hqz : (!decide (((n : Nat) : Int) = ((n : Nat) : Int))) = qz
  cases qz
  case true => simp at hqz
  conv => whnf
  refine w_as ((k + 1 : Nat) : Int) (by omega) (by omega) ?_
  conv => whnf
  exact at_head [some 0, some 1, some 2, some 3] (PH n a b room) (PE l (k + 1)) ⟨hk, _, _, _, rfl, rfl, hnew⟩
theorem an_other {Q : AExit → Ev → AHeap → Prop} (room : Int) (l : List OpR) (k n : Nat) (a : List Int) (b : List ByteArray) (c v : Int) (hk : k < l.length) (hx : l[k]? = some ⟨c, v⟩) (h : St k n a b) (hl : l.length ≤ 300) (c1 : c ≠ 1) (c2 : c ≠ 2) (c3 : c ≠ 3) :
    awpC PR 0 b3 (AExit.thn (NX room l k) Q) (PE l k) (PH n a b room) := by
  have hna := h.na
  have hnb := h.nb
  have hnk := h.nk
  have hnew := h.skip
  conv => whnf
  generalize hq : decide ((k : Int) < (l.length : Int)) = q
  cases q
  case false => have := of_decide_eq_false hq; omega
  conv => whnf
  refine k_el (r := .agg [.int .i64 c, .int .i64 v]) (get_map (i := (k : Int)) hx) (by omega) ?_
  conv => whnf
  generalize hq1 : decide (c = 1) = q1
  cases q1
  case true => exact absurd (of_decide_eq_true hq1) c1
  conv => whnf
  generalize hq2 : decide (c = 2) = q2
  cases q2
  case true => exact absurd (of_decide_eq_true hq2) c2
  conv => whnf
  generalize hq3 : decide (c = 3) = q3
  cases q3
  case true => exact absurd (of_decide_eq_true hq3) c3
  conv => whnf
  refine call_fr [0, 1] [] (MeshI.MH n a room) (MeshI.len_ok (n) _ room) ?_
  conv => whnf
  refine call_fr [2, 3] [] (MeshS.MA 3 n b room) (MeshS.len_ok (n) _ room) ?_
  conv => whnf
  generalize hqz : (!decide (((n : Nat) : Int) = ((n : Nat) : Int))) = qz
  cases qz
  case true => simp at hqz
  conv => whnf
  refine w_as ((k + 1 : Nat) : Int) (by omega) (by omega) ?_
  conv => whnf
  exact at_head [some 0, some 1, some 2, some 3] (PH n a b room) (PE l (k + 1)) ⟨hk, _, _, _, rfl, rfl, hnew⟩
theorem an_step {Q : AExit → Ev → AHeap → Prop} (room : Int) (l : List OpR) (k n : Nat) (a : List Int) (b : List ByteArray) (hk : k < l.length) (h : St k n a b) (hl : l.length ≤ 300) :
    awpC PR 0 b3 (AExit.thn (NX room l k) Q) (PE l k) (PH n a b room) := by
  obtain ⟨⟨c, v⟩, hx⟩ : ∃ x, l[k]? = some x := ⟨_, List.getElem?_eq_getElem hk⟩
  by_cases c1 : c = 1
  · subst c1
    by_cases hr : (n : Int) < room
    · exact an_send room l k n a b v hk hx h hl hr
    · exact an_full room l k n a b v hk hx h hl (by omega)
  by_cases c2 : c = 2
  · subst c2
    by_cases hv : 0 ≤ v ∧ v < n
    · exact an_take room l k n a b v hk hx h hl v.toNat (by omega) (by omega)
    · exact an_none room l k n a b v hk hx h hl hv
  by_cases c3 : c = 3
  · subst c3
    by_cases hv : 0 ≤ v ∧ v < n
    · have hvi : v = (v.toNat : Int) := by omega
      by_cases hr : (n : Int) < room
      · exact an_dbl room l k n a b v hk hx h hl v.toNat hvi (by omega) hr
      · obtain ⟨x, y, hxa, hyb, hxy⟩ := h.co v.toNat (by omega)
        have ta := MeshI.double_full n a room v.toNat x (by omega) hxa (by omega)
        have tb := MeshS.double_full n b room v.toNat y (by omega) hyb (by omega)
        rw [← hvi] at ta tb
        exact an_dfull room l k n a b v hk hx h hl ta tb
    · exact an_dfull room l k n a b v hk hx h hl (MeshI.double_none n a room v hv) (MeshS.double_none n b room v hv)
  exact an_other room l k n a b c v hk hx h hl c1 c2 c3
theorem any_long (r : Int) (l : List OpR) (h : 300 < l.length) (hb : (l.length : Int) ≤ 9223372036854775807) : AC PR 3 [.int .i64 r, MO l] [] (.bool true) [] := by
  apply A3
  conv => whnf
  refine call_closed MeshI.awake_ok ?_
  conv => whnf
  generalize hq : decide (((300 : Int)) < ((l.map ov).length : Int)) = q
  cases q
  · have := of_decide_eq_false hq; simp at this; omega
  conv => whnf
  refine call_closed MeshI.awake_ok ?_
  conv => whnf
  exact at_end []
theorem any_walk (r : Int) (l : List OpR) (h : l.length ≤ 300) : AC PR 3 [.int .i64 r, MO l] [] (.bool true) [] := by
  apply A3
  conv => whnf
  refine call_closed MeshI.awake_ok ?_
  conv => whnf
  generalize hq : decide (((300 : Int)) < ((l.map ov).length : Int)) = q
  cases q
  case true => have := of_decide_eq_true hq; simp at this; omega
  conv => whnf
  refine call_fr [] [] (MeshI.MH 0 [] (max 0 (min r 65536))) (MeshI.new_ok r) ?_
  conv => whnf
  refine call_fr [] [] (MeshS.MA 3 0 [] (max 0 (min r 65536))) (MeshS.new_ok r) ?_
  generalize max 0 (min r 65536) = room
  conv => whnf
  refine loop_to l.length (JP room l) ?_ ?_
  · rintro k e H hk ⟨n, a, b, rfl, rfl, hh⟩
    by_cases hk' : k < l.length
    · exact an_step room l k n a b hk' hh h
    · conv => whnf
      generalize hq : decide ((k : Int) < (l.length : Int)) = q
      cases q
      case true => have := of_decide_eq_true hq; omega
      conv => whnf
      exact at_end []
  · conv => whnf
    exact at_head [some 0, some 1, some 2, some 3] (PH 0 [] [] room) (PE l 0) ⟨0, [], [], rfl, rfl, by simp, by simp, by omega, fun j hj => absurd hj (by omega)⟩
theorem any_law (r : Int) (l : List OpR) (hb : l.length ≤ maxLen) : AC PR 3 [.int .i64 r, MO l] [] (.bool true) [] := by
  by_cases h : l.length ≤ 300
  · exact any_walk r l h
  · unfold maxLen at hb
    exact any_long r l (by omega) (by omega)
