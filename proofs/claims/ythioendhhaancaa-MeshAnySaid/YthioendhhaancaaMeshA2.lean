/- The law of any mesh: sent, taken, doubled. No conditions. -/
import Derived.Test.YthioendhhaancaaMeshA1
set_option linter.unusedVariables false
set_option linter.unusedSimpArgs false
set_option maxRecDepth 100000
open Go Go.Am Go.Proofs
namespace Go.Am.MeshA
theorem an_send {Q : AExit → Ev → AHeap → Prop} (room : Int) (l : List OpR) (k n : Nat) (a : List Int) (b : List ByteArray) (v : Int) (hk : k < l.length) (hx : l[k]? = some ⟨1, v⟩) (h : St k n a b) (hl : l.length ≤ 300) (hr : (n : Int) < room) :
    awpC PR 0 b3 (AExit.thn (NX room l k) Q) (PE l k) (PH n a b room) := by
  have hna := h.na
  have hnb := h.nb
  have hnk := h.nk
  obtain ⟨v0, v1⟩ := land63_in v
  have hnew := h.put (zs_size v0)
  conv => whnf
  generalize hq : decide ((k : Int) < (l.length : Int)) = q
  cases q
  case false => have := of_decide_eq_false hq; omega
  conv => whnf
  refine k_el (r := .agg [.int .i64 1, .int .i64 v]) (get_map (i := (k : Int)) hx) (by omega) ?_
  conv => whnf
  refine ⟨by simp, ?_⟩
  generalize hv : IntKind.i64.wrap ((BitVec.ofInt IntKind.i64.bits v &&& BitVec.ofInt IntKind.i64.bits 63).toNat : Int) = u
  have hu : land63 v = u := hv
  rw [hu] at v0 v1 hnew
  conv => whnf
  refine ⟨by simp, ?_⟩
  conv => whnf
  refine call_fr [0, 1] [] (MeshI.MM 5 (n + 1) (MeshI.putAt n a u) room) (MeshI.send_ok n a room u hna (by omega) hr) ?_
  conv => whnf
  refine ⟨by simp, ?_⟩
  conv => whnf
  refine ⟨rfl, ?_⟩
  conv => whnf
  refine ⟨by simp, ?_⟩
  conv => whnf
  refine ⟨by simp, ?_⟩
  conv => whnf
  refine p_eq (mk_eq v0 (by unfold roomBound; omega)) ?_
  conv => whnf
  refine ⟨by simp, ?_⟩
  conv => whnf
  refine k_eq (b2s_eq rfl) ?_
  conv => whnf
  refine ⟨by simp, ?_⟩
  conv => whnf
  refine ⟨by simp, ?_⟩
  conv => whnf
  refine call_fr [2, 3] [] (MeshS.MM 7 (n + 1) (MeshS.putAt n b (zs u)) room) (MeshS.send_ok n b room (zs u) hnb (by omega) hr) ?_
  conv => whnf
  refine ⟨by simp, ?_⟩
  conv => whnf
  conv => whnf
  refine call_fr [0, 5] [] (MeshI.MA 5 (n + 1) (MeshI.putAt n a u) room) (MeshI.len_ok (n + 1) _ room) ?_
  conv => whnf
  refine call_fr [2, 7] [] (MeshS.MA 7 (n + 1) (MeshS.putAt n b (zs u)) room) (MeshS.len_ok (n + 1) _ room) ?_
  conv => whnf
  generalize hqz : (!decide (((n + 1 : Nat) : Int) = ((n + 1 : Nat) : Int))) = qz
  cases qz
  case true => simp at hqz
  conv => whnf
  refine w_as ((k + 1 : Nat) : Int) (by omega) (by omega) ?_
  conv => whnf
  exact at_head [some 0, some 5, some 2, some 7] (PH (n + 1) (MeshI.putAt n a u) (MeshS.putAt n b (zs u)) room) (PE l (k + 1)) ⟨hk, _, _, _, rfl, rfl, hnew⟩
theorem an_full {Q : AExit → Ev → AHeap → Prop} (room : Int) (l : List OpR) (k n : Nat) (a : List Int) (b : List ByteArray) (v : Int) (hk : k < l.length) (hx : l[k]? = some ⟨1, v⟩) (h : St k n a b) (hl : l.length ≤ 300) (hr : room ≤ n) :
    awpC PR 0 b3 (AExit.thn (NX room l k) Q) (PE l k) (PH n a b room) := by
  have hna := h.na
  have hnb := h.nb
  have hnk := h.nk
  obtain ⟨v0, v1⟩ := land63_in v
  have hnew := h.skip
  conv => whnf
  generalize hq : decide ((k : Int) < (l.length : Int)) = q
  cases q
  case false => have := of_decide_eq_false hq; omega
  conv => whnf
  refine k_el (r := .agg [.int .i64 1, .int .i64 v]) (get_map (i := (k : Int)) hx) (by omega) ?_
  conv => whnf
  refine ⟨by simp, ?_⟩
  generalize hv : IntKind.i64.wrap ((BitVec.ofInt IntKind.i64.bits v &&& BitVec.ofInt IntKind.i64.bits 63).toNat : Int) = u
  have hu : land63 v = u := hv
  rw [hu] at v0 v1
  conv => whnf
  refine ⟨by simp, ?_⟩
  conv => whnf
  refine call_fr [0, 1] [] (MeshI.MH n a room) (MeshI.send_full n a room u hr) ?_
  conv => whnf
  refine ⟨by simp, ?_⟩
  conv => whnf
  refine ⟨rfl, ?_⟩
  conv => whnf
  refine ⟨by simp, ?_⟩
  conv => whnf
  refine ⟨by simp, ?_⟩
  conv => whnf
  refine p_eq (mk_eq v0 (by unfold roomBound; omega)) ?_
  conv => whnf
  refine ⟨by simp, ?_⟩
  conv => whnf
  refine k_eq (b2s_eq rfl) ?_
  conv => whnf
  refine ⟨by simp, ?_⟩
  conv => whnf
  refine ⟨by simp, ?_⟩
  conv => whnf
  refine call_fr [2, 3] [] (MeshS.MA 3 n b room) (MeshS.send_full n b room (zs u) hr) ?_
  conv => whnf
  refine ⟨by simp, ?_⟩
  conv => whnf
  conv => whnf
  refine call_fr [0, 1] [] (MeshI.MH n a room) (MeshI.len_ok (n) _ room) ?_
  conv => whnf
  refine call_fr [2, 3] [] (MeshS.MA 3 n b room) (MeshS.len_ok (n) _ room) ?_
  conv => whnf
  generalize hqz : (!decide (((n : Nat) : Int) = ((n : Nat) : Int))) = qz
  cases qz
  case true => simp at hqz
  conv => whnf
  refine w_as ((k + 1 : Nat) : Int) (by omega) (by omega) ?_
  conv => whnf
  exact at_head [some 0, some 1, some 2, some 3] (PH n a b room) (PE l (k + 1)) ⟨hk, _, _, _, rfl, rfl, hnew⟩
theorem an_take {Q : AExit → Ev → AHeap → Prop} (room : Int) (l : List OpR) (k n : Nat) (a : List Int) (b : List ByteArray) (v : Int) (hk : k < l.length) (hx : l[k]? = some ⟨2, v⟩) (h : St k n a b) (hl : l.length ≤ 300) (i : Nat) (hv : v = i) (hi : i < n) :
    awpC PR 0 b3 (AExit.thn (NX room l k) Q) (PE l k) (PH n a b room) := by
  have hna := h.na
  have hnb := h.nb
  have hnk := h.nk
  have hnew := h.del hi
  obtain ⟨x, y, hxa, hyb, hxy⟩ := h.co i hi
  have ta := MeshI.take_ok n a room i x hi hna (by omega) hxa
  have tb := MeshS.take_ok n b room i y hi hnb (by omega) hyb
  rw [← hv] at ta tb
  conv => whnf
  generalize hq : decide ((k : Int) < (l.length : Int)) = q
  cases q
  case false => have := of_decide_eq_false hq; omega
  conv => whnf
  refine k_el (r := .agg [.int .i64 2, .int .i64 v]) (get_map (i := (k : Int)) hx) (by omega) ?_
  conv => whnf
  refine call_fr [0, 1] [] (MeshI.MH (n - 1) (MeshI.delAt n a i) room) ta ?_
  conv => whnf
  refine call_fr [2, 3] [] (MeshS.MA 3 (n - 1) (MeshS.delAt n b i) room) tb ?_
  conv => whnf
  generalize hq3 : decide ((y.size : Int) = x) = q3
  cases q3
  case false => have := of_decide_eq_false hq3; omega
  conv => whnf
  refine call_fr [0, 1] [] (MeshI.MH (n - 1) (MeshI.delAt n a i) room) (MeshI.len_ok (n - 1) _ room) ?_
  conv => whnf
  refine call_fr [2, 3] [] (MeshS.MA 3 (n - 1) (MeshS.delAt n b i) room) (MeshS.len_ok (n - 1) _ room) ?_
  conv => whnf
  generalize hqz : (!decide (((n - 1 : Nat) : Int) = ((n - 1 : Nat) : Int))) = qz
  cases qz
  case true => simp at hqz
  conv => whnf
  refine w_as ((k + 1 : Nat) : Int) (by omega) (by omega) ?_
  conv => whnf
  exact at_head [some 0, some 1, some 2, some 3] (PH (n - 1) (MeshI.delAt n a i) (MeshS.delAt n b i) room) (PE l (k + 1)) ⟨hk, _, _, _, rfl, rfl, hnew⟩
theorem an_none {Q : AExit → Ev → AHeap → Prop} (room : Int) (l : List OpR) (k n : Nat) (a : List Int) (b : List ByteArray) (v : Int) (hk : k < l.length) (hx : l[k]? = some ⟨2, v⟩) (h : St k n a b) (hl : l.length ≤ 300) (hv : ¬ (0 ≤ v ∧ v < n)) :
    awpC PR 0 b3 (AExit.thn (NX room l k) Q) (PE l k) (PH n a b room) := by
  have hna := h.na
  have hnb := h.nb
  have hnk := h.nk
  have hnew := h.skip
  conv => whnf
  generalize hq : decide ((k : Int) < (l.length : Int)) = q
  cases q
  case false => have := of_decide_eq_false hq; omega
  conv => whnf
  refine k_el (r := .agg [.int .i64 2, .int .i64 v]) (get_map (i := (k : Int)) hx) (by omega) ?_
  conv => whnf
  refine call_fr [0, 1] [] (MeshI.MH n a room) (MeshI.take_none n a room v hv) ?_
  conv => whnf
  refine call_fr [2, 3] [] (MeshS.MA 3 n b room) (MeshS.take_none n b room v hv) ?_
  conv => whnf
  refine call_fr [0, 1] [] (MeshI.MH n a room) (MeshI.len_ok (n) _ room) ?_
  conv => whnf
  refine call_fr [2, 3] [] (MeshS.MA 3 n b room) (MeshS.len_ok (n) _ room) ?_
  conv => whnf
  generalize hqz : (!decide (((n : Nat) : Int) = ((n : Nat) : Int))) = qz
  cases qz
  case true => simp at hqz
  conv => whnf
  refine w_as ((k + 1 : Nat) : Int) (by omega) (by omega) ?_
  conv => whnf
  exact at_head [some 0, some 1, some 2, some 3] (PH n a b room) (PE l (k + 1)) ⟨hk, _, _, _, rfl, rfl, hnew⟩
