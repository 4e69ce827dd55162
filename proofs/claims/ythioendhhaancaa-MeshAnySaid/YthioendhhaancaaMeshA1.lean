/- The law of any mesh: its state. No conditions. -/
import Derived.Test.YthioendhhaancaaMeshID
import Derived.Test.YthioendhhaancaaMeshSD
import Derived.Test.YthioendhhaancaaMeshO
set_option linter.unusedVariables false
set_option linter.unusedSimpArgs false
set_option maxRecDepth 100000
open Go Go.Am Go.Proofs
namespace Go.Am.MeshA
structure OpR where
  kind : Int
  n : Int
abbrev ov (a : OpR) : AV := .agg [.int .i64 a.kind, .int .i64 a.n]
abbrev MO (l : List OpR) : AV := .lst 2 (l.map ov) none
abbrev PE (l : List OpR) (k : Nat) : Ev := [(1, MO l), (5, .ptr 0 0 0), (6, .ptr 2 0 0), (34, .int .i64 l.length), (35, .int .i64 k)]
abbrev PH (n : Nat) (a : List Int) (b : List ByteArray) (room : Int) : AHeap := [some (MeshI.mO (.slc 1 0 n none) room), some (.rows 3 1 (a.map MeshI.av)), some (MeshS.mO (.slc 3 0 n none) room), some (.rows 9 1 (b.map MeshS.av))]
/-- Both go alike. -/
structure St (k n : Nat) (a : List Int) (b : List ByteArray) : Prop where
  na : n ≤ a.length
  nb : n ≤ b.length
  nk : n ≤ k
  co : ∀ j, j < n → ∃ x y, a[j]? = some x ∧ b[j]? = some y ∧ (y.size : Int) = x
theorem St.skip {k n a b} (h : St k n a b) : St (k + 1) n a b := ⟨h.na, h.nb, by have := h.nk; omega, h.co⟩
theorem St.put {k n a b} (h : St k n a b) {x : Int} {y : ByteArray} (hxy : (y.size : Int) = x) : St (k + 1) (n + 1) (MeshI.putAt n a x) (MeshS.putAt n b y) := by
  refine ⟨MeshI.putAt_len n a x h.na, MeshS.putAt_len n b y h.nb, by have := h.nk; omega, fun j hj => ?_⟩
  by_cases hjn : j < n
  · rw [MeshI.putAt_old h.na hjn, MeshS.putAt_old h.nb hjn]; exact h.co j hjn
  · obtain rfl : j = n := by omega
    exact ⟨x, y, MeshI.putAt_new h.na, MeshS.putAt_new h.nb, hxy⟩
theorem St.del {k n a b} (h : St k n a b) {i : Nat} (hi : i < n) : St (k + 1) (n - 1) (MeshI.delAt n a i) (MeshS.delAt n b i) := by
  have hna := h.na
  have hnb := h.nb
  refine ⟨by rw [MeshI.delAt_len hi hna]; omega, by rw [MeshS.delAt_len hi hnb]; omega, by have := h.nk; omega, fun j hj => ?_⟩
  rw [MeshI.delAt_get hi hna hj, MeshS.delAt_get hi hnb hj]
  split
  · exact h.co j (by omega)
  · exact h.co (j + 1) (by omega)
def JP (room : Int) (l : List OpR) (k : Nat) (e : Ev) (H : AHeap) : Prop := ∃ n a b, e = PE l k ∧ H = PH n a b room ∧ St k n a b
abbrev NX (room : Int) (l : List OpR) (k : Nat) : Ev → AHeap → Prop := fun e' H' => keepC e' [1, 5, 6, 34, 35] fun e1 => keepC e1 [1, 5, 6, 34, 35] fun e2 => GcP 0 H' e2 fun e3 H3 => k < l.length ∧ JP room l (k + 1) e3 H3
abbrev b3 : ACode := .seq (.ops false [O 36 (.bin .lss (.t 35) (.t 34))]) c3s26
def land63 (a : Int) : Int := IntKind.i64.wrap ((BitVec.ofInt IntKind.i64.bits a &&& BitVec.ofInt IntKind.i64.bits 63).toNat : Int)
theorem land63_in (a : Int) : 0 ≤ land63 a ∧ land63 a ≤ 63 := by
  unfold land63
  have h1 : (BitVec.ofInt IntKind.i64.bits a &&& BitVec.ofInt IntKind.i64.bits 63).toNat ≤ 63 := by
    rw [BitVec.toNat_and]
    have h : (BitVec.ofInt IntKind.i64.bits 63).toNat = 63 := by decide
    rw [h]
    exact Nat.and_le_right
  rw [IntWalk.i64_in _ (by omega)]
  omega
def zs (v : Int) : ByteArray := ⟨(List.replicate v.toNat 0).toArray⟩
theorem zs_size {v : Int} (h : 0 ≤ v) : ((zs v).size : Int) = v := by
  simp [zs, ByteArray.size]; omega
theorem mk_eq {t sz b : Nat} {z : AV} {k : IntKind} {v : Int} {H : AHeap} (h0 : 0 ≤ v) (hb : v.toNat * b ≤ roomBound) : aMake t sz b z (.int k v) (.int k v) H = some (.slc H.length 0 v.toNat none, H ++ [some (.rows t sz (List.replicate v.toNat z))]) := by
  simp [aMake, h0, hb, aFresh]
theorem unbyte_rep (n : Nat) : (List.replicate n (AV.int .u8 0)).mapM unbyte = some (List.replicate n 0) := by
  induction n with
  | zero => rfl
  | succ n ih => rw [List.replicate_succ, List.mapM_cons, ih]; rfl
theorem b2s_eq {t id n : Nat} {H : AHeap} (h : H[id]? = some (some (.rows t 1 (List.replicate n (.int .u8 0))))) : aB2s (.slc id 0 n none) H = some (.str ⟨(List.replicate n 0).toArray⟩) := by
  simp [aB2s, view, rowsOf, h, unbyte_rep]
theorem p_eq {o : Option (AV × AHeap)} {r : AV} {H' : AHeap} {k : AV → AHeap → Prop} (h : o = some (r, H')) (hk : k r H') : OptP o k := p_some h hk
