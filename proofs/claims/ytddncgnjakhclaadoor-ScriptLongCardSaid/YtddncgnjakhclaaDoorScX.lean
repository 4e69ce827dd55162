/- Reading bytes, walked: the reference's reader. No conditions. -/
import Derived.Test.YtddncgnjakhclaaDoorScR
set_option linter.unusedVariables false
set_option linter.unusedSimpArgs false
set_option maxRecDepth 100000
open Go Go.Am Go.Proofs
namespace Go.Am.Scr
theorem b2s_lit {t id : Nat} {H : AHeap} {ns : List UInt8} (h : H[id]? = some (some (.rows t 1 (ns.map bv)))) : aB2s (.slc id 0 ns.length none) H = some (.str ⟨ns.toArray⟩) := by
  have hm : (ns.map bv).mapM unbyte = some ns := by
    clear h
    induction ns with
    | nil => rfl
    | cons n ns ih =>
      rw [List.map_cons, List.mapM_cons, ih]
      have : unbyte (bv n) = some n := by
        have := n.toNat_lt
        simp [unbyte, bv]; omega
      rw [this]; rfl
  have ht : (ns.map bv).take ns.length = ns.map bv := List.take_of_length_le (by simp)
  simp [aB2s, view, rowsOf, h, ht, hm]
theorem u8_of {n : Nat} (h : n < 256) : ((UInt8.ofNat n).toNat : Int) = n := by simp; omega
theorem digit_ok (n : Nat) (h : n < 10) : AC PR 40 [.int .i64 n] [] (.str (num n)) [] := by
  apply A40
  conv => whnf
  generalize hq : decide ((n : Int) < 10) = q
  cases q
  case false => have := of_decide_eq_false hq; omega
  conv => whnf
  refine w_as ((48 + n : Nat) : Int) (by omega) (by omega) ?_
  conv => whnf
  refine w_id (by simp only [IntKind.wrap, IntKind.bits, IntKind.signed]; simp; omega) ?_
  conv => whnf
  refine k_eq (b2s_lit (ns := [UInt8.ofNat (48 + n)]) (by rw [← u8_of (n := 48 + n) (by omega)]; rfl)) ?_
  conv => whnf
  have e : (⟨[UInt8.ofNat (48 + n)].toArray⟩ : ByteArray) = num n := by unfold num; rw [if_pos h]
  rw [e]
  exact at_end []
theorem num_two : ∀ i : _root_.Fin 100, 10 ≤ i.val → num (i.val / 10) ++ (⟨[UInt8.ofNat (48 + i.val % 10)].toArray⟩ : ByteArray) = num i.val := by decide +kernel
theorem digits_ok (n : Nat) (h : n < 100) : AC PR 40 [.int .i64 n] [] (.str (num n)) [] := by
  by_cases h1 : n < 10
  · exact digit_ok n h1
  apply A40
  conv => whnf
  generalize hq : decide ((n : Int) < 10) = q
  cases q
  case true => have := of_decide_eq_true hq; omega
  have e1 : (n : Int).tdiv 10 = ((n / 10 : Nat) : Int) := by rw [Int.tdiv_eq_ediv_of_nonneg (by omega)]; omega
  have e2 : (n : Int).tmod 10 = ((n % 10 : Nat) : Int) := by rw [Int.tmod_eq_emod_of_nonneg (by omega)]; omega
  conv => whnf
  refine w_as ((n / 10 : Nat) : Int) e1 (by omega) ?_
  conv => whnf
  refine w_as ((48 + n % 10 : Nat) : Int) (by rw [e2]; omega) (by omega) ?_
  conv => whnf
  refine w_id (by simp only [IntKind.wrap, IntKind.bits, IntKind.signed]; simp; omega) ?_
  conv => whnf
  refine ⟨by simp, ?_⟩
  conv => whnf
  refine call_closed (digit_ok (n / 10) (by omega)) ?_
  conv => whnf
  refine ⟨by simp, ?_⟩
  conv => whnf
  refine ⟨by simp, ?_⟩
  conv => whnf
  refine ⟨by simp, ?_⟩
  conv => whnf
  refine k_eq (b2s_lit (ns := [UInt8.ofNat (48 + n % 10)]) (by rw [← u8_of (n := 48 + n % 10) (by omega)]; rfl)) ?_
  have hns := num_size (n / 10)
  have h2 : (⟨[UInt8.ofNat (48 + n % 10)].toArray⟩ : ByteArray).size = 1 := rfl
  have h3 := num_two ⟨n, h⟩ (by show 10 ≤ n; omega)
  simp only at h3
  generalize num (n / 10) = y at hns h3
  generalize (⟨[UInt8.ofNat (48 + n % 10)].toArray⟩ : ByteArray) = z at h2 h3
  conv => whnf
  refine cat_ok (c := num n) (by omega) h3 ?_
  conv => whnf
  exact at_end []
abbrev NxH (s : ByteArray) (at' : Nat) (e : Bool) : AHeap := [some (.rows 62 3 [.agg [.str s, .int .i64 at', .bool e]])]
theorem next_end (s : ByteArray) (p : Nat) (e : Bool) (h : s.size ≤ p) : AC PR 15 [.ptr 0 0 0] (NxH s p e) (.int .i64 0) (NxH s p true) := by
  apply A15
  conv => whnf
  generalize hq : decide ((s.size : Int) ≤ (p : Int)) = q
  cases q
  case false => have := of_decide_eq_false hq; omega
  conv => whnf
  exact at_end [some 0]
theorem next_ok (s : ByteArray) (p : Nat) (e : Bool) (b : UInt8) (hp : (p : Int) ≤ 100000) (h : s[p]? = some b) : AC PR 15 [.ptr 0 0 0] (NxH s p e) (.int .i64 b.toNat) (NxH s (p + 1) e) := by
  have hb := b.toNat_lt
  have hlt : p < s.size := by
    rw [getElem?_def] at h
    split at h
    · assumption
    · cases h
  apply A15
  conv => whnf
  generalize hq : decide ((s.size : Int) ≤ (p : Int)) = q
  cases q
  case true => have := of_decide_eq_true hq; omega
  conv => whnf
  refine w_as ((p + 1 : Nat) : Int) (by omega) (by omega) ?_
  conv => whnf
  refine w_as (p : Int) (by omega) (by omega) ?_
  conv => whnf
  refine k_eq (v := .int .u8 b.toNat) (by simp [aIndexS, h]) ?_
  conv => whnf
  refine w_i64 (by omega) ?_
  conv => whnf
  exact at_end [some 0]
