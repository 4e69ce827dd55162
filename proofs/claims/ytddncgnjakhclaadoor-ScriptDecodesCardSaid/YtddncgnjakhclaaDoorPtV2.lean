/- Names (the reference), walked. No conditions. -/
import Derived.Test.YtddncgnjakhclaaDoorPtV1
set_option linter.unusedVariables false
set_option linter.unusedSimpArgs false
set_option maxRecDepth 100000
open Go Go.Am Go.Proofs
namespace Go.Am.Pt
def chOK (c : UInt8) : Bool := decide (97 ≤ c.toNat ∧ c.toNat ≤ 122) || decide (48 ≤ c.toNat ∧ c.toNat ≤ 57) || decide (c.toNat = 45)
def nameL (l : List UInt8) : Bool := decide (1 ≤ l.length ∧ l.length ≤ 16) && decide (l[0]? ≠ some 45) && l.all chOK
def nameB (s : ByteArray) : Bool := nameL s.data.toList
theorem ba_get {s : ByteArray} {i : Nat} {c : UInt8} (h : s.data.toList[i]? = some c) : s[i]? = some c := by
  obtain ⟨h1, h2⟩ := List.getElem?_eq_some_iff.1 h
  have h3 : i < s.size := h1
  rw [getElem?_def, dif_pos h3]
  exact congrArg some h2
theorem idx_ok {s : ByteArray} {kk : IntKind} {i : Nat} {c : UInt8} (h : s.data.toList[i]? = some c) : aIndexS (.str s) (.int kk (i : Int)) = some (.int .u8 c.toNat) := by
  simp [aIndexS, ba_get h]
theorem u8_45 {c : UInt8} (h : (c.toNat : Int) = 45) : c = 45 := UInt8.toNat.inj (by
  have : c.toNat = 45 := by omega
  rw [this]; rfl)
theorem rname_ok (s : ByteArray) : AC PR 24 [.str s] [] (.bool (nameB s)) [] := by
  have hsz : s.data.toList.length = s.size := rfl
  have hB : nameB s = (decide (1 ≤ s.data.toList.length ∧ s.data.toList.length ≤ 16) && decide (s.data.toList[0]? ≠ some 45) && s.data.toList.all chOK) := rfl
  generalize nameB s = B at hB
  generalize hl : s.data.toList = l at hsz hB
  apply A24
  conv => whnf
  generalize hq1 : decide ((s.size : Int) < 1) = q1
  cases q1
  case true =>
    have h1 : l.length < 1 := by have := of_decide_eq_true hq1; omega
    rw [show decide (1 ≤ l.length ∧ l.length ≤ 16) = false from decide_eq_false (by omega)] at hB
    replace hB := hB.symm
    conv => whnf
    exact at_end []
  have h1 : 1 ≤ l.length := by have := of_decide_eq_false hq1; omega
  conv => whnf
  generalize hq2 : decide (16 < (s.size : Int)) = q2
  cases q2
  case true =>
    have h1 : 16 < l.length := by have := of_decide_eq_true hq2; omega
    rw [show decide (1 ≤ l.length ∧ l.length ≤ 16) = false from decide_eq_false (by omega)] at hB
    replace hB := hB.symm
    conv => whnf
    exact at_end []
  have h2 : l.length ≤ 16 := by have := of_decide_eq_false hq2; omega
  conv => whnf
  obtain ⟨c, hc⟩ : ∃ c, l[0]? = some c := ⟨_, List.getElem?_eq_getElem (by omega)⟩
  refine k_eq (idx_ok (i := 0) (by rw [hl]; exact hc)) ?_
  rw [show decide (1 ≤ l.length ∧ l.length ≤ 16) = true from decide_eq_true ⟨h1, h2⟩, hc] at hB
  conv => whnf
  refine cond_b (fun h => ?_) (fun h => ?_)
  · have e : c = 45 := u8_45 (of_decide_eq_true h)
    subst e
    replace hB := hB.symm
    conv => whnf
    exact at_end []
  have hne : (some c ≠ some (45 : UInt8)) := fun e => by cases e; simp at h
  rw [decide_eq_true hne] at hB
  simp only [Bool.true_and] at hB
  conv => whnf
  refine loop_to l.length (fun k e H => e = [(0, .str s), (3, i64 k)] ∧ H = [] ∧ (l.take k).all chOK = true) ?_ ?_
  · rintro k e H hk ⟨rfl, rfl, ht⟩
    conv => whnf
    generalize hq : decide ((k : Int) < (s.size : Int)) = q
    cases q
    case false =>
      have hk2 : k = l.length := by have := of_decide_eq_false hq; omega
      rw [hk2, List.take_length] at ht
      rw [ht] at hB
      replace hB := hB.symm
      conv => whnf
      exact at_end []
    have hk2 : k < l.length := by have := of_decide_eq_true hq; omega
    have hga := List.getElem?_eq_getElem hk2
    generalize l[k] = x at hga
    conv => whnf
    refine k_eq (idx_ok (i := k) (by rw [hl]; exact hga)) ?_
    conv => whnf
    have hch : chOK x = (decide (97 ≤ x.toNat ∧ x.toNat ≤ 122) || decide (48 ≤ x.toNat ∧ x.toNat ≤ 57) || decide (x.toNat = 45)) := rfl
    have good : chOK x = true → (l.take (k + 1)).all chOK = true := fun h => by
      rw [List.take_add_one, hga]
      simp only [Option.toList_some, List.all_append, ht, List.all_cons, h, List.all_nil, Bool.and_self]
    have bad : chOK x = false → B = false := fun h => by
      rw [hB]
      exact List.all_eq_false.2 ⟨x, List.mem_of_getElem? hga, by simp [h]⟩
    have key : chOK x = !((decide ((x.toNat : Int) < 97) || decide (122 < (x.toNat : Int))) && (decide ((x.toNat : Int) < 48) || decide (57 < (x.toNat : Int))) && !decide ((x.toNat : Int) = 45)) := by
      rw [hch, Bool.eq_iff_iff]
      simp only [Bool.or_eq_true, Bool.not_eq_true', Bool.and_eq_false_iff, Bool.or_eq_false_iff, Bool.not_eq_false', decide_eq_true_eq, decide_eq_false_iff_not]
      omega
    generalize g1 : decide ((x.toNat : Int) < 97) = q1 at key
    generalize g2 : decide (122 < (x.toNat : Int)) = q2 at key
    generalize g3 : decide ((x.toNat : Int) < 48) = q3 at key
    generalize g4 : decide (57 < (x.toNat : Int)) = q4 at key
    generalize g5 : decide ((x.toNat : Int) = 45) = q5 at key
    try rw [g1]
    cases q1 <;> conv => whnf
    all_goals first | (rw [g2]; cases q2 <;> conv => whnf) | skip
    all_goals first | (rw [g3]; cases q3 <;> conv => whnf) | skip
    all_goals first | (rw [g4]; cases q4 <;> conv => whnf) | skip
    all_goals first | (rw [g5]; cases q5 <;> conv => whnf) | skip
    all_goals simp only [Bool.or_true, Bool.true_or, Bool.false_or, Bool.or_false, Bool.and_true, Bool.true_and, Bool.and_false, Bool.false_and, Bool.not_true, Bool.not_false] at key
    all_goals first
      | (refine w_as ((k + 1 : Nat) : Int) (by omega) (by omega) ?_
         conv => whnf
         exact at_head [] [] _ ⟨by omega, rfl, rfl, good key⟩)
      | (rw [bad key]; exact at_end [])
  · conv => whnf
    exact at_head [] [] _ ⟨rfl, rfl, by simp⟩
end Go.Am.Pt
