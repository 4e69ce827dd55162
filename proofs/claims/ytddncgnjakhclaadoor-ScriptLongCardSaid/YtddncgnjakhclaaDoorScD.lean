/- Decode, walked. No conditions. -/
import Derived.Test.YtddncgnjakhclaaDoorScE
set_option linter.unusedVariables false
set_option linter.unusedSimpArgs false
set_option maxRecDepth 100000
open Go Go.Am Go.Proofs
namespace Go.Am.Scr
/-- The steps that are read. -/
def decL : Nat → Rd → List Sp
  | 0, _ => []
  | n + 1, r => match r.rest with
    | [] => []
    | b :: l => if 1 ≤ b.toNat ∧ b.toNat ≤ 11 then
        (if (after (stF b.toNat ⟨l, r.over⟩).2 ⟨l, r.over⟩).over = true then [] else (stF b.toNat ⟨l, r.over⟩).1 :: decL n (after (stF b.toNat ⟨l, r.over⟩).2 ⟨l, r.over⟩))
      else decL n ⟨l, r.over⟩
theorem one_len (r : Rd) : (one r).2.rest.length ≤ r.rest.length := by
  unfold one; split <;> simp_all
theorem after_len : ∀ (n : Nat) (r : Rd), (after n r).rest.length ≤ r.rest.length
  | 0, _ => Nat.le_refl _
  | n + 1, r => Nat.le_trans (after_len n _) (one_len r)
theorem dec_more : ∀ (n m : Nat) (r : Rd), r.rest.length ≤ n → r.rest.length ≤ m → decL n r = decL m r
  | 0, m, r, h, _ => by
    have : r.rest = [] := List.length_eq_zero_iff.1 (by omega)
    cases m <;> simp [decL, this]
  | n + 1, 0, r, _, h => by
    have : r.rest = [] := List.length_eq_zero_iff.1 (by omega)
    simp [decL, this]
  | n + 1, m + 1, r, h1, h2 => by
    obtain ⟨rest, over⟩ := r
    cases rest with
    | nil => simp [decL]
    | cons b l =>
      simp only [List.length_cons] at h1 h2
      have h3 := after_len (stF b.toNat ⟨l, over⟩).2 ⟨l, over⟩
      simp only at h3
      simp only [decL]
      rw [dec_more n m ⟨l, over⟩ (by simp only; omega) (by simp only; omega), dec_more n m (after (stF b.toNat ⟨l, over⟩).2 ⟨l, over⟩) (by omega) (by omega)]
def decF (r : Rd) : List Sp := decL r.rest.length r
def spR (s : Sp) : AV := spA s
@[simp] theorem spR_bel (n : Nat) (x : Sp) : Bel n (spR x) ↔ True := by simp [spR]
theorem dec_len (n : Nat) (r : Rd) : (decL n r).length ≤ n := by
  induction n generalizing r with
  | zero => simp [decL]
  | succ n ih =>
    simp only [decL]
    split
    · simp
    · split
      · split
        · simp
        · simp only [List.length_cons]; have := ih (after (stF (by assumption : UInt8).toNat ⟨by assumption, r.over⟩).2 ⟨by assumption, r.over⟩); omega
      · have := ih ⟨by assumption, r.over⟩; omega
abbrev DE (acc : List Sp) : Ev := [(3, .ptr 0 0 0), (4, .slc 1 0 acc.length none)]
abbrev DH (r : Rd) (acc : List Sp) : AHeap := RH r ++ [some (.rows 42 25 (acc.map spR))]
structure DJ (tot : List Sp) (k : Nat) (e : Ev) (H : AHeap) (r : Rd) (acc : List Sp) : Prop where
  k : k = r.rest.length
  tot : acc ++ decL r.rest.length r = tot
  len : acc.length + r.rest.length ≤ 4096
  e : e = DE acc
  H : H = DH r acc
theorem decode_ok (l : List UInt8) (hl : (l.length : Int) ≤ 1000000) : AC PR 7 [.lst 1 (l.map bv) none] [] (.lst 25 ((decF ⟨l.take 4096, false⟩).map spR) none) [] := by
  have hm : (l.map bv).length = l.length := List.length_map ..
  apply A7
  conv => whnf
  have e1 : (if 4096 < (((l.map bv).length : Nat) : Int) then (4096 : Int) else (((l.map bv).length : Nat) : Int)) = ((min 4096 l.length : Nat) : Int) := by rw [hm]; split <;> omega
  rw [e1]
  have e2 : l.take (min 4096 l.length) = l.take 4096 := by
    by_cases h : l.length ≤ 4096
    · rw [Nat.min_eq_right h, List.take_of_length_le (Nat.le_refl _), List.take_of_length_le h]
    · rw [Nat.min_eq_left (by omega)]
  have e3 : min 4096 l.length ≤ l.length := Nat.min_le_right ..
  have ht : (l.take 4096).length ≤ 4096 := by rw [List.length_take]; exact Nat.min_le_left ..
  refine k_eq (v := .lst 1 ((l.take 4096).map bv) none) (by simp [aSlice, aBounds, AV.natOf, ← List.map_take, e2, e3]) ?_
  generalize l.take 4096 = t at ht
  conv => whnf
  refine loop_dn (fun k e H => ∃ r acc, DJ (decF ⟨t, false⟩) k e H r acc) ?_ ?_
  · rintro k e H ⟨r, acc, ⟨rfl, htot, hlen, rfl, rfl⟩⟩
    obtain ⟨rest, over⟩ := r
    cases rest with
    | nil =>
      have : acc = decF ⟨t, false⟩ := by rw [← htot]; simp [decL]
      rw [← this]
      conv => whnf
      exact at_end []
    | cons b rest =>
      simp only [List.length_cons] at htot hlen
      have hb := b.toNat_lt
      conv => whnf
      generalize hq : decide (0 < (((b :: rest).map bv).length : Int)) = q
      cases q
      case false => have := of_decide_eq_false hq; simp at this
      conv => whnf
      refine call_fr [0] [] (RH ⟨rest, over⟩) (one_ok ⟨b :: rest, over⟩) ?_
      conv => whnf
      have hd : ∀ X, decL (rest.length + 1) ⟨b :: rest, over⟩ = X → acc ++ X = decF ⟨t, false⟩ := fun X h => by rw [← h]; exact htot
      simp only [decL] at hd
      replace hd := hd _ rfl
      show _
      generalize hq1 : decide ((((one ⟨b :: rest, over⟩).1 : Nat) : Int) < 1) = q1
      cases q1
      case true =>
        have h1 : b.toNat < 1 := by have := of_decide_eq_true hq1; simp [one] at this; omega
        rw [if_neg (by omega)] at hd
        conv => whnf
        exact at_head [some 0, some 1] (DH ⟨rest, over⟩ acc) (DE acc) ⟨_, by simp, _, _, ⟨rfl, hd, by simp only; omega, rfl, rfl⟩⟩
      have h1 : ¬ b.toNat < 1 := by have := of_decide_eq_false hq1; simp [one] at this; omega
      conv => whnf
      generalize hq2 : decide (11 < (((one ⟨b :: rest, over⟩).1 : Nat) : Int)) = q2
      cases q2
      case true =>
        have h2 : 11 < b.toNat := by have := of_decide_eq_true hq2; simp [one] at this; omega
        rw [if_neg (by omega)] at hd
        conv => whnf
        exact at_head [some 0, some 1] (DH ⟨rest, over⟩ acc) (DE acc) ⟨_, by simp, _, _, ⟨rfl, hd, by simp only; omega, rfl, rfl⟩⟩
      have h2 : b.toNat ≤ 11 := by have := of_decide_eq_false hq2; simp [one] at this; omega
      rw [if_pos (by omega)] at hd
      conv => whnf
      have h3 := after_len (stF b.toNat ⟨rest, over⟩).2 ⟨rest, over⟩
      refine call_fr [0] [] (RH (after (stF b.toNat ⟨rest, over⟩).2 ⟨rest, over⟩)) (entry_ok b.toNat (by omega) ⟨rest, over⟩) ?_
      rw [dec_more rest.length (after (stF b.toNat ⟨rest, over⟩).2 ⟨rest, over⟩).rest.length _ h3 (Nat.le_refl _)] at hd
      simp only at h3
      generalize (stF b.toNat ⟨rest, over⟩).1 = x at hd
      generalize after (stF b.toNat ⟨rest, over⟩).2 ⟨rest, over⟩ = r2 at h3 hd
      conv => whnf
      refine cond_b (fun h => ?_) (fun h => ?_)
      · rw [if_pos h, List.append_nil] at hd
        conv => whnf
        rw [← hd]
        exact at_end []
      · rw [if_neg (by simp [h])] at hd
        conv => whnf
        refine app_map (f := spR) (l := acc) (new := [x]) rfl rfl (Nat.le_refl _) (by simp [roomBound]; omega) (fun _ => forceS_any ?_) (fun h => absurd h (Nat.lt_irrefl _))
        conv => whnf
        have e4 : acc.length + [x].length = (acc ++ [x]).length := by simp
        rw [e4]
        exact at_head [some 0, some 4] (DH r2 (acc ++ [x])) (DE (acc ++ [x])) ⟨_, by simp only [List.length_cons]; omega, _, _, ⟨rfl, by rw [← hd]; simp, by simp; omega, rfl, rfl⟩⟩
  · conv => whnf
    exact at_head [some 0, none] (DH ⟨t, false⟩ []) (DE []) ⟨_, _, _, ⟨rfl, rfl, by simpa using ht, rfl, rfl⟩⟩
end Go.Am.Scr
