/- The reference's Decode, walked. No conditions. -/
import Derived.Test.YtddncgnjakhclaaDoorScD
set_option linter.unusedVariables false
set_option linter.unusedSimpArgs false
set_option maxRecDepth 100000
open Go Go.Am Go.Proofs
namespace Go.Am.Scr
abbrev D2E (s : ByteArray) (acc : List Sp) : Ev := [(0, .str s), (3, .ptr 0 0 0), (4, .slc 1 0 acc.length none)]
abbrev D2H (s : ByteArray) (p : Nat) (r : Rd) (acc : List Sp) : AHeap := NxH s p r.over ++ [some (.rows 41 25 (acc.map spR))]
structure D2J (s : ByteArray) (tot : List Sp) (k : Nat) (e : Ev) (H : AHeap) (p : Nat) (r : Rd) (acc : List Sp) : Prop where
  k : k = r.rest.length
  pos : Pos s p r
  tot : acc ++ decL r.rest.length r = tot
  len : acc.length + r.rest.length ≤ 4096
  e : e = D2E s acc
  H : H = D2H s p r acc
theorem ext_data (b : ByteArray) (n : Nat) (h : n ≤ b.size) : (b.extract 0 n).data.toList = b.data.toList.take n := by
  simp [ByteArray.data_extract]
theorem rdecode_ok (b0 : ByteArray) (hl : (b0.size : Int) ≤ 1000000) : AC PR 8 [.str b0] [] (.lst 25 ((decF ⟨b0.data.toList.take 4096, false⟩).map spR) none) [] := by
  have hb : b0.data.toList.length = b0.size := rfl
  apply A8
  conv => whnf
  refine cond_b (fun h => ?_) (fun h => ?_)
  · have h1 : 4096 < b0.size := by have := of_decide_eq_true h; omega
    have ht : (b0.extract 0 4096).size ≤ 4096 := by rw [ByteArray.size_extract]; omega
    have e1 := ext_data b0 4096 (by omega)
    conv => whnf
    refine k_eq (v := .str (b0.extract 0 4096)) (by simp [aSliceStr, aBounds, AV.natOf]; omega) ?_
    rw [← e1]
    generalize b0.extract 0 4096 = s at ht
    conv => whnf
    generalize htot : decF ⟨s.data.toList, false⟩ = tot
    refine loop_dn (fun k e H => ∃ p r acc, D2J s tot k e H p r acc) ?_ ?_
    · rintro k e H ⟨p, r, acc, ⟨rfl, hp, htot, hlen, rfl, rfl⟩⟩
      have hsz : s.data.toList.length = s.size := rfl
      obtain ⟨rest, over⟩ := r
      have hpl := congrArg List.length hp.eq
      simp only [List.length_drop, hsz] at hpl
      have hpe := hp.le
      cases rest with
      | nil =>
        simp only [List.length_nil] at hpl
        have : acc = tot := by rw [← htot]; simp [decL]
        rw [← this]
        conv => whnf
        generalize hq : decide ((p : Int) < (s.size : Int)) = q
        cases q
        case true => have := of_decide_eq_true hq; omega
        conv => whnf
        exact at_end []
      | cons b rest =>
        simp only [List.length_cons] at htot hlen hpl
        have hb := b.toNat_lt
        obtain ⟨p1, hp1, h1⟩ : ∃ p1, Pos s p1 ⟨rest, over⟩ ∧ AC PR 15 [.ptr 0 0 0] (NxH s p over) (.int .i64 (one ⟨b :: rest, over⟩).1) (NxH s p1 over) := next_rd hp (by omega)
        conv => whnf
        generalize hq : decide ((p : Int) < (s.size : Int)) = q
        cases q
        case false => have := of_decide_eq_false hq; omega
        conv => whnf
        refine call_fr [0] [] (NxH s p1 over) h1 ?_
        conv => whnf
        have hd : ∀ X, decL (rest.length + 1) ⟨b :: rest, over⟩ = X → acc ++ X = tot := fun X h => by rw [← h]; exact htot
        simp only [decL] at hd
        replace hd := hd _ rfl
        generalize hq1 : decide ((((one ⟨b :: rest, over⟩).1 : Nat) : Int) < 1) = q1
        cases q1
        case true =>
          have h1 : b.toNat < 1 := by have := of_decide_eq_true hq1; simp [one] at this; omega
          rw [if_neg (by omega)] at hd
          conv => whnf
          exact at_head [some 0, some 1] (D2H s p1 ⟨rest, over⟩ acc) (D2E s acc) ⟨_, by simp, p1, _, _, ⟨rfl, hp1, hd, by simp only; omega, rfl, rfl⟩⟩
        have h1 : ¬ b.toNat < 1 := by have := of_decide_eq_false hq1; simp [one] at this; omega
        conv => whnf
        generalize hq2 : decide (11 < (((one ⟨b :: rest, over⟩).1 : Nat) : Int)) = q2
        cases q2
        case true =>
          have h2 : 11 < b.toNat := by have := of_decide_eq_true hq2; simp [one] at this; omega
          rw [if_neg (by omega)] at hd
          conv => whnf
          exact at_head [some 0, some 1] (D2H s p1 ⟨rest, over⟩ acc) (D2E s acc) ⟨_, by simp, p1, _, _, ⟨rfl, hp1, hd, by simp only; omega, rfl, rfl⟩⟩
        have h2 : b.toNat ≤ 11 := by have := of_decide_eq_false hq2; simp [one] at this; omega
        rw [if_pos (by omega)] at hd
        conv => whnf
        have h3 := after_len (stF b.toNat ⟨rest, over⟩).2 ⟨rest, over⟩
        obtain ⟨p2, hp2, h4⟩ := rentry_ok b.toNat (by omega) hp1 (by omega)
        replace h4 : AC PR 16 [.ptr 0 0 0, .int .i64 b.toNat] (NxH s p1 over) (spA (stF b.toNat ⟨rest, over⟩).1) (NxH s p2 (after (stF b.toNat ⟨rest, over⟩).2 ⟨rest, over⟩).over) := h4
        replace hp2 : Pos s p2 (after (stF b.toNat ⟨rest, over⟩).2 ⟨rest, over⟩) := hp2
        rw [dec_more rest.length (after (stF b.toNat ⟨rest, over⟩).2 ⟨rest, over⟩).rest.length _ h3 (Nat.le_refl _)] at hd
        simp only at h3
        generalize (stF b.toNat ⟨rest, over⟩).1 = x at hd h4
        generalize after (stF b.toNat ⟨rest, over⟩).2 ⟨rest, over⟩ = r2 at h3 hd h4 hp2
        refine call_fr [0] [] (NxH s p2 r2.over) h4 ?_
        conv => whnf
        refine cond_b (fun h => ?_) (fun h => ?_)
        · rw [if_pos h, List.append_nil] at hd
          conv => whnf
          rw [← hd]
          exact at_end []
        · rw [if_neg (by simp [h])] at hd
          conv => whnf
          refine app_map (f := spR) (l := acc) (new := [x]) rfl rfl (Nat.le_refl _) (by simp [roomBound]; omega) (fun _ => forceS_any ?_) (fun h => absurd h (Nat.lt_irrefl _))
          conv => whnf
          have e4 : acc.length + [x].length = (acc ++ [x]).length := by simp
          rw [e4]
          exact at_head [some 0, some 4] (D2H s p2 r2 (acc ++ [x])) (D2E s (acc ++ [x])) ⟨_, by simp only [List.length_cons]; omega, p2, _, _, ⟨rfl, hp2, by rw [← hd]; simp, by simp; omega, rfl, rfl⟩⟩
    · conv => whnf
      exact at_head [some 0, none] (D2H s 0 ⟨s.data.toList, false⟩ []) (D2E s []) ⟨_, 0, _, _, ⟨rfl, ⟨rfl, by omega⟩, htot, by simp; omega, rfl, rfl⟩⟩
  · have h1 : b0.size ≤ 4096 := by have := of_decide_eq_false h; omega
    have e1 : b0.data.toList.take 4096 = b0.data.toList := List.take_of_length_le (by omega)
    rw [e1]
    have ht := h1
    clear e1
    revert ht h hl hb h1
    generalize b0 = s
    intro hl hb h h1 ht
    conv => whnf
    generalize htot : decF ⟨s.data.toList, false⟩ = tot
    refine loop_dn (fun k e H => ∃ p r acc, D2J s tot k e H p r acc) ?_ ?_
    · rintro k e H ⟨p, r, acc, ⟨rfl, hp, htot, hlen, rfl, rfl⟩⟩
      have hsz : s.data.toList.length = s.size := rfl
      obtain ⟨rest, over⟩ := r
      have hpl := congrArg List.length hp.eq
      simp only [List.length_drop, hsz] at hpl
      have hpe := hp.le
      cases rest with
      | nil =>
        simp only [List.length_nil] at hpl
        have : acc = tot := by rw [← htot]; simp [decL]
        rw [← this]
        conv => whnf
        generalize hq : decide ((p : Int) < (s.size : Int)) = q
        cases q
        case true => have := of_decide_eq_true hq; omega
        conv => whnf
        exact at_end []
      | cons b rest =>
        simp only [List.length_cons] at htot hlen hpl
        have hb := b.toNat_lt
        obtain ⟨p1, hp1, h1⟩ : ∃ p1, Pos s p1 ⟨rest, over⟩ ∧ AC PR 15 [.ptr 0 0 0] (NxH s p over) (.int .i64 (one ⟨b :: rest, over⟩).1) (NxH s p1 over) := next_rd hp (by omega)
        conv => whnf
        generalize hq : decide ((p : Int) < (s.size : Int)) = q
        cases q
        case false => have := of_decide_eq_false hq; omega
        conv => whnf
        refine call_fr [0] [] (NxH s p1 over) h1 ?_
        conv => whnf
        have hd : ∀ X, decL (rest.length + 1) ⟨b :: rest, over⟩ = X → acc ++ X = tot := fun X h => by rw [← h]; exact htot
        simp only [decL] at hd
        replace hd := hd _ rfl
        generalize hq1 : decide ((((one ⟨b :: rest, over⟩).1 : Nat) : Int) < 1) = q1
        cases q1
        case true =>
          have h1 : b.toNat < 1 := by have := of_decide_eq_true hq1; simp [one] at this; omega
          rw [if_neg (by omega)] at hd
          conv => whnf
          exact at_head [some 0, some 1] (D2H s p1 ⟨rest, over⟩ acc) (D2E s acc) ⟨_, by simp, p1, _, _, ⟨rfl, hp1, hd, by simp only; omega, rfl, rfl⟩⟩
        have h1 : ¬ b.toNat < 1 := by have := of_decide_eq_false hq1; simp [one] at this; omega
        conv => whnf
        generalize hq2 : decide (11 < (((one ⟨b :: rest, over⟩).1 : Nat) : Int)) = q2
        cases q2
        case true =>
          have h2 : 11 < b.toNat := by have := of_decide_eq_true hq2; simp [one] at this; omega
          rw [if_neg (by omega)] at hd
          conv => whnf
          exact at_head [some 0, some 1] (D2H s p1 ⟨rest, over⟩ acc) (D2E s acc) ⟨_, by simp, p1, _, _, ⟨rfl, hp1, hd, by simp only; omega, rfl, rfl⟩⟩
        have h2 : b.toNat ≤ 11 := by have := of_decide_eq_false hq2; simp [one] at this; omega
        rw [if_pos (by omega)] at hd
        conv => whnf
        have h3 := after_len (stF b.toNat ⟨rest, over⟩).2 ⟨rest, over⟩
        obtain ⟨p2, hp2, h4⟩ := rentry_ok b.toNat (by omega) hp1 (by omega)
        replace h4 : AC PR 16 [.ptr 0 0 0, .int .i64 b.toNat] (NxH s p1 over) (spA (stF b.toNat ⟨rest, over⟩).1) (NxH s p2 (after (stF b.toNat ⟨rest, over⟩).2 ⟨rest, over⟩).over) := h4
        replace hp2 : Pos s p2 (after (stF b.toNat ⟨rest, over⟩).2 ⟨rest, over⟩) := hp2
        rw [dec_more rest.length (after (stF b.toNat ⟨rest, over⟩).2 ⟨rest, over⟩).rest.length _ h3 (Nat.le_refl _)] at hd
        simp only at h3
        generalize (stF b.toNat ⟨rest, over⟩).1 = x at hd h4
        generalize after (stF b.toNat ⟨rest, over⟩).2 ⟨rest, over⟩ = r2 at h3 hd h4 hp2
        refine call_fr [0] [] (NxH s p2 r2.over) h4 ?_
        conv => whnf
        refine cond_b (fun h => ?_) (fun h => ?_)
        · rw [if_pos h, List.append_nil] at hd
          conv => whnf
          rw [← hd]
          exact at_end []
        · rw [if_neg (by simp [h])] at hd
          conv => whnf
          refine app_map (f := spR) (l := acc) (new := [x]) rfl rfl (Nat.le_refl _) (by simp [roomBound]; omega) (fun _ => forceS_any ?_) (fun h => absurd h (Nat.lt_irrefl _))
          conv => whnf
          have e4 : acc.length + [x].length = (acc ++ [x]).length := by simp
          rw [e4]
          exact at_head [some 0, some 4] (D2H s p2 r2 (acc ++ [x])) (D2E s (acc ++ [x])) ⟨_, by simp only [List.length_cons]; omega, p2, _, _, ⟨rfl, hp2, by rw [← hd]; simp, by simp; omega, rfl, rfl⟩⟩
    · conv => whnf
      exact at_head [some 0, none] (D2H s 0 ⟨s.data.toList, false⟩ []) (D2E s []) ⟨_, 0, _, _, ⟨rfl, ⟨rfl, by omega⟩, htot, by simp; omega, rfl, rfl⟩⟩
end Go.Am.Scr
