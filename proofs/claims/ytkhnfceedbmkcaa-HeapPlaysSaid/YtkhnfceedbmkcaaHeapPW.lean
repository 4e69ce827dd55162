/- The heap's functions, walked: of pairs. No conditions. -/
import Derived.Test.YtkhnfceedbmkcaaH3
import Derived.Test.YtkhnfceedbmkcaaHeapD
set_option linter.unusedVariables false
set_option linter.unusedSimpArgs false
set_option maxRecDepth 100000
open Go Go.Am Go.Proofs Go.Am.Heap
namespace Go.Am.HeapP
structure X where
  key : Int
  x : Int
  deriving DecidableEq
abbrev av (a : X) : AV := .agg [.int .i64 a.key, .int .i64 a.x]
abbrev irow (a : It X) : AV := .agg [.int .i64 a.x.key, .int .i64 a.x.x, .int .i64 a.seq]
abbrev ltX (a b : X) : Bool := decide (a.key < b.key)
abbrev zX : AV := .agg [.int .i64 0, .int .i64 0]
abbrev hpO (less sl : AV) (seq : Int) : AObj := .rows 60 3 [.agg [less, sl, .int .i64 seq]]
abbrev HL (less : AV) (n : Nat) (its : List (It X)) (seq : Int) : AHeap := [some (hpO less (.slc 1 0 n none) seq), some (.rows 62 3 (its.map irow))]
/-- An order, as it lies. -/
def Less (less : AV) (lt : X → X → Bool) : Prop := Bel 0 less ∧ ((less = .nilfn ∧ lt = fun _ _ => false) ∨ (less = .fn (.func 10) [] [] ∧ lt = ltX))
theorem Less.bel {less lt} (h : Less less lt) : Bel 0 less := h.1
theorem less_ok (a b : X) : AC PR 10 [av a, av b] [] (.bool (ltX a b)) [] := by
  apply A10
  conv => whnf
  exact at_end []
theorem new_ok {less : AV} {lt : X → X → Bool} (hl : Less less lt) : AC PR 9 [less] [] (.ptr 0 0 0) (HL less 0 [] 0) := by
  obtain ⟨hb, ⟨rfl, rfl⟩ | ⟨rfl, rfl⟩⟩ := hl
  · apply A9
    conv => whnf
    exact at_end [some 0, none]
  · apply A9
    conv => whnf
    exact at_end [some 0, none]
theorem len_ok (less : AV) (hb : Bel 0 less) (n : Nat) (its : List (It X)) (seq : Int) : AC PR 13 [.ptr 0 0 0] (HL less n its seq) (.int .i64 n) (HL less n its seq) := by
  apply A13
  conv => whnf
  exact at_end [some 0, some 1]
theorem len_nil : AC PR 13 [.nilptr] [] (.int .i64 0) [] := by
  apply A13
  conv => whnf
  exact at_end []
theorem before_ok {less : AV} {lt : X → X → Bool} (hl : Less less lt) (n : Nat) (its : List (It X)) (seq : Int) (i k : Int) (a b : It X) (h0 : 0 ≤ i) (k0 : 0 ≤ k) (hn : i < n) (hkn : k < n) (hi : its[i.toNat]? = some a) (hk : its[k.toNat]? = some b) :
    AC PR 43 [.ptr 0 0 0, .int .i64 i, .int .i64 k] (HL less n its seq) (.bool (bef lt a b)) (HL less n its seq) := by
  obtain ⟨hb, ⟨rfl, rfl⟩ | ⟨rfl, rfl⟩⟩ := hl
  · apply A43
    conv => whnf
    repeat (first
    | (refine And.intro rfl ?_; conv => whnf)
    | (refine k_idx ?_ _ rfl (by omega) (by omega); conv => whnf)
    | (refine e_idx ?_ _ rfl (by omega) (by omega); conv => whnf)
    | (refine k_row (get_map (by assumption)) ?_; conv => whnf)
    | (refine k_cell (get_map (by assumption)) ?_; conv => whnf)
    | (refine e_row (get_map (by assumption)) rfl ?_; conv => whnf)
    | (refine k_el (get_map (by assumption)) (by omega) ?_; conv => whnf)
    | (refine k_some (get_map (by assumption)) ?_; conv => whnf)
    | (refine f_set _ rfl ?_; conv => whnf)
    | (refine w_i64 (by omega) ?_; conv => whnf))
    have : bef (fun _ _ => false) a b = decide (a.seq < b.seq) := by simp [bef]
    rw [this]
    exact at_end [some 0, some 1]
  · apply A43
    conv => whnf
    repeat (first
    | (refine And.intro rfl ?_; conv => whnf)
    | (refine k_idx ?_ _ rfl (by omega) (by omega); conv => whnf)
    | (refine e_idx ?_ _ rfl (by omega) (by omega); conv => whnf)
    | (refine k_row (get_map (by assumption)) ?_; conv => whnf)
    | (refine k_cell (get_map (by assumption)) ?_; conv => whnf)
    | (refine e_row (get_map (by assumption)) rfl ?_; conv => whnf)
    | (refine k_el (get_map (by assumption)) (by omega) ?_; conv => whnf)
    | (refine k_some (get_map (by assumption)) ?_; conv => whnf)
    | (refine f_set _ rfl ?_; conv => whnf)
    | (refine w_i64 (by omega) ?_; conv => whnf))
    refine callv_closed (less_ok a.x b.x) ?_
    conv => whnf
    refine cond_b (fun h => ?_) (fun h => ?_)
    · conv => whnf
      have : bef ltX a b = true := by simp [bef, h]
      rw [this]
      exact at_end [some 0, some 1]
    · conv => whnf
      refine callv_closed (less_ok b.x a.x) ?_
      conv => whnf
      refine cond_b (fun h2 => ?_) (fun h2 => ?_)
      · conv => whnf
        have : bef ltX a b = false := by simp [bef, h, h2]
        rw [this]
        exact at_end [some 0, some 1]
      · conv => whnf
        have : bef ltX a b = decide (a.seq < b.seq) := by simp [bef, h, h2]
        rw [this]
        exact at_end [some 0, some 1]
theorem swap_ok {less : AV} (hb : Bel 0 less) (n : Nat) (its : List (It X)) (seq : Int) (i k : Int) (a b : It X) (h0 : 0 ≤ i) (k0 : 0 ≤ k) (hn : i < n) (hkn : k < n) (hi : its[i.toNat]? = some a) (hk : its[k.toNat]? = some b) :
    AC PR 31 [.ptr 0 0 0, .int .i64 i, .int .i64 k] (HL less n its seq) (.tuple []) (HL less n (swapL its i.toNat k.toNat) seq) := by
  have hkl := (List.getElem?_eq_some_iff.1 hk).1
  rw [swapL_of hi hk]
  obtain ⟨c, hc⟩ : ∃ c, (its.set i.toNat b)[k.toNat]? = some c := ⟨_, List.getElem?_eq_getElem (by simpa using hkl)⟩
  apply A31
  conv => whnf
  repeat (first
    | (refine And.intro rfl ?_; conv => whnf)
    | (refine k_idx ?_ _ rfl (by omega) (by omega); conv => whnf)
    | (refine e_idx ?_ _ rfl (by omega) (by omega); conv => whnf)
    | (refine k_row (get_map (by assumption)) ?_; conv => whnf)
    | (refine k_cell (get_map (by assumption)) ?_; conv => whnf)
    | (refine e_row (get_map (by assumption)) rfl ?_; conv => whnf)
    | (refine k_el (get_map (by assumption)) (by omega) ?_; conv => whnf)
    | (refine k_some (get_map (by assumption)) ?_; conv => whnf)
    | (refine f_set _ rfl ?_; conv => whnf)
    | (refine w_i64 (by omega) ?_; conv => whnf))
  exact at_end [some 0, some 1]
theorem up_ok {less : AV} {lt : X → X → Bool} (hl : Less less lt) (n : Nat) (its : List (It X)) (seq : Int) (i : Nat) (hi : i < n) (hn : n ≤ its.length) (hb : (n : Int) ≤ 1000000) :
    AC PR 29 [.ptr 0 0 0, .int .i64 i] (HL less n its seq) (.tuple []) (HL less n (upF lt i its i) seq) := by
  have hbel := hl.bel
  apply A29
  conv => whnf
  refine LoopP_rule (fun m e H => ∃ (j f : Nat) (l : List (It X)), e = [(0, .ptr 0 0 0), (1, .int .i64 j)] ∧ H = HL less n l seq ∧ m = j ∧ j < n ∧ n ≤ l.length ∧ j ≤ f ∧ upF lt f l j = upF lt i its i) ?_ ?_
  · rintro m e H ⟨j, f, l, rfl, rfl, rfl, hj, hnl, hf, hU⟩
    have fin : ¬ (0 < m ∧ befI lt l m ((m - 1) / 2) = true) → HL less n (upF lt i its i) seq = HL less n l seq := fun h => by
      rw [← hU]
      cases f with
      | zero => rfl
      | succ f => simp only [upF, if_neg h]
    conv => whnf
    generalize hq : decide ((0 : Int) < (m : Int)) = q
    cases q
    · conv => whnf
      have h0 : m = 0 := by simpa using hq
      rw [fin (by omega)]
      exact at_end [some 0, some 1]
    · have h0 : 0 < m := by simpa using hq
      have hm : m < l.length := by omega
      have hp : (m - 1) / 2 < l.length := by omega
      obtain ⟨a, ha⟩ : ∃ a, l[m]? = some a := ⟨_, List.getElem?_eq_getElem hm⟩
      obtain ⟨b, hb2⟩ : ∃ b, l[(m - 1) / 2]? = some b := ⟨_, List.getElem?_eq_getElem hp⟩
      conv => whnf
      refine w_as ((m - 1 : Nat) : Int) (by omega) (by omega) ?_
      conv => whnf
      refine w_as (((m - 1) / 2 : Nat) : Int) (tdiv2 _) (by omega) ?_
      conv => whnf
      refine call_fr [0, 1] [] (HL less n l seq) (before_ok hl n l seq m (((m - 1) / 2 : Nat) : Int) a b (by omega) (by omega) (by omega) (by omega) ha hb2) ?_
      conv => whnf
      refine cond_b (fun hbf => ?_) (fun hbf => ?_)
      · conv => whnf
        refine w_as ((m - 1 : Nat) : Int) (by omega) (by omega) ?_
        conv => whnf
        refine w_as (((m - 1) / 2 : Nat) : Int) (tdiv2 _) (by omega) ?_
        conv => whnf
        refine call_fr [0, 1] [] (HL less n (swapL l m ((m - 1) / 2)) seq) (swap_ok hbel n l seq m (((m - 1) / 2 : Nat) : Int) a b (by omega) (by omega) (by omega) (by omega) ha hb2) ?_
        conv => whnf
        refine w_as ((m - 1 : Nat) : Int) (by omega) (by omega) ?_
        conv => whnf
        refine w_as (((m - 1) / 2 : Nat) : Int) (tdiv2 _) (by omega) ?_
        conv => whnf
        refine at_head [some 0, some 1] (HL less n (swapL l m ((m - 1) / 2)) seq) [(0, .ptr 0 0 0), (1, .int .i64 (((m - 1) / 2 : Nat) : Int))] ⟨(m - 1) / 2, by omega, (m - 1) / 2, f - 1, _, rfl, rfl, rfl, by omega, by simpa using hnl, by omega, ?_⟩
        rw [← hU]
        have hbi : befI lt l m ((m - 1) / 2) = true := by rw [befI_of lt ha hb2]; exact hbf
        obtain ⟨f, rfl⟩ : ∃ k, f = k + 1 := ⟨f - 1, by omega⟩
        show _ = upF lt (f + 1) l m
        simp only [upF, if_pos (And.intro h0 hbi), Nat.add_sub_cancel]
      · conv => whnf
        rw [fin (by rw [befI_of lt ha hb2, hbf]; simp)]
        exact at_end [some 0, some 1]
  · conv => whnf
    exact at_head [some 0, some 1] (HL less n its seq) [(0, .ptr 0 0 0), (1, .int .i64 i)] ⟨i, i, i, its, rfl, rfl, rfl, hi, hn, Nat.le_refl _, rfl⟩
theorem down_ok {less : AV} {lt : X → X → Bool} (hl : Less less lt) (n : Nat) (its : List (It X)) (seq : Int) (i : Nat) (hn : n ≤ its.length) (hb : (n : Int) ≤ 1000000) (hib : (i : Int) ≤ 1000000) :
    AC PR 33 [.ptr 0 0 0, .int .i64 i] (HL less n its seq) (.tuple []) (HL less n (downF lt n (n - i) its i) seq) := by
  have hbel := hl.bel
  apply A33
  conv => whnf
  refine LoopP_rule (fun m e H => ∃ (j f : Nat) (l : List (It X)), e = [(0, .ptr 0 0 0), (1, .int .i64 j)] ∧ H = HL less n l seq ∧ m = n - j ∧ n ≤ l.length ∧ (j : Int) ≤ 1000000 ∧ n - j ≤ f ∧ downF lt n f l j = downF lt n (n - i) its i) ?_ ?_
  · rintro m e H ⟨j, f, l, rfl, rfl, rfl, hnl, hj, hf, hU⟩
    conv => whnf
    refine w_as ((2 * j : Nat) : Int) (by omega) (by omega) ?_
    conv => whnf
    refine w_as ((2 * j + 1 : Nat) : Int) (by omega) (by omega) ?_
    conv => whnf
    refine LoopP_rule (fun m e H => ∃ (c s : Nat), e = [(0, .ptr 0 0 0), (1, .int .i64 j), (4, .int .i64 s), (5, .int .i64 c)] ∧ H = HL less n l seq ∧ m = 2 * j + 3 - c ∧ 2 * j + 1 ≤ c ∧ c ≤ 2 * j + 3 ∧ (s = j ∨ j < s ∧ s < n) ∧
      (c = 2 * j + 1 → s = j) ∧ (c = 2 * j + 2 → s = if 2 * j + 1 < n ∧ befI lt l (2 * j + 1) j = true then 2 * j + 1 else j) ∧ (c = 2 * j + 3 → s = leastF lt n l j)) ?_ ?_
    · rintro m e H ⟨c, s, rfl, rfl, rfl, hc1, hc2, hs, hs1, hs2, hs3⟩
      conv => whnf
      refine w_as ((2 * j : Nat) : Int) (by omega) (by omega) ?_
      conv => whnf
      refine w_as ((2 * j + 2 : Nat) : Int) (by omega) (by omega) ?_
      conv => whnf
      generalize hq : decide ((c : Int) ≤ ((2 * j + 2 : Nat) : Int)) = q
      cases q
      · have hc : c = 2 * j + 3 := by have := of_decide_eq_false hq; omega
        have hsl : s = leastF lt n l j := hs3 hc
        conv => whnf
        generalize hq2 : decide ((s : Int) = (j : Int)) = q2
        cases q2
        · have hne : s ≠ j := fun e => by simp [e] at hq2
          have hjs : j < s ∧ s < n := by omega
          obtain ⟨a, ha⟩ : ∃ a, l[j]? = some a := ⟨_, List.getElem?_eq_getElem (by omega)⟩
          obtain ⟨b, hb2⟩ : ∃ b, l[s]? = some b := ⟨_, List.getElem?_eq_getElem (by omega)⟩
          conv => whnf
          refine call_fr [0, 1] [] (HL less n (swapL l j s) seq) (swap_ok hbel n l seq j s a b (by omega) (by omega) (by omega) (by omega) ha hb2) ?_
          conv => whnf
          refine at_head [some 0, some 1] (HL less n (swapL l j s) seq) [(0, .ptr 0 0 0), (1, .int .i64 s)] ⟨n - s, by omega, s, f - 1, _, rfl, rfl, rfl, by simpa using hnl, by omega, by omega, ?_⟩
          obtain ⟨f, rfl⟩ : ∃ k, f = k + 1 := ⟨f - 1, by omega⟩
          rw [← hU]
          show _ = downF lt n (f + 1) l j
          simp only [downF, ← hsl, if_neg hne, Nat.add_sub_cancel]
        · have hne : s = j := by have := of_decide_eq_true hq2; omega
          have : downF lt n (n - i) its i = l := by
            rw [← hU]
            cases f with
            | zero => rfl
            | succ f => simp only [downF, ← hsl, if_pos hne]
          rw [this]
          conv => whnf
          exact at_end [some 0, some 1]
      · have hc : c ≤ 2 * j + 2 := by have := of_decide_eq_true hq; omega
        conv => whnf
        generalize hq3 : decide ((c : Int) < (n : Int)) = q3
        cases q3
        · have hcn : n ≤ c := by have := of_decide_eq_false hq3; omega
          have hsl : s = leastF lt n l j := by
            unfold leastF
            rcases (by omega : c = 2 * j + 1 ∨ c = 2 * j + 2) with h | h
            · rw [hs1 h]; simp only []; rw [if_neg (by omega), if_neg (by omega)]
            · rw [hs2 h]; simp only []; rw [if_neg (c := 2 * j + 2 < n ∧ _) (by omega)]
          conv => whnf
          generalize hq2 : decide ((s : Int) = (j : Int)) = q2
          cases q2
          · have hne : s ≠ j := fun e => by simp [e] at hq2
            have hjs : j < s ∧ s < n := by omega
            obtain ⟨a, ha⟩ : ∃ a, l[j]? = some a := ⟨_, List.getElem?_eq_getElem (by omega)⟩
            obtain ⟨b, hb2⟩ : ∃ b, l[s]? = some b := ⟨_, List.getElem?_eq_getElem (by omega)⟩
            conv => whnf
            refine call_fr [0, 1] [] (HL less n (swapL l j s) seq) (swap_ok hbel n l seq j s a b (by omega) (by omega) (by omega) (by omega) ha hb2) ?_
            conv => whnf
            refine at_head [some 0, some 1] (HL less n (swapL l j s) seq) [(0, .ptr 0 0 0), (1, .int .i64 s)] ⟨n - s, by omega, s, f - 1, _, rfl, rfl, rfl, by simpa using hnl, by omega, by omega, ?_⟩
            obtain ⟨f, rfl⟩ : ∃ k, f = k + 1 := ⟨f - 1, by omega⟩
            rw [← hU]
            show _ = downF lt n (f + 1) l j
            simp only [downF, ← hsl, if_neg hne, Nat.add_sub_cancel]
          · have hne : s = j := by have := of_decide_eq_true hq2; omega
            have : downF lt n (n - i) its i = l := by
              rw [← hU]
              cases f with
              | zero => rfl
              | succ f => simp only [downF, ← hsl, if_pos hne]
            rw [this]
            conv => whnf
            exact at_end [some 0, some 1]
        · have hcn : c < n := by have := of_decide_eq_true hq3; omega
          obtain ⟨a, ha⟩ : ∃ a, l[c]? = some a := ⟨_, List.getElem?_eq_getElem (by omega)⟩
          obtain ⟨b, hb2⟩ : ∃ b, l[s]? = some b := ⟨_, List.getElem?_eq_getElem (by omega)⟩
          conv => whnf
          refine call_fr [0, 1] [] (HL less n l seq) (before_ok hl n l seq c s a b (by omega) (by omega) (by omega) (by omega) ha hb2) ?_
          conv => whnf
          have hbf := befI_of lt ha hb2
          generalize hq4 : bef lt a b = q4
          cases q4
          · conv => whnf
            refine w_as ((c + 1 : Nat) : Int) (by omega) (by omega) ?_
            conv => whnf
            refine at_head [some 0, some 1] (HL less n l seq) [(0, .ptr 0 0 0), (1, .int .i64 j), (4, .int .i64 s), (5, .int .i64 ((c + 1 : Nat) : Int))] ⟨2 * j + 3 - (c + 1), by omega, c + 1, s, rfl, rfl, rfl, by omega, by omega, by omega, by omega, fun h => ?_, fun h => ?_⟩
            · have hc : c = 2 * j + 1 := by omega
              have := hs1 hc
              subst this hc
              rw [hbf, hq4]; simp
            · have hc : c = 2 * j + 2 := by omega
              have := hs2 hc
              unfold leastF
              simp only []
              rw [← this, if_neg]
              rw [← hc, hbf, hq4]; simp
          · conv => whnf
            refine w_as ((c + 1 : Nat) : Int) (by omega) (by omega) ?_
            conv => whnf
            refine at_head [some 0, some 1] (HL less n l seq) [(0, .ptr 0 0 0), (1, .int .i64 j), (4, .int .i64 c), (5, .int .i64 ((c + 1 : Nat) : Int))] ⟨2 * j + 3 - (c + 1), by omega, c + 1, c, rfl, rfl, rfl, by omega, by omega, by omega, by omega, fun h => ?_, fun h => ?_⟩
            · have hc : c = 2 * j + 1 := by omega
              have := hs1 hc
              subst this
              rw [← hc, hbf, hq4, if_pos ⟨hcn, rfl⟩]
            · have hc : c = 2 * j + 2 := by omega
              have := hs2 hc
              unfold leastF
              simp only []
              rw [← this, if_pos, hc]
              rw [← hc, hbf, hq4]; exact ⟨hcn, rfl⟩
    · conv => whnf
      exact at_head [some 0, some 1] (HL less n l seq) [(0, .ptr 0 0 0), (1, .int .i64 j), (4, .int .i64 j), (5, .int .i64 ((2 * j + 1 : Nat) : Int))] ⟨2, 2 * j + 1, j, rfl, rfl, by omega, by omega, by omega, .inl rfl, by omega, by omega, by omega⟩
  · conv => whnf
    exact at_head [some 0, some 1] (HL less n its seq) [(0, .ptr 0 0 0), (1, .int .i64 i)] ⟨n - i, i, n - i, its, rfl, rfl, rfl, hn, hib, Nat.le_refl _, rfl⟩
