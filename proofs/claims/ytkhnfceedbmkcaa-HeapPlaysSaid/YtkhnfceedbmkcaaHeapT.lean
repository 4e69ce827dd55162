/- A heap of things: what comes out is what was put in, in order. No Go program is named here; no conditions. -/
import Derived.Test.YtkhnfceedbmkcaaHeapD
set_option linter.unusedVariables false
set_option linter.unusedSimpArgs false
namespace Go.Am.Heap
variable {α : Type} {lt : α → α → Bool}
/-- An order of things, where some may stand alike. -/
structure Ord (lt : α → α → Bool) : Prop where
  irr : ∀ a, lt a a = false
  tr : ∀ a b c, lt a b = true → lt b c = true → lt a c = true
  neg : ∀ a b c, lt a b = false → lt b c = false → lt a c = false
def le (lt : α → α → Bool) (a b : It α) : Prop := bef lt b a = false
theorem Ord.asymm (H : Ord lt) {a b : α} (h : lt a b = true) : lt b a = false := by
  cases hb : lt b a
  · rfl
  · have := H.tr a b a h hb; rw [H.irr] at this; cases this
theorem le_trans (H : Ord lt) {a b c : It α} (h1 : le lt a b) (h2 : le lt b c) : le lt a c := by
  unfold le bef at *
  have t1 := H.tr c.x b.x a.x
  have t2 := H.tr a.x c.x b.x
  have t3 := H.tr b.x a.x c.x
  have n1 := H.neg a.x b.x c.x
  have n2 := H.neg c.x b.x a.x
  have n3 := H.neg b.x a.x c.x
  have n4 := H.neg b.x c.x a.x
  have n5 := H.neg a.x c.x b.x
  have n6 := H.neg c.x a.x b.x
  have t4 := H.tr a.x b.x c.x
  cases h3 : lt a.x b.x <;> cases h4 : lt b.x a.x <;> cases h5 : lt b.x c.x <;> cases h6 : lt c.x b.x <;> cases h7 : lt a.x c.x <;> cases h8 : lt c.x a.x <;> simp_all <;> omega
theorem le_total (H : Ord lt) (a b : It α) : le lt a b ∨ le lt b a := by
  unfold le bef
  cases h3 : lt a.x b.x
  · cases h4 : lt b.x a.x
    · simp; omega
    · simp
  · have := H.asymm h3
    simp [this]
theorem le_refl (H : Ord lt) (a : It α) : le lt a a := by rcases le_total H a a with h | h <;> exact h
theorem le_of_bef (H : Ord lt) {a b : It α} (h : bef lt a b = true) : le lt a b := by
  rcases le_total H a b with h1 | h1
  · exact h1
  · unfold le at h1; rw [h] at h1; cases h1
theorem bef_of (H : Ord lt) {a b : It α} (h : le lt a b) (hs : a.seq ≠ b.seq) : bef lt a b = true := by
  unfold le bef at *
  cases h3 : lt a.x b.x
  · cases h4 : lt b.x a.x
    · simp [h3, h4] at h ⊢; omega
    · simp [h3, h4] at h
  · rfl
theorem bef_irr (H : Ord lt) (a : It α) : bef lt a a = false := by simp [bef, H.irr]

/-! ### Lists that are changed at places -/
theorem get_swap {l : List (It α)} {i k : Nat} {a b : It α} (hi : l[i]? = some a) (hk : l[k]? = some b) (j : Nat) : (swapL l i k)[j]? = if j = k then some a else if j = i then some b else l[j]? := by
  have h1 := (List.getElem?_eq_some_iff.1 hi).1
  have h2 := (List.getElem?_eq_some_iff.1 hk).1
  rw [swapL_of hi hk]
  by_cases hjk : j = k
  · subst hjk; simp [h2]
  · rw [if_neg hjk, List.getElem?_set_ne (Ne.symm hjk)]
    by_cases hji : j = i
    · subst hji; simp [h1]
    · rw [if_neg hji, List.getElem?_set_ne (Ne.symm hji)]
theorem swap_perm {l : List (It α)} {i k : Nat} : (swapL l i k).Perm l := by
  unfold swapL
  split
  · rename_i a b hi hk
    have h1 := (List.getElem?_eq_some_iff.1 hi)
    have h2 := (List.getElem?_eq_some_iff.1 hk)
    obtain ⟨h1, rfl⟩ := h1
    obtain ⟨h2, rfl⟩ := h2
    exact List.set_set_perm (h₁ := h1) (h₂ := h2)
  · exact List.Perm.refl _

/-- In order from a place on: each thing whose parent lies at k or behind stands by its parent. -/
def HeapFrom (lt : α → α → Bool) (k n : Nat) (l : List (It α)) : Prop := ∀ j a b, 0 < j → j < n → k ≤ (j - 1) / 2 → l[(j - 1) / 2]? = some a → l[j]? = some b → le lt a b

theorem up_heap (H : Ord lt) (n : Nat) : ∀ (f i : Nat) (l : List (It α)), i < n → n ≤ l.length → i ≤ f →
    (∀ j a b, 0 < j → j < n → j ≠ i → l[(j - 1) / 2]? = some a → l[j]? = some b → le lt a b) →
    (∀ j a b, 0 < i → 0 < j → j < n → (j - 1) / 2 = i → l[(i - 1) / 2]? = some a → l[j]? = some b → le lt a b) → HeapFrom lt 0 n (upF lt f l i)
  | 0, i, l, hi, hn, hf, h1, h2 => by
    intro j a b hj hjn _ ha hb
    exact h1 j a b hj hjn (by omega) ha hb
  | f + 1, i, l, hi, hn, hf, h1, h2 => by
    simp only [upF]
    split
    · rename_i hc
      obtain ⟨h0, hbf⟩ := hc
      have hp : (i - 1) / 2 < l.length := by omega
      obtain ⟨p, hpp⟩ : ∃ p, l[(i - 1) / 2]? = some p := ⟨_, List.getElem?_eq_getElem hp⟩
      obtain ⟨x, hx⟩ : ∃ x, l[i]? = some x := ⟨_, List.getElem?_eq_getElem (by omega)⟩
      rw [befI_of lt hx hpp] at hbf
      have hg := get_swap hx hpp
      refine up_heap H n f ((i - 1) / 2) _ (by omega) (by simpa using hn) (by omega) (fun j a b hj hjn hne ha hb => ?_) (fun j a b hi0 hj hjn hpar ha hb => ?_)
      · rw [hg] at ha hb
        by_cases hji : j = i
        · subst hji
          rw [if_pos rfl] at ha
          rw [if_neg (by omega), if_pos rfl] at hb
          cases ha; cases hb
          exact le_of_bef H hbf
        · rw [if_neg hne, if_neg hji] at hb
          by_cases hpi : (j - 1) / 2 = (i - 1) / 2
          · rw [if_pos hpi] at ha
            cases ha
            exact le_trans H (le_of_bef H hbf) (h1 j p b hj hjn hji (by rw [hpi]; exact hpp) hb)
          · rw [if_neg hpi] at ha
            by_cases hpi2 : (j - 1) / 2 = i
            · rw [if_pos hpi2] at ha
              cases ha
              exact h2 j p b h0 hj hjn hpi2 hpp hb
            · rw [if_neg hpi2] at ha
              exact h1 j a b hj hjn hji ha hb
      · rw [hg] at ha hb
        rw [if_neg (by omega), if_neg (by omega)] at ha
        have hgp := h1 ((i - 1) / 2) a p hi0 (by omega) (by omega) ha hpp
        by_cases hji : j = i
        · subst hji
          rw [if_neg (by omega), if_pos rfl] at hb
          cases hb; exact hgp
        · rw [if_neg (by omega), if_neg hji] at hb
          exact le_trans H hgp (h1 j p b hj hjn hji (by rw [hpar]; exact hpp) hb)
    · rename_i hc
      intro j a b hj hjn _ ha hb
      by_cases hji : j = i
      · subst hji
        unfold le
        cases hbf : bef lt b a
        · rfl
        · exact absurd ⟨hj, by rw [befI_of lt hb ha]; exact hbf⟩ hc
      · exact h1 j a b hj hjn hji ha hb

theorem least_le (H : Ord lt) {n : Nat} {l : List (It α)} (hn : n ≤ l.length) {i : Nat} {x : It α} (hx : l[i]? = some x) : ∃ m y, leastF lt n l i = m ∧ l[m]? = some y ∧ (m = i ∨ (m < n ∧ 0 < m ∧ (m - 1) / 2 = i ∧ bef lt y x = true)) ∧
    le lt y x ∧ ∀ j b, 0 < j → j < n → (j - 1) / 2 = i → l[j]? = some b → le lt y b := by
  have first : ∃ m y, (if 2 * i + 1 < n ∧ befI lt l (2 * i + 1) i = true then 2 * i + 1 else i) = m ∧ l[m]? = some y ∧ (m = i ∨ (m = 2 * i + 1 ∧ m < n ∧ bef lt y x = true)) ∧ le lt y x ∧ ∀ b, 2 * i + 1 < n → l[2 * i + 1]? = some b → le lt y b := by
    split
    · rename_i hc
      obtain ⟨y, hy⟩ : ∃ y, l[2 * i + 1]? = some y := ⟨_, List.getElem?_eq_getElem (by omega)⟩
      have hb := hc.2
      rw [befI_of lt hy hx] at hb
      exact ⟨_, y, rfl, hy, .inr ⟨rfl, hc.1, hb⟩, le_of_bef H hb, fun b _ hb2 => by rw [hy] at hb2; cases hb2; exact le_refl H _⟩
    · rename_i hc
      refine ⟨i, x, rfl, hx, .inl rfl, le_refl H _, fun b hlt hb => ?_⟩
      unfold le
      cases hbf : bef lt b x
      · rfl
      · exact absurd ⟨hlt, by rw [befI_of lt hb hx]; exact hbf⟩ hc
  obtain ⟨m, y, hm, hy, hmi, hyx, h1⟩ := first
  simp only [leastF, hm]
  split
  · rename_i hc
    obtain ⟨z, hz⟩ : ∃ z, l[2 * i + 2]? = some z := ⟨_, List.getElem?_eq_getElem (by omega)⟩
    have hb := hc.2
    rw [befI_of lt hz hy] at hb
    have hzx : bef lt z x = true := by
      rcases hmi with rfl | ⟨_, _, hm3⟩
      · rw [hy] at hx; cases hx; exact hb
      · cases hq : bef lt z x
        · have h3 : le lt x z := hq
          have h4 := le_trans H hyx h3
          unfold le at h4
          rw [hb] at h4; cases h4
        · rfl
    refine ⟨_, z, rfl, hz, .inr ⟨hc.1, by omega, by omega, hzx⟩, le_of_bef H hzx, fun j b hj hjn hji hjb => ?_⟩
    rcases (by omega : j = 2 * i + 1 ∨ j = 2 * i + 2) with rfl | rfl
    · exact le_trans H (le_of_bef H hb) (h1 b hjn hjb)
    · rw [hz] at hjb; cases hjb; exact le_refl H _
  · rename_i hc
    refine ⟨m, y, rfl, hy, ?_, hyx, fun j b hj hjn hji hjb => ?_⟩
    · rcases hmi with h | ⟨h, h2, h3⟩
      · exact .inl h
      · exact .inr ⟨h2, by omega, by omega, h3⟩
    rcases (by omega : j = 2 * i + 1 ∨ j = 2 * i + 2) with rfl | rfl
    · exact h1 b hjn hjb
    · unfold le
      cases hbf : bef lt b y
      · rfl
      · exact absurd ⟨hjn, by rw [befI_of lt hjb hy]; exact hbf⟩ hc

theorem down_heap (H : Ord lt) (k n : Nat) : ∀ (f i : Nat) (l : List (It α)), n ≤ l.length → n - i ≤ f → k ≤ i →
    (∀ j a b, 0 < j → j < n → k ≤ (j - 1) / 2 → (j - 1) / 2 ≠ i → l[(j - 1) / 2]? = some a → l[j]? = some b → le lt a b) →
    (∀ j a b, 0 < i → k ≤ (i - 1) / 2 → 0 < j → j < n → (j - 1) / 2 = i → l[(i - 1) / 2]? = some a → l[j]? = some b → le lt a b) → HeapFrom lt k n (downF lt n f l i)
  | 0, i, l, hn, hf, hk, h1, h2 => by
    intro j a b hj hjn hkj ha hb
    exact h1 j a b hj hjn hkj (by omega) ha hb
  | f + 1, i, l, hn, hf, hk, h1, h2 => by
    simp only [downF]
    by_cases hil : i < l.length
    · obtain ⟨x, hx⟩ : ∃ x, l[i]? = some x := ⟨_, List.getElem?_eq_getElem hil⟩
      obtain ⟨m, y, hm, hy, hmi, hyx, hall⟩ := least_le H hn hx
      rw [hm]
      split
      · rename_i he
        subst he
        rw [hx] at hy; cases hy
        intro j a b hj hjn hkj ha hb
        by_cases hp : (j - 1) / 2 = m
        · rw [hp] at ha; rw [hx] at ha; cases ha
          exact hall j b hj hjn hp hb
        · exact h1 j a b hj hjn hkj hp ha hb
      · rename_i hne
        rcases hmi with h | ⟨hmn, hm0, hmp, hbf⟩
        · exact absurd h hne
        have hg := get_swap hx hy
        refine down_heap H k n f m _ (by simpa using hn) (by omega) (by omega) (fun j a b hj hjn hkj hne2 ha hb => ?_) (fun j a b hm0' hkm hj hjn hpar ha hb => ?_)
        · rw [hg] at ha hb
          rw [if_neg hne2] at ha
          by_cases hjm : j = m
          · subst hjm
            rw [if_pos rfl] at hb
            rw [if_pos hmp] at ha
            cases ha; cases hb; exact hyx
          · rw [if_neg hjm] at hb
            by_cases hji : j = i
            · subst hji
              rw [if_pos rfl] at hb
              cases hb
              rw [if_neg (by omega)] at ha
              exact h2 m a y hj hkj hm0 hmn hmp ha hy
            · rw [if_neg hji] at hb
              by_cases hpi : (j - 1) / 2 = i
              · rw [if_pos hpi] at ha
                cases ha
                exact hall j b hj hjn hpi hb
              · rw [if_neg hpi] at ha
                exact h1 j a b hj hjn hkj hpi ha hb
        · rw [hg] at ha hb
          rw [hmp, if_neg (by omega), if_pos rfl] at ha
          cases ha
          rw [if_neg (by omega), if_neg (by omega)] at hb
          exact h1 j y b hj hjn (by omega) (by omega) (by rw [hpar]; exact hy) hb
    · have : leastF lt n l i = i := by
        unfold leastF
        simp only []
        rw [if_neg (by omega), if_neg (by omega)]
      rw [if_pos this]
      intro j a b hj hjn hkj ha hb
      exact h1 j a b hj hjn hkj (by omega) ha hb

theorem root_least (H : Ord lt) {n : Nat} {l : List (It α)} (hn : n ≤ l.length) (h : HeapFrom lt 0 n l) {r : It α} (hr : l[0]? = some r) : ∀ (j : Nat) b, j < n → l[j]? = some b → le lt r b := by
  intro j
  induction j using Nat.strongRecOn with
  | ind j ih =>
    intro b hj hb
    by_cases h0 : j = 0
    · subst h0; rw [hr] at hb; cases hb; exact le_refl H _
    · obtain ⟨p, hp⟩ : ∃ p, l[(j - 1) / 2]? = some p := ⟨_, List.getElem?_eq_getElem (by omega)⟩
      exact le_trans H (ih _ (by omega) p (by omega) hp) (h j p b (by omega) hj (Nat.zero_le _) hp hb)

theorem up_perm : ∀ (f i : Nat) (l : List (It α)), (upF lt f l i).Perm l
  | 0, _, l => List.Perm.refl l
  | f + 1, i, l => by
    simp only [upF]
    split
    · exact (up_perm f _ _).trans swap_perm
    · exact List.Perm.refl _
theorem down_perm (n : Nat) : ∀ (f i : Nat) (l : List (It α)), (downF lt n f l i).Perm l
  | 0, _, l => List.Perm.refl l
  | f + 1, i, l => by
    simp only [downF]
    split
    · exact List.Perm.refl _
    · exact (down_perm n f _ _).trans swap_perm

/-- What lies behind n stays. -/
theorem swap_drop {l : List (It α)} {n i k : Nat} (hi : i < n) (hk : k < n) : (swapL l i k).drop n = l.drop n := by
  unfold swapL
  split
  · apply List.ext_getElem?
    intro j
    rw [List.getElem?_drop, List.getElem?_drop, List.getElem?_set_ne (by omega), List.getElem?_set_ne (by omega)]
  · rfl
theorem up_drop {n : Nat} : ∀ (f i : Nat) (l : List (It α)), i < n → (upF lt f l i).drop n = l.drop n
  | 0, _, _, _ => rfl
  | f + 1, i, l, hi => by
    simp only [upF]
    split
    · rw [up_drop f _ _ (by omega), swap_drop hi (by omega)]
    · rfl
theorem least_cases (n : Nat) (l : List (It α)) (i : Nat) : leastF lt n l i = i ∨ leastF lt n l i < n := by
  have key : ∀ a : Nat, (a = i ∨ a < n) → (if 2 * i + 2 < n ∧ befI lt l (2 * i + 2) a = true then 2 * i + 2 else a) = i ∨ (if 2 * i + 2 < n ∧ befI lt l (2 * i + 2) a = true then 2 * i + 2 else a) < n := by
    intro a ha
    split
    · right; omega
    · exact ha
  refine key _ ?_
  split
  · right; omega
  · left; rfl
theorem down_drop {n : Nat} : ∀ (f i : Nat) (l : List (It α)), i < n ∨ n ≤ i → (downF lt n f l i).drop n = l.drop n
  | 0, _, _, _ => rfl
  | f + 1, i, l, hi => by
    simp only [downF]
    split
    · rfl
    · rename_i hne
      rcases least_cases (lt := lt) n l i with h | h
      · exact absurd h hne
      · by_cases hin : i < n
        · rw [down_drop f _ _ (.inl h), swap_drop hin h]
        · exfalso
          unfold leastF at hne
          simp only [] at hne
          rw [if_neg (by omega), if_neg (by omega)] at hne
          exact hne rfl
theorem take_perm {l m : List (It α)} {n : Nat} (h : l.Perm m) (hd : l.drop n = m.drop n) : (l.take n).Perm (m.take n) := by
  have h1 : (l.take n ++ l.drop n).Perm (m.take n ++ m.drop n) := by rw [List.take_append_drop, List.take_append_drop]; exact h
  rw [hd] at h1
  exact (List.perm_append_right_iff _).1 h1
/-! ### Lists in order -/
def ins (lt : α → α → Bool) (x : It α) : List (It α) → List (It α)
  | [] => [x]
  | a :: s => if bef lt x a = true then x :: a :: s else a :: ins lt x s
/-- In order: each ahead of all behind it. -/
def InOrd (lt : α → α → Bool) (s : List (It α)) : Prop := s.Pairwise fun a b => bef lt a b = true
/-- No two have one number. -/
def Apart (s : List (It α)) : Prop := s.Pairwise fun a b => a.seq ≠ b.seq
theorem inOrd_unique (H : Ord lt) : ∀ {s t : List (It α)}, InOrd lt s → InOrd lt t → s.Perm t → s = t
  | [], t, _, _, h => (List.nil_perm.1 h).symm
  | a :: s, [], _, _, h => by have := h.length_eq; simp at this
  | a :: s, b :: t, hs, ht, h => by
    have hs' := List.pairwise_cons.1 hs
    have ht' := List.pairwise_cons.1 ht
    have hab : a = b := by
      have h1 : a ∈ b :: t := h.subset (by simp)
      have h2 : b ∈ a :: s := h.symm.subset (by simp)
      rcases List.mem_cons.1 h1 with h1 | h1
      · exact h1
      · rcases List.mem_cons.1 h2 with h2 | h2
        · exact h2.symm
        · have e1 := ht'.1 a h1
          have e2 := hs'.1 b h2
          have := le_of_bef H e1
          unfold le at this
          rw [e2] at this; cases this
    subst hab
    rw [inOrd_unique H hs'.2 ht'.2 ((List.perm_cons a).1 h)]
theorem ins_perm (x : It α) : ∀ s : List (It α), (ins lt x s).Perm (x :: s)
  | [] => List.Perm.refl _
  | a :: s => by
    simp only [ins]
    split
    · exact List.Perm.refl _
    · exact ((List.perm_cons a).2 (ins_perm x s)).trans (List.Perm.swap x a s)
theorem bef_trans (H : Ord lt) {a b c : It α} (h1 : bef lt a b = true) (h2 : bef lt b c = true) : bef lt a c = true := by
  cases hq : bef lt a c
  · have h3 : le lt c a := hq
    have h4 := le_trans H h3 (le_of_bef H h1)
    unfold le at h4
    rw [h2] at h4; cases h4
  · rfl
theorem ins_ord (H : Ord lt) {x : It α} : ∀ {s : List (It α)}, InOrd lt s → (∀ a ∈ s, a.seq ≠ x.seq) → InOrd lt (ins lt x s)
  | [], _, _ => List.pairwise_singleton _ _
  | a :: s, h, hx => by
    have h' := List.pairwise_cons.1 h
    simp only [ins]
    split
    · rename_i hc
      refine List.pairwise_cons.2 ⟨fun b hb => ?_, h⟩
      rcases List.mem_cons.1 hb with rfl | hb
      · exact hc
      · exact bef_trans H hc (h'.1 b hb)
    · rename_i hc
      have hax : bef lt a x = true := bef_of H (by unfold le; simpa using hc) (hx a (by simp))
      refine List.pairwise_cons.2 ⟨fun b hb => ?_, ins_ord H h'.2 fun b hb => hx b (by simp [hb])⟩
      rcases List.mem_cons.1 ((ins_perm x s).subset hb) with rfl | hb
      · exact hax
      · exact h'.1 b hb

/-! ### The heap and its things in order -/
/-- A heap of n things (of a list that may have more behind them), whose things in order are s. -/
structure HeapOf (lt : α → α → Bool) (n : Nat) (l s : List (It α)) : Prop where
  len : n ≤ l.length
  heap : HeapFrom lt 0 n l
  ord : InOrd lt s
  perm : (l.take n).Perm s
theorem HeapOf.slen {n : Nat} {l s : List (It α)} (h : HeapOf lt n l s) : s.length = n := by
  have := h.perm.length_eq
  have := h.len
  simp at *; omega
theorem heapOf_nil : HeapOf lt 0 [] ([] : List (It α)) := ⟨by simp, fun j a b _ h => absurd h (Nat.not_lt_zero _), List.Pairwise.nil, by simp⟩
theorem HeapOf.take {n : Nat} {l s : List (It α)} (h : HeapOf lt n l s) : HeapOf lt n (l.take n) s := by
  have := h.len
  refine ⟨by simp; omega, fun j a b hj hjn hk ha hb => ?_, h.ord, by rw [List.take_take, Nat.min_self]; exact h.perm⟩
  rw [List.getElem?_take, if_pos (by omega)] at ha
  rw [List.getElem?_take, if_pos (by omega)] at hb
  exact h.heap j a b hj hjn hk ha hb
theorem HeapOf.root (H : Ord lt) {n : Nat} {l s : List (It α)} (h : HeapOf lt n l s) (h0 : 0 < n) : ∃ r t, l[0]? = some r ∧ s = r :: t := by
  have hlen := h.len
  obtain ⟨r, hr⟩ : ∃ r, l[0]? = some r := ⟨_, List.getElem?_eq_getElem (by omega)⟩
  have hsl := h.slen
  cases s with
  | nil => simp at hsl; omega
  | cons a t =>
    refine ⟨r, t, hr, ?_⟩
    have hrt : r ∈ l.take n := by
      refine List.mem_of_getElem? (i := 0) ?_
      rw [List.getElem?_take, if_pos h0]; exact hr
    have hrs := h.perm.subset hrt
    rcases List.mem_cons.1 hrs with rfl | hrs
    · rfl
    · have h1 := (List.pairwise_cons.1 h.ord).1 r hrs
      have ha : a ∈ l.take n := h.perm.symm.subset (by simp)
      obtain ⟨j, hj, e⟩ := List.getElem_of_mem ha
      have hj' : j < n := by simp at hj; omega
      have h2 := root_least H hlen h.heap hr j a hj' (by rw [← e, List.getElem_take]; exact List.getElem?_eq_getElem (by omega))
      unfold le at h2
      rw [h1] at h2; cases h2
theorem HeapOf.push (H : Ord lt) {n : Nat} {l s : List (It α)} (h : HeapOf lt n l s) {x : It α} (hx : ∀ a ∈ s, a.seq ≠ x.seq) : HeapOf lt (n + 1) (upF lt n (l.take n ++ [x] ++ l.drop (n + 1)) n) (ins lt x s) := by
  have hlen := h.len
  have hg : ∀ j, j < n → (l.take n ++ [x] ++ l.drop (n + 1))[j]? = l[j]? := fun j hj => by
    rw [List.append_assoc, List.getElem?_append_left (by simp; omega), List.getElem?_take, if_pos hj]
  have hl2 : n + 1 ≤ (l.take n ++ [x] ++ l.drop (n + 1)).length := by simp; omega
  refine ⟨by simpa using hl2, up_heap H (n + 1) n n _ (by omega) hl2 (Nat.le_refl _) (fun j a b hj hjn hne ha hb => ?_) (fun j a b h0 hj hjn hp => by omega), ins_ord H h.ord hx, ?_⟩
  · rw [hg _ (by omega)] at ha hb
    exact h.heap j a b hj (by omega) (Nat.zero_le _) ha hb
  · refine (take_perm (up_perm n n _) (up_drop n n _ (by omega))).trans ?_
    rw [List.take_append_of_le_length (by simp; omega), List.take_of_length_le (by simp; omega)]
    exact (List.perm_append_comm.trans ((List.perm_cons x).2 h.perm)).trans (ins_perm x s).symm
theorem HeapOf.pop (H : Ord lt) {n : Nat} {l s t : List (It α)} {r z : It α} (h : HeapOf lt n l (r :: t)) (hr : l[0]? = some r) (h0 : 0 < n) : HeapOf lt (n - 1) (popL lt z n l) t := by
  have hlen := h.len
  obtain ⟨q, hq⟩ : ∃ q, l[n - 1]? = some q := ⟨_, List.getElem?_eq_getElem (by omega)⟩
  have hg := get_swap hr hq
  have hdl : (delAt z n (swapL l 0 (n - 1)) (n - 1)).length = l.length := by rw [delAt_len (by omega) (by simpa using hlen), swapL_len]
  have hget : ∀ j, j < n - 1 → (delAt z n (swapL l 0 (n - 1)) (n - 1))[j]? = (swapL l 0 (n - 1))[j]? := fun j hj => by
    unfold delAt
    rw [List.getElem?_append_left (by simp; omega), List.getElem?_take, if_pos hj]
  have htake : (delAt z n (swapL l 0 (n - 1)) (n - 1)).take (n - 1) = (swapL l 0 (n - 1)).take (n - 1) := by
    unfold delAt
    rw [List.take_append_of_le_length (by simp; omega), List.take_take, Nat.min_self]
  refine ⟨by rw [popL_len lt h0 hlen]; omega, ?_, (List.pairwise_cons.1 h.ord).2, ?_⟩
  · refine down_heap H 0 (n - 1) (n - 1) 0 _ (by rw [hdl]; omega) (by omega) (Nat.le_refl _) (fun j a b hj hjn _ hne ha hb => ?_) (fun j a b h => by omega)
    rw [hget _ (by omega), hg] at ha
    rw [hget _ (by omega), hg] at hb
    rw [if_neg (by omega), if_neg hne] at ha
    rw [if_neg (by omega), if_neg (by omega)] at hb
    exact h.heap j a b hj (by omega) (Nat.zero_le _) ha hb
  · have hp : ((popL lt z n l).take (n - 1)).Perm ((swapL l 0 (n - 1)).take (n - 1)) := by
      rw [← htake]
      by_cases hn1 : n - 1 = 0
      · simp [hn1]
      · exact take_perm (down_perm _ _ _ _) (down_drop _ _ _ (by omega))
    refine hp.trans ?_
    have h1 : (swapL l 0 (n - 1)).take n = (swapL l 0 (n - 1)).take (n - 1) ++ [r] := by
      obtain ⟨m, rfl⟩ : ∃ m, n = m + 1 := ⟨n - 1, by omega⟩
      have : (swapL l 0 (m + 1 - 1))[m]? = some r := by rw [hg, if_pos (by omega)]
      simp only [Nat.add_sub_cancel] at this ⊢
      rw [List.take_add_one, this]; rfl
    have h2 : ((swapL l 0 (n - 1)).take n).Perm (r :: t) := (take_perm swap_perm (swap_drop (by omega) (by omega))).trans h.perm
    rw [h1] at h2
    exact (List.perm_cons r).1 (List.perm_append_comm.trans h2)
theorem sortF_of (H : Ord lt) {z : It α} : ∀ {n : Nat} {l s : List (It α)}, HeapOf lt n l s → sortF lt z n l = s.map (·.x)
  | 0, l, s, h => by
    have := h.slen
    have : s = [] := List.length_eq_zero_iff.1 this
    subst this; rfl
  | n + 1, l, s, h => by
    obtain ⟨r, t, hr, rfl⟩ := h.root H (by omega)
    simp only [sortF, hr, List.map_cons]
    exact congrArg _ (sortF_of (n := n) H (h.pop (s := []) H (z := z) hr (by omega)))
/-- Things put in one by one, in order. -/
def srt (lt : α → α → Bool) (l : List α) : Nat → List (It α)
  | 0 => []
  | k + 1 => match l[k]? with
    | some x => ins lt ⟨x, k⟩ (srt lt l k)
    | none => srt lt l k
theorem srt_seq (l : List α) : ∀ (k : Nat) (a : It α), a ∈ srt lt l k → a.seq < k
  | 0, a, h => by simp [srt] at h
  | k + 1, a, h => by
    simp only [srt] at h
    split at h
    · rcases List.mem_cons.1 ((ins_perm _ _).subset h) with rfl | h
      · show (k : Int) < ((k + 1 : Nat) : Int); omega
      · have := srt_seq l k a h; omega
    · have := srt_seq l k a h; omega
theorem ins_filter (H : Ord lt) (p : α → Bool) (hp : ∀ a b, p a = true → p b = true → lt a b = false) {x : It α} : ∀ {s : List (It α)}, InOrd lt s → (∀ a ∈ s, a.seq < x.seq) →
    (ins lt x s).filter (fun a => p a.x) = s.filter (fun a => p a.x) ++ [x].filter (fun a => p a.x)
  | [], _, _ => rfl
  | a :: s, h, hx => by
    have h' := List.pairwise_cons.1 h
    simp only [ins]
    split
    · rename_i hc
      cases hpx : p x.x
      · simp [List.filter_cons, hpx]
      · have hlt : lt x.x a.x = true := by
          have := hx a (by simp)
          unfold bef at hc
          split at hc
          · assumption
          · split at hc
            · cases hc
            · simp at hc; omega
        have none : ∀ b ∈ a :: s, p b.x = false := fun b hb => by
          cases hpb : p b.x
          · rfl
          · have h1 := hp _ _ hpx hpb
            have h2 : lt b.x a.x = false := by
              rcases List.mem_cons.1 hb with rfl | hb
              · exact H.irr _
              · have := h'.1 b hb
                unfold bef at this
                split at this
                · exact H.asymm ‹_›
                · split at this
                  · cases this
                  · rename_i hq; simpa using hq
            have := H.neg _ _ _ h1 h2
            rw [hlt] at this; cases this
        have e : (a :: s).filter (fun a => p a.x) = [] := List.filter_eq_nil_iff.2 fun b hb => by rw [none b hb]; simp
        rw [List.filter_cons, e]
        simp [hpx]
    · have ih := ins_filter H p hp h'.2 (fun b hb => hx b (by simp [hb]))
      cases hpa : p a.x
      · rw [List.filter_cons_of_neg (by simp [hpa]), List.filter_cons_of_neg (by simp [hpa]), ih]
      · rw [List.filter_cons_of_pos (by simp [hpa]), List.filter_cons_of_pos (by simp [hpa]), ih]; rfl
theorem srt_ord (H : Ord lt) (l : List α) : ∀ k, InOrd lt (srt lt l k)
  | 0 => List.Pairwise.nil
  | k + 1 => by
    simp only [srt]
    split
    · exact ins_ord H (srt_ord H l k) fun a ha => by have := srt_seq l k a ha; show a.seq ≠ (k : Int); omega
    · exact srt_ord H l k
theorem srt_filter (H : Ord lt) (p : α → Bool) (hp : ∀ a b, p a = true → p b = true → lt a b = false) (l : List α) : ∀ k, ((srt lt l k).filter (fun a => p a.x)).map (·.x) = (l.take k).filter p
  | 0 => rfl
  | k + 1 => by
    simp only [srt]
    rw [List.take_add_one]
    split
    · rename_i x hx
      rw [ins_filter H p hp (srt_ord H l k) (fun a ha => srt_seq l k a ha), List.map_append, srt_filter H p hp l k, List.filter_append, hx]
      cases hpx : p x <;> simp [hpx]
    · rename_i hx
      rw [srt_filter H p hp l k, hx]; simp
theorem srt_push (H : Ord lt) {l : List α} {k : Nat} {x : α} (hx : l[k]? = some x) {its : List (It α)} (h : HeapOf lt k its (srt lt l k)) : HeapOf lt (k + 1) (upF lt k (its.take k ++ [⟨x, k⟩] ++ its.drop (k + 1)) k) (srt lt l (k + 1)) := by
  simp only [srt, hx]
  exact h.push H fun a ha => by have := srt_seq l k a ha; show a.seq ≠ (k : Int); omega
theorem srt_le (H : Ord lt) {s : List (It α)} (h : InOrd lt s) {i j : Nat} {a b : It α} (hij : i < j) (ha : s[i]? = some a) (hb : s[j]? = some b) : lt b.x a.x = false := by
  obtain ⟨h1, rfl⟩ := List.getElem?_eq_some_iff.1 ha
  obtain ⟨h2, rfl⟩ := List.getElem?_eq_some_iff.1 hb
  have := List.pairwise_iff_getElem.1 h i j h1 h2 hij
  have := le_of_bef H this
  unfold le bef at this
  split at this
  · cases this
  · rename_i hq; simpa using hq
/-! ### Things alone, in order -/
def insX (lt : α → α → Bool) (x : α) : List α → List α
  | [] => [x]
  | a :: s => if lt x a = true then x :: a :: s else a :: insX lt x s
theorem ins_map (H : Ord lt) {x : It α} : ∀ {s : List (It α)}, (∀ a ∈ s, a.seq < x.seq) → (ins lt x s).map (·.x) = insX lt x.x (s.map (·.x))
  | [], _ => rfl
  | a :: s, h => by
    have hb : bef lt x a = lt x.x a.x := by
      have := h a (by simp)
      unfold bef
      cases h1 : lt x.x a.x
      · cases h2 : lt a.x x.x
        · simp; omega
        · simp
      · simp
    simp only [ins, insX, List.map_cons, hb]
    split
    · rfl
    · rw [List.map_cons, ins_map H fun b hb => h b (by simp [hb])]
/-- Weakly in order. -/
def Wk (lt : α → α → Bool) (s : List α) : Prop := s.Pairwise fun a b => lt b a = false
theorem InOrd.wk (H : Ord lt) {s : List (It α)} (h : InOrd lt s) : Wk lt (s.map (·.x)) := by
  unfold Wk
  rw [List.pairwise_map]
  refine h.imp fun {a b} hab => ?_
  have := le_of_bef H hab
  unfold le bef at this
  split at this
  · cases this
  · rename_i hq; simpa using hq
theorem insX_filter (H : Ord lt) (q : α → Bool) {x : α} : ∀ {s : List α}, Wk lt s → (insX lt x s).filter q = if q x = true then insX lt x (s.filter q) else s.filter q
  | [], _ => by cases hq : q x <;> simp [insX, hq]
  | a :: s, h => by
    have h' := List.pairwise_cons.1 h
    simp only [insX]
    split
    · rename_i hc
      cases hq : q x
      · simp [List.filter_cons, hq]
      · rw [List.filter_cons_of_pos hq, if_pos rfl]
        cases hf : (a :: s).filter q with
        | nil => rfl
        | cons b t =>
          have hb : b ∈ a :: s := by
            have : b ∈ (a :: s).filter q := by rw [hf]; simp
            exact (List.mem_filter.1 this).1
          have hxb : lt x b = true := by
            rcases List.mem_cons.1 hb with rfl | hb
            · exact hc
            · have h1 := h'.1 b hb
              cases hx : lt x b
              · have := H.neg x b a hx h1
                rw [hc] at this; cases this
              · rfl
          simp [insX, hxb]
    · rename_i hc
      have ih := insX_filter H q (x := x) h'.2
      cases hqa : q a
      · rw [List.filter_cons_of_neg (by simp [hqa]), List.filter_cons_of_neg (by simp [hqa]), ih]
      · rw [List.filter_cons_of_pos hqa, List.filter_cons_of_pos hqa, ih]
        split
        · simp only [insX, if_neg hc]
        · rfl

/-! ### Things taken out -/
/-- From a place down, things sink. -/
def heapF (lt : α → α → Bool) (m : Nat) : Nat → List (It α) → List (It α)
  | 0, l => l
  | k + 1, l => heapF lt m k (downF lt m (m - k) l k)
@[simp] theorem heapF_len (m : Nat) : ∀ (k : Nat) (l : List (It α)), (heapF lt m k l).length = l.length
  | 0, _ => rfl
  | k + 1, l => by simp only [heapF]; rw [heapF_len m k, downF_len]
theorem heapF_heap (H : Ord lt) (m : Nat) : ∀ (k : Nat) (l : List (It α)), m ≤ l.length → HeapFrom lt k m l → HeapFrom lt 0 m (heapF lt m k l)
  | 0, l, _, h => h
  | k + 1, l, hm, h => by
    simp only [heapF]
    refine heapF_heap H m k _ (by simpa using hm) (down_heap H k m (m - k) k l hm (Nat.le_refl _) (Nat.le_refl _) (fun j a b hj hjm hk hne ha hb => h j a b hj hjm (by omega) ha hb) (fun j a b h0 hk => by omega))
theorem heapF_perm (m : Nat) : ∀ (k : Nat) (l : List (It α)), (heapF lt m k l).Perm l
  | 0, l => List.Perm.refl l
  | k + 1, l => by simp only [heapF]; exact (heapF_perm m k _).trans (down_perm m _ _ _)
theorem heapF_drop (m : Nat) : ∀ (k : Nat) (l : List (It α)), (heapF lt m k l).drop m = l.drop m
  | 0, l => rfl
  | k + 1, l => by
    simp only [heapF]
    rw [heapF_drop m k, down_drop]
    omega
/-- What is left where some are taken out. -/
def cutF (z : It α) (p : α → Bool) (n : Nat) (l : List (It α)) : List (It α) :=
  (l.take n).filter (fun a => !p a.x) ++ (List.replicate (n - ((l.take n).filter (fun a => !p a.x)).length) z ++ l.drop n)
def leftN (p : α → Bool) (n : Nat) (l : List (It α)) : Nat := ((l.take n).filter (fun a => !p a.x)).length
theorem leftN_le (p : α → Bool) (n : Nat) (l : List (It α)) : leftN p n l ≤ n := by
  unfold leftN
  have := List.length_filter_le (fun a : It α => !p a.x) (l.take n)
  simp at this; omega
theorem cutF_len {z : It α} {p : α → Bool} {n : Nat} {l : List (It α)} (hn : n ≤ l.length) : (cutF z p n l).length = l.length := by
  have := leftN_le p n l
  unfold leftN at this
  simp [cutF]; omega
theorem HeapOf.cut (H : Ord lt) {n : Nat} {l s : List (It α)} (h : HeapOf lt n l s) {z : It α} (p : α → Bool) : HeapOf lt (leftN p n l) (heapF lt (leftN p n l) (leftN p n l / 2) (cutF z p n l)) (s.filter (fun a => !p a.x)) := by
  have hlen := h.len
  have hle := leftN_le p n l
  have hc := cutF_len (z := z) (p := p) hlen
  refine ⟨by simp [hc]; omega, heapF_heap H _ _ _ (by omega) (fun j a b hj hjm hk => by omega), ?_, ?_⟩
  · exact List.Pairwise.filter _ h.ord
  · refine (take_perm (heapF_perm _ _ _) (heapF_drop _ _ _)).trans ?_
    have : (cutF z p n l).take (leftN p n l) = (l.take n).filter (fun a => !p a.x) := by
      unfold cutF leftN
      rw [List.take_append_of_le_length (Nat.le_refl _), List.take_of_length_le (Nat.le_refl _)]
    rw [this]
    exact h.perm.filter _
theorem HeapOf.leftN {n : Nat} {l s : List (It α)} (h : HeapOf lt n l s) (p : α → Bool) : Heap.leftN p n l = (s.filter (fun a => !p a.x)).length := (h.perm.filter _).length_eq
theorem insX_at {x : α} : ∀ {s : List α} {i : Nat}, i ≤ s.length → (∀ (j : Nat) a, j < i → s[j]? = some a → lt x a = false) → (i = s.length ∨ ∃ a, s[i]? = some a ∧ lt x a = true) → insX lt x s = s.take i ++ [x] ++ s.drop i
  | [], i, hi, _, _ => by simp at hi; subst hi; rfl
  | a :: s, 0, _, _, h => by
    rcases h with h | ⟨b, hb, hlt⟩
    · simp at h
    · simp at hb; subst hb
      simp [insX, hlt]
  | a :: s, i + 1, hi, h1, h2 => by
    have ha := h1 0 a (by omega) rfl
    simp only [insX, ha, Bool.false_eq_true, if_false, List.take_succ_cons, List.drop_succ_cons, List.cons_append]
    rw [insX_at (by simpa using hi) (fun j b hj hb => h1 (j + 1) b (by omega) (by simpa using hb)) (h2.imp (by simp) fun ⟨b, hb, hlt⟩ => ⟨b, by simpa using hb, hlt⟩)]
end Go.Am.Heap
