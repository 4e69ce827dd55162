/- Part of the proof: what functions of the program compute, walked. No conditions. -/
import Derived.Test.YtejbmdnhchoilaaGreatP05
set_option linter.unusedVariables false
set_option linter.unusedSimpArgs false
set_option maxRecDepth 100000
section
open Go Go.Am Go.Proofs
namespace Go.Am.Pt
def insAt {α : Type} (i : Nat) (x : α) (l : List α) : List α := l.take i ++ x :: l.drop i
theorem cp_raw {sz id o n t : Nat} {c : Option Nat} {y : AV} {H : AHeap} {rs src : List AV} {k : AV → AHeap → Prop} (hv : view sz H y = some src) (hl : ∀ r ∈ src, r.cells.length = sz) (hH : H[id]? = some (some (.rows t sz rs))) (hn : o + n ≤ rs.length)
    (hk : forceS (H.set id (some (.rows t sz (rs.take o ++ src.take n ++ rs.drop (o + min src.length n))))) fun H' => k (.int .i64 (min src.length n : Nat)) H') : OptP (aCopy sz (.slc id o n c) y H) k := by
  rw [forceS_eq] at hk
  unfold aCopy
  rw [hv]
  simp only [Option.bind_some, if_pos hl, hH, hn, and_self, if_true, OptP]
  exact hk
section
variable {es id i n c : Nat} {H : AHeap} {kk : IntKind} {rs : List AV}
theorem sl_hiC {b : Int} (hr : rowsOf es H id = some rs) (h0 : 0 ≤ b) (h1 : b ≤ c) (hi : i ≤ rs.length) : aSlice es H (.slc id i n (some c)) none (some (.int kk b)) none = some (.slc id i b.toNat (some c)) := by
  have : b.toNat ≤ c := by omega
  simp [aSlice, aBounds, AV.natOf, hr, h0, this, hi]
theorem sl_loC {a : Int} (hr : rowsOf es H id = some rs) (h0 : 0 ≤ a) (h1 : a ≤ n) (hc : n ≤ c) (hi : i ≤ rs.length) : aSlice es H (.slc id i n (some c)) (some (.int kk a)) none none = some (.slc id (i + a.toNat) (n - a.toNat) (some (c - a.toNat))) := by
  have : a.toNat ≤ n := by omega
  simp [aSlice, aBounds, AV.natOf, hr, h0, this, hi, hc]
end
theorem view_v {α : Type} {f : α → AV} {es id o n t : Nat} {H : AHeap} {c : Option Nat} {l new : List α} (hH : H[id]? = some (some (.rows t es (l.map f)))) (hn : o + n ≤ l.length) (hnew : new = (l.drop o).take n) : view es H (.slc id o n c) = some (new.map f) := by
  have := view_o (c := c) hH hn hnew
  simpa only [srcOf, Bool.false_eq_true, if_false] using this
theorem view_r {es id o n t : Nat} {H : AHeap} {c : Option Nat} {rs : List AV} (hH : H[id]? = some (some (.rows t es rs))) (hn : o + n ≤ rs.length) : view es H (.slc id o n c) = some ((rs.drop o).take n) := by
  simp [view, rowsOf, hH, hn]
theorem fin_of_stop {H0 Hb H' : AHeap} {r r' : AV} (h : Stop (Fin H0 r Hb r' H')) : Fin H0 r Hb r' H' := h.1
def rotL {α : Type} (o m q : Nat) (l : List α) : List α := rev o m (rev (o + q) (m - q) (rev o q l))
theorem rotateLeftM_ok (l : List Mc) (J : List AV) (o m q c : Nat) (hq : q ≤ m) (hc : m ≤ c) (h : o + m ≤ l.length) (hl : (l.length : Int) ≤ 1000000) (hJ : ∀ r ∈ J, Bel 0 r) : AC PR 160 [.slc 0 o m (some c), i64 q] [some (.rows 57 7 (l.map mcA ++ J))] (.tuple []) [some (.rows 57 7 ((rotL o m q l).map mcA ++ J))] := by
  have hb : ∀ r : List Mc, ∀ x ∈ r.map mcA ++ J, Bel 0 x := fun r x hx => by
    rcases List.mem_append.1 hx with hx | hx
    · obtain ⟨a, _, rfl⟩ := List.mem_map.1 hx; simp
    · exact hJ x hx
  have l1 : (rev o q l).length = l.length := rev_len o q l (by omega)
  have l2 : (rev (o + q) (m - q) (rev o q l)).length = l.length := by rw [rev_len _ _ _ (by omega), l1]
  apply A160
  conv => whnf
  refine k_eq (sl_hiC rfl (by omega) (by omega) (by simp; omega)) ?_
  conv => whnf
  refine call_fr (R := .tuple []) [0] [] [some (.rows 57 7 ((rev o q l).map mcA ++ J))] (reverseM_ok l J o q (some c) (by omega) hl hJ) ?_ (hN := ⟨⟨_, rfl, Go'.same _ _ _ (hb _)⟩, trivial⟩) (hO := ⟨.closed _ _ _ (hb _) rfl, trivial⟩)
  conv => whnf
  refine k_eq (sl_loC rfl (by omega) (by omega) hc (by simp; omega)) ?_
  conv => whnf
  refine call_fr (R := .tuple []) [0] [] [some (.rows 57 7 ((rev (o + q) (m - q) (rev o q l)).map mcA ++ J))] (reverseM_ok (rev o q l) J (o + q) (m - q) (some (c - q)) (by omega) (by omega) hJ) ?_ (hN := ⟨⟨_, rfl, Go'.same _ _ _ (hb _)⟩, trivial⟩) (hO := ⟨.closed _ _ _ (hb _) rfl, trivial⟩)
  conv => whnf
  refine call_fr (R := .tuple []) [0] [] [some (.rows 57 7 ((rotL o m q l).map mcA ++ J))] (reverseM_ok (rev (o + q) (m - q) (rev o q l)) J o m (some c) (by omega) (by omega) hJ) ?_ (hN := ⟨⟨_, rfl, Go'.same _ _ _ (hb _)⟩, trivial⟩) (hO := ⟨.closed _ _ _ (hb _) rfl, trivial⟩)
  conv => whnf
  exact at_end [some 0] (hN := ⟨⟨_, rfl, Go'.same _ _ _ fun r hr => (hb _ r hr).mono (Nat.zero_le _)⟩, trivial⟩)
theorem rotateRightM_ok (l : List Mc) (J : List AV) (o m c : Nat) (hm : 1 ≤ m) (hc : m ≤ c) (h : o + m ≤ l.length) (hl : (l.length : Int) ≤ 1000000) (hJ : ∀ r ∈ J, Bel 0 r) : AC PR 129 [.slc 0 o m (some c), i64 1] [some (.rows 57 7 (l.map mcA ++ J))] (.tuple []) [some (.rows 57 7 ((rotL o m (m - 1) l).map mcA ++ J))] := by
  have hb : ∀ r : List Mc, ∀ x ∈ r.map mcA ++ J, Bel 0 x := fun r x hx => by
    rcases List.mem_append.1 hx with hx | hx
    · obtain ⟨a, _, rfl⟩ := List.mem_map.1 hx; simp
    · exact hJ x hx
  apply A129
  conv => whnf
  refine w_as ((m - 1 : Nat) : Int) (by omega) (by omega) ?_
  conv => whnf
  refine call_fr (R := .tuple []) [0] [] [some (.rows 57 7 ((rotL o m (m - 1) l).map mcA ++ J))] (rotateLeftM_ok l J o m (m - 1) c (by omega) hc h hl hJ) ?_ (hN := ⟨⟨_, rfl, Go'.same _ _ _ (hb _)⟩, trivial⟩) (hO := ⟨.closed _ _ _ (hb _) rfl, trivial⟩)
  conv => whnf
  exact at_end [some 0] (hN := ⟨⟨_, rfl, Go'.same _ _ _ fun r hr => (hb _ r hr).mono (Nat.zero_le _)⟩, trivial⟩)
theorem rotateLeftQ_ok (l : List Qu) (J : List AV) (o m q c : Nat) (hq : q ≤ m) (hc : m ≤ c) (h : o + m ≤ l.length) (hl : (l.length : Int) ≤ 1000000) (hJ : ∀ r ∈ J, Bel 0 r) : AC PR 161 [.slc 0 o m (some c), i64 q] [some (.rows 45 4 (l.map quR ++ J))] (.tuple []) [some (.rows 45 4 ((rotL o m q l).map quR ++ J))] := by
  have hb : ∀ r : List Qu, ∀ x ∈ r.map quR ++ J, Bel 0 x := fun r x hx => by
    rcases List.mem_append.1 hx with hx | hx
    · obtain ⟨a, _, rfl⟩ := List.mem_map.1 hx; simp
    · exact hJ x hx
  have l1 : (rev o q l).length = l.length := rev_len o q l (by omega)
  have l2 : (rev (o + q) (m - q) (rev o q l)).length = l.length := by rw [rev_len _ _ _ (by omega), l1]
  apply A161
  conv => whnf
  refine k_eq (sl_hiC rfl (by omega) (by omega) (by simp; omega)) ?_
  conv => whnf
  refine call_fr (R := .tuple []) [0] [] [some (.rows 45 4 ((rev o q l).map quR ++ J))] (reverseQ_ok l J o q (some c) (by omega) hl hJ) ?_ (hN := ⟨⟨_, rfl, Go'.same _ _ _ (hb _)⟩, trivial⟩) (hO := ⟨.closed _ _ _ (hb _) rfl, trivial⟩)
  conv => whnf
  refine k_eq (sl_loC rfl (by omega) (by omega) hc (by simp; omega)) ?_
  conv => whnf
  refine call_fr (R := .tuple []) [0] [] [some (.rows 45 4 ((rev (o + q) (m - q) (rev o q l)).map quR ++ J))] (reverseQ_ok (rev o q l) J (o + q) (m - q) (some (c - q)) (by omega) (by omega) hJ) ?_ (hN := ⟨⟨_, rfl, Go'.same _ _ _ (hb _)⟩, trivial⟩) (hO := ⟨.closed _ _ _ (hb _) rfl, trivial⟩)
  conv => whnf
  refine call_fr (R := .tuple []) [0] [] [some (.rows 45 4 ((rotL o m q l).map quR ++ J))] (reverseQ_ok (rev (o + q) (m - q) (rev o q l)) J o m (some c) (by omega) (by omega) hJ) ?_ (hN := ⟨⟨_, rfl, Go'.same _ _ _ (hb _)⟩, trivial⟩) (hO := ⟨.closed _ _ _ (hb _) rfl, trivial⟩)
  conv => whnf
  exact at_end [some 0] (hN := ⟨⟨_, rfl, Go'.same _ _ _ fun r hr => (hb _ r hr).mono (Nat.zero_le _)⟩, trivial⟩)
theorem rotateRightQ_ok (l : List Qu) (J : List AV) (o m c : Nat) (hm : 1 ≤ m) (hc : m ≤ c) (h : o + m ≤ l.length) (hl : (l.length : Int) ≤ 1000000) (hJ : ∀ r ∈ J, Bel 0 r) : AC PR 133 [.slc 0 o m (some c), i64 1] [some (.rows 45 4 (l.map quR ++ J))] (.tuple []) [some (.rows 45 4 ((rotL o m (m - 1) l).map quR ++ J))] := by
  have hb : ∀ r : List Qu, ∀ x ∈ r.map quR ++ J, Bel 0 x := fun r x hx => by
    rcases List.mem_append.1 hx with hx | hx
    · obtain ⟨a, _, rfl⟩ := List.mem_map.1 hx; simp
    · exact hJ x hx
  apply A133
  conv => whnf
  refine w_as ((m - 1 : Nat) : Int) (by omega) (by omega) ?_
  conv => whnf
  refine call_fr (R := .tuple []) [0] [] [some (.rows 45 4 ((rotL o m (m - 1) l).map quR ++ J))] (rotateLeftQ_ok l J o m (m - 1) c (by omega) hc h hl hJ) ?_ (hN := ⟨⟨_, rfl, Go'.same _ _ _ (hb _)⟩, trivial⟩) (hO := ⟨.closed _ _ _ (hb _) rfl, trivial⟩)
  conv => whnf
  exact at_end [some 0] (hN := ⟨⟨_, rfl, Go'.same _ _ _ fun r hr => (hb _ r hr).mono (Nat.zero_le _)⟩, trivial⟩)
theorem rot_ins {α : Type} (i : Nat) (x : α) (l : List α) (h : i ≤ l.length) : rotL i (l.length + 1 - i) (l.length + 1 - i - 1) (l ++ [x]) = insAt i x l := by
  have hd : (l.drop i).length = l.length - i := List.length_drop ..
  have ht : (l.take i).length = i := by simp; omega
  have e1 : rev i (l.length + 1 - i - 1) (l ++ [x]) = l.take i ++ (l.drop i).reverse ++ [x] := by
    unfold rev
    rw [List.take_append_of_le_length h, List.drop_append_of_le_length h, List.take_append_of_le_length (l₁ := l.drop i) (by omega), show (l.drop i).take (l.length + 1 - i - 1) = l.drop i from List.take_of_length_le (by omega)]
    rw [show i + (l.length + 1 - i - 1) = l.length by omega, List.drop_left]
  have hlen : (l.take i ++ (l.drop i).reverse).length = l.length := by simp; omega
  have e2 : rev (i + (l.length + 1 - i - 1)) (l.length + 1 - i - (l.length + 1 - i - 1)) (l.take i ++ (l.drop i).reverse ++ [x]) = l.take i ++ (l.drop i).reverse ++ [x] := by
    rw [show i + (l.length + 1 - i - 1) = l.length by omega, show l.length + 1 - i - (l.length + 1 - i - 1) = 1 by omega]
    unfold rev
    have b1 : (l.take i ++ (l.drop i).reverse ++ [x]).take l.length = l.take i ++ (l.drop i).reverse := by rw [← hlen, List.take_left]
    have b2 : (l.take i ++ (l.drop i).reverse ++ [x]).drop l.length = [x] := by conv => lhs; arg 1; rw [← hlen]
                                                                                exact List.drop_left ..
    have b3 : (l.take i ++ (l.drop i).reverse ++ [x]).drop (l.length + 1) = [] := List.drop_eq_nil_of_le (by rw [List.length_append, hlen]; simp)
    rw [b1, b2, b3]
    simp
  have e3 : rev i (l.length + 1 - i) (l.take i ++ (l.drop i).reverse ++ [x]) = insAt i x l := by
    unfold rev insAt
    have : (l.take i ++ (l.drop i).reverse ++ [x]) = l.take i ++ ((l.drop i).reverse ++ [x]) := by simp
    rw [this]
    have a1 : (l.take i ++ ((l.drop i).reverse ++ [x])).take i = l.take i := by
      rw [List.take_append_of_le_length (by omega), List.take_of_length_le (by omega)]
    have a2 : (l.take i ++ ((l.drop i).reverse ++ [x])).drop i = (l.drop i).reverse ++ [x] := by
      conv => lhs; arg 1; rw [← ht]
      exact List.drop_left ..
    have a3 : (l.take i ++ ((l.drop i).reverse ++ [x])).drop (i + (l.length + 1 - i)) = [] := List.drop_eq_nil_of_le (by simp; omega)
    rw [a1, a2, a3, show ((l.drop i).reverse ++ [x]).take (l.length + 1 - i) = (l.drop i).reverse ++ [x] from List.take_of_length_le (by rw [List.length_append, List.length_reverse, hd]; simp; omega)]
    simp
  unfold rotL
  rw [e1, e2, e3]
end Go.Am.Pt
end
