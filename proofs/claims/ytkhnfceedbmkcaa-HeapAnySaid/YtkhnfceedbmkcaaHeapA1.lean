/- The law of a heap of texts, walked. No conditions. -/
import Derived.Test.YtkhnfceedbmkcaaHeapK
import Derived.Test.YtkhnfceedbmkcaaHeapSQ
set_option linter.unusedVariables false
set_option linter.unusedSimpArgs false
set_option maxRecDepth 100000
open Go Go.Am Go.Proofs Go.Am.Heap
namespace Go.Am.HeapS
theorem bl_irr : ∀ x : List UInt8, Op.bytesLess x x = false
  | [] => rfl
  | a :: x => by simp [Op.bytesLess, bl_irr x]
theorem bl_tr : ∀ x y z : List UInt8, Op.bytesLess x y = true → Op.bytesLess y z = true → Op.bytesLess x z = true
  | x, [], _, h, _ => by cases x <;> simp [Op.bytesLess] at h
  | _, _ :: _, [], _, h => by simp [Op.bytesLess] at h
  | [], _ :: _, _ :: _, _, _ => rfl
  | a :: x, b :: y, c :: z, h1, h2 => by
    simp only [Op.bytesLess, Bool.or_eq_true, Bool.and_eq_true, decide_eq_true_eq, beq_iff_eq] at *
    rcases h1 with h1 | ⟨rfl, h1⟩ <;> rcases h2 with h2 | ⟨rfl, h2⟩
    · exact .inl (UInt8.lt_trans h1 h2)
    · exact .inl h1
    · exact .inl h2
    · exact .inr ⟨rfl, bl_tr x y z h1 h2⟩
theorem bl_neg : ∀ x y z : List UInt8, Op.bytesLess x y = false → Op.bytesLess y z = false → Op.bytesLess x z = false
  | x, _, [], _, _ => by cases x <;> rfl
  | _, [], _ :: _, _, h => by simp [Op.bytesLess] at h
  | [], _ :: _, _ :: _, h, _ => by simp [Op.bytesLess] at h
  | a :: x, b :: y, c :: z, h1, h2 => by
    simp only [Op.bytesLess, Bool.or_eq_false_iff, Bool.and_eq_false_iff, decide_eq_false_iff_not, beq_eq_false_iff_ne, UInt8.lt_iff_toNat_lt, ne_eq, ← UInt8.toNat_inj] at *
    obtain ⟨h1, h3⟩ := h1
    obtain ⟨h2, h4⟩ := h2
    refine ⟨by omega, ?_⟩
    rcases h3 with h3 | h3
    · exact .inl (by omega)
    · rcases h4 with h4 | h4
      · exact .inl (by omega)
      · exact .inr (bl_neg x y z h3 h4)
theorem ordS : Ord ltX := ⟨fun a => bl_irr _, fun a b c => bl_tr _ _ _, fun a b c => bl_neg _ _ _⟩
theorem ordN : Ord (fun _ _ : X => false) := ⟨fun _ => rfl, fun _ _ _ h => (by cases h), fun _ _ _ _ _ => rfl⟩
theorem srtN (l : List X) (k : Nat) : (srt (fun _ _ : X => false) l k).map (·.x) = l.take k := by
  have := srt_filter ordN (fun _ => true) (fun _ _ _ _ => rfl) l k
  rwa [List.filter_eq_self.2 (fun _ _ => rfl), List.filter_eq_self.2 (fun _ _ => rfl)] at this
abbrev LF : AV := .fn (.func 17) [] []
abbrev NF : AV := .nilfn
abbrev F0 : X → X → Bool := fun _ _ => false
theorem lessW : Less LF ltX := ⟨by simp, .inr ⟨rfl, rfl⟩⟩
theorem lessN : Less NF F0 := ⟨by simp, .inl ⟨rfl, rfl⟩⟩
abbrev ML (l : List X) : AV := .lst 1 (l.map av) none
theorem any_long (l : List X) (h : 300 < l.length) (hb : (l.length : Int) ≤ 9223372036854775807) : AC PR 4 [ML l] [] (.bool true) [] := by
  apply A4
  conv => whnf
  refine call_closed HeapP.awake_ok ?_
  conv => whnf
  generalize hq : decide (((300 : Int)) < ((l.map av).length : Int)) = q
  cases q
  · have := of_decide_eq_false hq; simp at this; omega
  conv => whnf
  refine call_closed HeapP.awake_ok ?_
  conv => whnf
  exact at_end []
abbrev HMA (j : Nat) (less : AV) (n : Nat) (its : List (It X)) (seq : Int) : AHeap := [some (hpO less (.slc j 0 n none) seq), none, some (.rows 68 2 (its.map irow))]
abbrev H3 (n : Nat) (a b c : List (It X)) (s : Int) : AHeap := [some (hpO LF (.slc 1 0 n none) s), some (.rows 68 2 (a.map irow)), some (hpO NF (.slc 3 0 n none) s), some (.rows 68 2 (b.map irow)), some (hpO NF (.slc 5 0 n none) s), some (.rows 68 2 (c.map irow))]
theorem any_walk (l : List X) (h : l.length ≤ 300) : AC PR 4 [ML l] [] (.bool true) [] := by
  apply A4
  conv => whnf
  refine call_closed HeapP.awake_ok ?_
  conv => whnf
  generalize hq : decide (((300 : Int)) < ((l.map av).length : Int)) = q
  cases q
  case true => have := of_decide_eq_true hq; simp at this; omega
  conv => whnf
  refine call_fr [] [] (HL LF 0 [] 0) (new_ok lessW) ?_
  conv => whnf
  refine call_fr [] [] (HA 3 NF 0 [] 0) (new_ok lessN) ?_
  conv => whnf
  refine loop_to l.length (fun k e H => ∃ a b c, e = [(0, ML l), (3, .ptr 0 0 0), (4, .ptr 2 0 0), (5, .ptr 4 0 0), (32, .int .i64 l.length), (33, .int .i64 k)] ∧ H = H3 k a b c k ∧ HeapOf ltX k a (srt ltX l k) ∧ HeapOf F0 k b (srt F0 l k) ∧ HeapOf F0 k c (srt F0 l k)) ?_ ?_
  · rintro k e H hk ⟨a, b, c, rfl, rfl, ha, hb, hc⟩
    conv => whnf
    generalize hq : decide ((k : Int) < (l.length : Int)) = q
    cases q
    · have hk' : k = l.length := by have := of_decide_eq_false hq; omega
      subst hk'
      have hla := ha.len
      have hlb := hb.len
      have hlc := hc.len
      have hsl := ha.slen
      conv => whnf
      refine call_fr [0, 1] [] (HL LF l.length a l.length ++ [some (.rows 9 1 ((sortF ltX zIt l.length (a.take l.length)).map av))]) (sorted_ok lessW l.length a l.length hla (by omega)) ?_
      conv => whnf
      refine call_fr [2, 3] [] (HA 3 NF l.length b l.length ++ [some (.rows 9 1 ((sortF F0 zIt l.length (b.take l.length)).map av))]) (sorted_ok lessN l.length b l.length hlb (by omega)) ?_
      conv => whnf
      refine call_fr [4, 5] [] (HA 5 NF l.length c l.length ++ [some (.rows 9 1 ((sortF F0 zIt l.length (c.take l.length)).map av))]) (sorted_ok lessN l.length c l.length hlc (by omega)) ?_
      have e1 := sortF_of ordS (z := zIt) ha.take
      have e2 := sortF_of ordN (z := zIt) hb.take
      have e3 := sortF_of ordN (z := zIt) hc.take
      rw [srtN, List.take_of_length_le (Nat.le_refl _)] at e2 e3
      rw [e1, e2, e3]
      have hord := srt_ord ordS l l.length
      have hle : ∀ (k : Nat) (x y : X), ((srt ltX l l.length).map (·.x))[k + 1]? = some x → ((srt ltX l l.length).map (·.x))[k]? = some y → strLt x y = false := fun k x y hx hy => by
        rw [List.getElem?_map, Option.map_eq_some_iff] at hx hy
        obtain ⟨a, ha, rfl⟩ := hx
        obtain ⟨b, hb, rfl⟩ := hy
        exact srt_le (lt := ltX) ordS hord (i := k) (j := k + 1) (by omega) hb ha
      generalize hT : (srt ltX l l.length).map (·.x) = T at *
      have hTl : T.length = l.length := by rw [← hT]; simp; omega
      conv => whnf
      generalize hq2 : (!decide ((T.length : Int) = ((l.map av).length : Int))) = q2
      cases q2
      case true => simp [hTl] at hq2
      conv => whnf
      generalize hq3 : (!decide ((l.length : Int) = ((l.map av).length : Int))) = q3
      cases q3
      case true => simp at hq3
      conv => whnf
      generalize hq5 : (!decide ((l.length : Int) = ((l.map av).length : Int))) = q5
      cases q5
      case true => simp at hq5
      conv => whnf
      refine loop_to l.length (fun k e H => ∃ b, e = [(0, ML l), (4, .ptr 0 0 0), (7, .slc 2 0 l.length none), (8, .slc 3 0 l.length none), (9, .slc 4 0 l.length none), (81, .int .i64 l.length), (82, .int .i64 k)] ∧
        H = HL NF (l.length - k) b l.length ++ [some (.rows 9 1 (T.map av)), some (.rows 9 1 (l.map av)), some (.rows 9 1 (l.map av))] ∧ HeapOf F0 (l.length - k) b ((srt F0 l l.length).drop k)) ?_ ?_
      · rintro k e H hk ⟨b, rfl, rfl, hh⟩
        conv => whnf
        generalize hq : decide ((k : Int) < (l.length : Int)) = q
        cases q
        · conv => whnf
          exact at_end []
        · have hk' : k < l.length := by have := of_decide_eq_true hq; omega
          obtain ⟨x, hx⟩ : ∃ x, l[k]? = some x := ⟨_, List.getElem?_eq_getElem hk'⟩
          obtain ⟨y, hy⟩ : ∃ y, T[k]? = some y := ⟨_, List.getElem?_eq_getElem (by omega)⟩
          have hlen := hh.len
          obtain ⟨r, t, hr, hst⟩ := hh.root ordN (by omega)
          rw [hst] at hh
          have hp := hh.pop (s := []) ordN (z := zIt) hr (by omega)
          have hrk : (srt F0 l l.length)[k]? = some r := by
            have := congrArg (·[0]?) hst
            simpa using this
          have hrx : r.x = x := by
            have h1 : ((srt F0 l l.length).map (·.x))[k]? = some r.x := by rw [List.getElem?_map, hrk]; rfl
            rw [srtN, List.take_of_length_le (Nat.le_refl _), hx] at h1
            exact (Option.some.inj h1).symm
          have hdk : (srt F0 l l.length).drop (k + 1) = t := by
            have := congrArg (·.drop 1) hst
            simpa [List.drop_drop, Nat.add_comm] using this
          rw [← hdk] at hp
          conv => whnf
          refine k_idx ?_ _ rfl (by omega) (by omega)
          conv => whnf
          refine k_cell (get_map (i := (k : Int)) hx) ?_
          conv => whnf
          refine k_el (get_map (i := (k : Int)) hx) (by omega) ?_
          conv => whnf
          generalize hq4 : (!decide (x = x)) = q4
          cases q4
          case true => simp at hq4
          conv => whnf
          refine k_idx ?_ _ rfl (by omega) (by omega)
          conv => whnf
          refine k_cell (get_map (i := (k : Int)) hx) ?_
          conv => whnf
          refine k_el (get_map (i := (k : Int)) hx) (by omega) ?_
          conv => whnf
          generalize hq6 : (!decide (x = x)) = q6
          cases q6
          case true => simp at hq6
          conv => whnf
          generalize hq0 : decide ((0 : Int) < (k : Int)) = q0
          cases q0
          · conv => whnf
            refine call_fr [0, 1] [] (HL NF (l.length - k - 1) (popL F0 zIt (l.length - k) b) l.length) (pop_ok lessN (l.length - k) b l.length r hr (by omega) hlen (by omega)) ?_
            rw [hrx]
            conv => whnf
            refine k_el (get_map (i := (k : Int)) hx) (by omega) ?_
            conv => whnf
            generalize hq7 : (!decide (x = x)) = q7
            cases q7
            case true => simp at hq7
            conv => whnf
            refine w_as ((k + 1 : Nat) : Int) (by omega) (by omega) ?_
            conv => whnf
            exact at_head [some 0, some 1, some 2, some 3, some 4] (HL NF (l.length - (k + 1)) (popL F0 zIt (l.length - k) b) l.length ++ [some (.rows 9 1 (T.map av)), some (.rows 9 1 (l.map av)), some (.rows 9 1 (l.map av))]) [(0, ML l), (4, .ptr 0 0 0), (7, .slc 2 0 l.length none), (8, .slc 3 0 l.length none), (9, .slc 4 0 l.length none), (81, .int .i64 l.length), (82, .int .i64 ((k + 1 : Nat) : Int))] ⟨hk', popL F0 zIt (l.length - k) b, rfl, rfl, hp⟩
          · have h0 : 0 < k := by have := of_decide_eq_true hq0; omega
            obtain ⟨y2, hy2⟩ : ∃ y, T[k - 1]? = some y := ⟨_, List.getElem?_eq_getElem (by omega)⟩
            have hlt : strLt y y2 = false := hle (k - 1) y y2 (by rw [show k - 1 + 1 = k by omega]; exact hy) hy2
            conv => whnf
            refine k_idx ?_ _ rfl (by omega) (by omega)
            conv => whnf
            refine k_cell (get_map (i := (k : Int)) hy) ?_
            conv => whnf
            refine w_as ((k - 1 : Nat) : Int) (by omega) (by omega) ?_
            conv => whnf
            refine k_idx ?_ _ rfl (by omega) (by omega)
            conv => whnf
            refine k_cell (get_map (i := ((k - 1 : Nat) : Int)) hy2) ?_
            conv => whnf
            rw [hlt]
            conv => whnf
            refine call_fr [0, 1] [] (HL NF (l.length - k - 1) (popL F0 zIt (l.length - k) b) l.length) (pop_ok lessN (l.length - k) b l.length r hr (by omega) hlen (by omega)) ?_
            rw [hrx]
            conv => whnf
            refine k_el (get_map (i := (k : Int)) hx) (by omega) ?_
            conv => whnf
            generalize hq7 : (!decide (x = x)) = q7
            cases q7
            case true => simp at hq7
            conv => whnf
            refine w_as ((k + 1 : Nat) : Int) (by omega) (by omega) ?_
            conv => whnf
            exact at_head [some 0, some 1, some 2, some 3, some 4] (HL NF (l.length - (k + 1)) (popL F0 zIt (l.length - k) b) l.length ++ [some (.rows 9 1 (T.map av)), some (.rows 9 1 (l.map av)), some (.rows 9 1 (l.map av))]) [(0, ML l), (4, .ptr 0 0 0), (7, .slc 2 0 l.length none), (8, .slc 3 0 l.length none), (9, .slc 4 0 l.length none), (81, .int .i64 l.length), (82, .int .i64 ((k + 1 : Nat) : Int))] ⟨hk', popL F0 zIt (l.length - k) b, rfl, rfl, hp⟩
      · conv => whnf
        exact at_head [some 2, some 3, some 6, some 7, some 8] (HL NF (l.length - 0) b l.length ++ [some (.rows 9 1 (T.map av)), some (.rows 9 1 (l.map av)), some (.rows 9 1 (l.map av))]) [(0, ML l), (4, .ptr 0 0 0), (7, .slc 2 0 l.length none), (8, .slc 3 0 l.length none), (9, .slc 4 0 l.length none), (81, .int .i64 l.length), (82, .int .i64 ((0 : Nat) : Int))] ⟨b, rfl, rfl, hb⟩
    · have hk' : k < l.length := by have := of_decide_eq_true hq; omega
      obtain ⟨x, hx⟩ : ∃ x, l[k]? = some x := ⟨_, List.getElem?_eq_getElem hk'⟩
      have hla := ha.len
      have hlb := hb.len
      have hlc := hc.len
      conv => whnf
      refine k_el (get_map (i := (k : Int)) hx) (by omega) ?_
      conv => whnf
      refine call_fr [0, 1] [] (HMA 6 LF (k + 1) (upF ltX k (putAt k a ⟨x, k⟩) k) (k + 1)) (push_ok lessW k a k x hla (by omega) (by omega)) ?_
      conv => whnf
      refine k_el (get_map (i := (k : Int)) hx) (by omega) ?_
      conv => whnf
      refine call_fr [2, 3] [] (HMA 7 NF (k + 1) (upF F0 k (putAt k b ⟨x, k⟩) k) (k + 1)) (push_ok lessN k b k x hlb (by omega) (by omega)) ?_
      conv => whnf
      refine k_el (get_map (i := (k : Int)) hx) (by omega) ?_
      conv => whnf
      refine call_fr [4, 5] [] (HMA 8 NF (k + 1) (upF F0 k (putAt k c ⟨x, k⟩) k) (k + 1)) (push_ok lessN k c k x hlc (by omega) (by omega)) ?_
      conv => whnf
      refine w_as ((k + 1 : Nat) : Int) (by omega) (by omega) ?_
      conv => whnf
      refine at_head [some 0, some 6, some 2, some 7, some 4, some 8] (H3 (k + 1) (upF ltX k (putAt k a ⟨x, k⟩) k) (upF F0 k (putAt k b ⟨x, k⟩) k) (upF F0 k (putAt k c ⟨x, k⟩) k) ((k + 1 : Nat) : Int))
        [(0, ML l), (3, .ptr 0 0 0), (4, .ptr 2 0 0), (5, .ptr 4 0 0), (32, .int .i64 l.length), (33, .int .i64 ((k + 1 : Nat) : Int))] ⟨hk', _, _, _, rfl, rfl, srt_push ordS hx ha, srt_push ordN hx hb, srt_push ordN hx hc⟩
  · conv => whnf
    exact at_head [some 0, some 1, some 2, some 3, some 4, none] (H3 0 [] [] [] 0) [(0, ML l), (3, .ptr 0 0 0), (4, .ptr 2 0 0), (5, .ptr 4 0 0), (32, .int .i64 l.length), (33, .int .i64 ((0 : Nat) : Int))] ⟨[], [], [], rfl, rfl, heapOf_nil, heapOf_nil, heapOf_nil⟩
theorem any_law (l : List X) (hb : l.length ≤ maxLen) : AC PR 4 [ML l] [] (.bool true) [] := by
  by_cases h : l.length ≤ 300
  · exact any_walk l h
  · unfold maxLen at hb
    exact any_long l (by omega) (by omega)
