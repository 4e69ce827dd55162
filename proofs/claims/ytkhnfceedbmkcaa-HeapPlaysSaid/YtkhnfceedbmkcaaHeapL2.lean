/- The law of what comes out sorted, walked. No conditions. -/
import Derived.Test.YtkhnfceedbmkcaaHeapL1
set_option linter.unusedVariables false
set_option linter.unusedSimpArgs false
set_option maxRecDepth 100000
open Go Go.Am Go.Proofs Go.Am.Heap
namespace Go.Am.HeapP
theorem ordX : Ord ltX := ⟨fun a => by simp [ltX], fun a b c h1 h2 => by simp [ltX] at *; omega, fun a b c h1 h2 => by simp [ltX] at *; omega⟩
abbrev LF : AV := .fn (.func 10) [] []
abbrev ML (l : List X) : AV := .lst 2 (l.map av) none
theorem sorts_long (l : List X) (h : 300 < l.length) (hb : (l.length : Int) ≤ 9223372036854775807) : AC PR 3 [ML l] [] (.bool true) [] := by
  apply A3
  conv => whnf
  refine call_closed awake_ok ?_
  conv => whnf
  generalize hq : decide (((300 : Int)) < ((l.map av).length : Int)) = q
  cases q
  · have := of_decide_eq_false hq; simp at this; omega
  conv => whnf
  refine call_closed awake_ok ?_
  conv => whnf
  exact at_end []
theorem sorts_walk (l : List X) (h : l.length ≤ 300) : AC PR 3 [ML l] [] (.bool true) [] := by
  apply A3
  conv => whnf
  refine call_closed awake_ok ?_
  conv => whnf
  generalize hq : decide (((300 : Int)) < ((l.map av).length : Int)) = q
  cases q
  case true => have := of_decide_eq_true hq; simp at this; omega
  conv => whnf
  refine call_fr [] [] (HL LF 0 [] 0) (new_ok lessLess) ?_
  conv => whnf
  refine loop_to l.length (fun k e H => ∃ its, e = [(0, ML l), (3, .ptr 0 0 0), (26, .int .i64 l.length), (27, .int .i64 k)] ∧ H = HL LF k its k ∧ HeapOf ltX k its (srt ltX l k)) ?_ ?_
  · rintro k e H hk ⟨its, rfl, rfl, hh⟩
    conv => whnf
    generalize hq : decide ((k : Int) < (l.length : Int)) = q
    cases q
    · have hk' : k = l.length := by have := of_decide_eq_false hq; omega
      subst hk'
      have hlen := hh.len
      have hsl := hh.slen
      have hso := sortF_of ordX (z := zIt) hh.take
      conv => whnf
      refine call_fr [0, 1] [] (HL LF l.length its l.length ++ [some (.rows 27 2 ((sortF ltX zIt l.length (its.take l.length)).map av))]) (sorted_ok lessLess l.length its l.length hlen (by omega)) ?_
      rw [hso]
      conv => whnf
      generalize hq2 : (!decide ((((srt ltX l l.length).map (·.x)).length : Int) = ((l.map av).length : Int))) = q2
      cases q2
      case true => simp [hsl] at hq2
      conv => whnf
      refine call_fr [0, 1] [] (HL LF l.length its l.length) (len_ok LF lessLess.bel l.length its l.length) ?_
      conv => whnf
      generalize hq3 : (!decide ((l.length : Int) = ((l.map av).length : Int))) = q3
      cases q3
      case true => simp at hq3
      conv => whnf
      refine loop_to l.length (fun k e H => ∃ its, e = [(0, ML l), (3, .ptr 0 0 0), (5, .slc 2 0 l.length none), (6, .slc 3 0 k none), (52, .int .i64 l.length), (53, .int .i64 k)] ∧
        H = HL LF (l.length - k) its l.length ++ [some (.rows 27 2 (((srt ltX l l.length).map (·.x)).map av)), some (.rows 27 2 ((((srt ltX l l.length).take k).map (·.x)).map av))] ∧ HeapOf ltX (l.length - k) its ((srt ltX l l.length).drop k)) ?_ ?_
      · rintro k e H hk ⟨its, rfl, rfl, hh⟩
        conv => whnf
        generalize hq : decide ((k : Int) < (l.length : Int)) = q
        cases q
        · have hk' : k = l.length := by have := of_decide_eq_false hq; omega
          subst hk'
          have e0 : l.length - l.length = 0 := Nat.sub_self _
          have e1 : (srt ltX l l.length).take l.length = srt ltX l l.length := List.take_of_length_le (by omega)
          rw [e0, e1]
          conv => whnf
          have hS : (srt ltX l l.length).length = l.length := hsl
          have hsame := same_self ((srt ltX l l.length).map (·.x)) (by simp; omega)
          refine call_fr [0, 1] [] (HL LF 0 its l.length) (pop_none lessLess.bel its l.length) ?_
          conv => whnf
          refine call_fr [] [3, 2] [] hsame ?_
          conv => whnf
          have hord := srt_ord ordX l l.length
          have hF : ∀ K : Int, ((srt ltX l l.length).map (·.x)).filter (fun a => decide (a.key = K)) = l.filter (fun a => decide (a.key = K)) := fun K => by
            have := srt_filter ordX (fun a : X => decide (a.key = K)) (fun a b ha hb => by simp [ltX] at *; omega) l l.length
            rw [List.take_of_length_le (Nat.le_refl _)] at this
            rw [← this, List.filter_map]; rfl
          generalize hT : (srt ltX l l.length).map (·.x) = T at *
          have hTl : T.length = l.length := by rw [← hT]; simp; omega
          refine loop_to l.length (fun k e H => e = [(0, ML l), (6, .slc 0 0 l.length none), (80, .int .i64 l.length), (81, .int .i64 k)] ∧ H = [some (.rows 27 2 (T.map av))]) ?_ ?_
          · rintro k e H hk ⟨rfl, rfl⟩
            conv => whnf
            generalize hq : decide ((k : Int) < (l.length : Int)) = q
            cases q
            · have hk' : k = l.length := by have := of_decide_eq_false hq; omega
              subst hk'
              conv => whnf
              refine loop_to l.length (fun i e H => e = [(0, ML l), (6, .slc 0 0 l.length none), (102, .int .i64 l.length), (103, .int .i64 i)] ∧ H = [some (.rows 27 2 (T.map av))]) ?_ ?_
              · rintro i e H hi ⟨rfl, rfl⟩
                conv => whnf
                generalize hq6 : decide ((i : Int) < (l.length : Int)) = q6
                cases q6
                · conv => whnf
                  exact at_end []
                · have hi' : i < l.length := by have := of_decide_eq_true hq6; omega
                  obtain ⟨xi, hxi⟩ : ∃ x, l[i]? = some x := ⟨_, List.getElem?_eq_getElem hi'⟩
                  conv => whnf
                  refine loop_to l.length (fun k e H => e = [(0, ML l), (6, .slc 0 0 l.length none), (12, .int .i64 i), (13, .slc 1 0 ((l.take k).filter (fun a => decide (a.key = xi.key))).length none), (14, .slc 2 0 ((T.take k).filter (fun a => decide (a.key = xi.key))).length none), (102, .int .i64 l.length), (103, .int .i64 i), (107, .int .i64 l.length), (108, .int .i64 k)] ∧
                    H = [some (.rows 27 2 (T.map av)), some (.rows 27 2 (((l.take k).filter (fun a => decide (a.key = xi.key))).map av)), some (.rows 27 2 (((T.take k).filter (fun a => decide (a.key = xi.key))).map av))]) ?_ ?_
                  · rintro k e H hk ⟨rfl, rfl⟩
                    have hla : ((l.take k).filter (fun a => decide (a.key = xi.key))).length ≤ 300 := by have := List.length_filter_le (fun a => decide (a.key = xi.key)) (l.take k); simp at this; omega
                    have hlb : ((T.take k).filter (fun a => decide (a.key = xi.key))).length ≤ 300 := by have := List.length_filter_le (fun a => decide (a.key = xi.key)) (T.take k); simp at this; omega
                    conv => whnf
                    generalize hq8 : decide ((k : Int) < (l.length : Int)) = q8
                    cases q8
                    · have hk' : k = l.length := by have := of_decide_eq_false hq8; omega
                      have e1 : (l.take k).filter (fun a => decide (a.key = xi.key)) = l.filter (fun a => decide (a.key = xi.key)) := by rw [hk', List.take_of_length_le (Nat.le_refl _)]
                      have e2 : (T.take k).filter (fun a => decide (a.key = xi.key)) = l.filter (fun a => decide (a.key = xi.key)) := by rw [hk', List.take_of_length_le (by omega), hF]
                      rw [e1] at hla
                      rw [e1, e2]
                      conv => whnf
                      refine call_fr [] [1, 2] [] (same_self (l.filter (fun a => decide (a.key = xi.key))) (by omega)) ?_
                      conv => whnf
                      refine w_as ((i + 1 : Nat) : Int) (by omega) (by omega) ?_
                      conv => whnf
                      exact at_head [some 0] [some (.rows 27 2 (T.map av))] [(0, ML l), (6, .slc 0 0 l.length none), (102, .int .i64 l.length), (103, .int .i64 ((i + 1 : Nat) : Int))] ⟨hi', rfl, rfl⟩
                    · have hk' : k < l.length := by have := of_decide_eq_true hq8; omega
                      obtain ⟨x, hx⟩ : ∃ x, l[k]? = some x := ⟨_, List.getElem?_eq_getElem hk'⟩
                      obtain ⟨y, hy⟩ : ∃ y, T[k]? = some y := ⟨_, List.getElem?_eq_getElem (by omega)⟩
                      have ea : (l.take (k + 1)).filter (fun a => decide (a.key = xi.key)) = (l.take k).filter (fun a => decide (a.key = xi.key)) ++ [x].filter (fun a => decide (a.key = xi.key)) := by rw [List.take_add_one, hx, List.filter_append]; rfl
                      have eb : (T.take (k + 1)).filter (fun a => decide (a.key = xi.key)) = (T.take k).filter (fun a => decide (a.key = xi.key)) ++ [y].filter (fun a => decide (a.key = xi.key)) := by rw [List.take_add_one, hy, List.filter_append]; rfl
                      rw [ea, eb]
                      generalize (l.take k).filter (fun a => decide (a.key = xi.key)) = A at *
                      generalize (T.take k).filter (fun a => decide (a.key = xi.key)) = B at *
                      conv => whnf
                      refine k_el (get_map (i := (k : Int)) hx) (by omega) ?_
                      conv => whnf
                      refine k_el (get_map (i := (i : Int)) hxi) (by omega) ?_
                      conv => whnf
                      generalize hqa : decide (x.key = xi.key) = qa
                      cases qa
                      · have fa : [x].filter (fun a => decide (a.key = xi.key)) = [] := by simp [hqa]
                        rw [fa]
                        simp only [List.append_nil]
                        conv => whnf
                        refine k_idx ?_ _ rfl (by omega) (by omega)
                        conv => whnf
                        refine k_cell (get_map (i := (k : Int)) hy) ?_
                        conv => whnf
                        refine k_el (get_map (i := (i : Int)) hxi) (by omega) ?_
                        conv => whnf
                        generalize hqb : decide (y.key = xi.key) = qb
                        cases qb
                        · have fb : [y].filter (fun a => decide (a.key = xi.key)) = [] := by simp [hqb]
                          rw [fb]
                          simp only [List.append_nil]
                          conv => whnf
                          refine w_as ((k + 1 : Nat) : Int) (by omega) (by omega) ?_
                          conv => whnf
                          exact at_head [some 0, some 1, some 2] [some (.rows 27 2 (T.map av)), some (.rows 27 2 ((A).map av)), some (.rows 27 2 (B.map av))] [(0, ML l), (6, .slc 0 0 l.length none), (12, .int .i64 i), (13, .slc 1 0 (A).length none), (14, .slc 2 0 B.length none), (102, .int .i64 l.length), (103, .int .i64 i), (107, .int .i64 l.length), (108, .int .i64 ((k + 1 : Nat) : Int))] ⟨hk', rfl, rfl⟩
                        · have fb : [y].filter (fun a => decide (a.key = xi.key)) = [y] := by simp [hqb]
                          rw [fb]
                          conv => whnf
                          refine k_idx ?_ _ rfl (by omega) (by omega)
                          conv => whnf
                          refine k_row (get_map (i := (k : Int)) hy) ?_
                          conv => whnf
                          refine app_map (f := av) (l := B) (new := [y]) rfl rfl (Nat.le_refl _) (by simp [roomBound]; omega) (fun _ => ?_) (fun h => absurd h (Nat.lt_irrefl _))
                          conv => whnf
                          refine w_as ((k + 1 : Nat) : Int) (by omega) (by omega) ?_
                          conv => whnf
                          exact at_head [some 0, some 1, some 4] [some (.rows 27 2 (T.map av)), some (.rows 27 2 ((A).map av)), some (.rows 27 2 ((B ++ [y]).map av))] [(0, ML l), (6, .slc 0 0 l.length none), (12, .int .i64 i), (13, .slc 1 0 (A).length none), (14, .slc 2 0 (B ++ [y]).length none), (102, .int .i64 l.length), (103, .int .i64 i), (107, .int .i64 l.length), (108, .int .i64 ((k + 1 : Nat) : Int))] ⟨hk', rfl, rfl⟩
                      · have fa : [x].filter (fun a => decide (a.key = xi.key)) = [x] := by simp [hqa]
                        rw [fa]
                        conv => whnf
                        refine k_el (get_map (i := (k : Int)) hx) (by omega) ?_
                        conv => whnf
                        refine app_map (f := av) (l := A) (new := [x]) rfl rfl (Nat.le_refl _) (by simp [roomBound]; omega) (fun _ => ?_) (fun h => absurd h (Nat.lt_irrefl _))
                        conv => whnf
                        refine k_idx ?_ _ rfl (by omega) (by omega)
                        conv => whnf
                        refine k_cell (get_map (i := (k : Int)) hy) ?_
                        conv => whnf
                        refine k_el (get_map (i := (i : Int)) hxi) (by omega) ?_
                        conv => whnf
                        generalize hqb : decide (y.key = xi.key) = qb
                        cases qb
                        · have fb : [y].filter (fun a => decide (a.key = xi.key)) = [] := by simp [hqb]
                          rw [fb]
                          simp only [List.append_nil]
                          conv => whnf
                          refine w_as ((k + 1 : Nat) : Int) (by omega) (by omega) ?_
                          conv => whnf
                          exact at_head [some 0, some 4, some 2] [some (.rows 27 2 (T.map av)), some (.rows 27 2 ((A ++ [x]).map av)), some (.rows 27 2 (B.map av))] [(0, ML l), (6, .slc 0 0 l.length none), (12, .int .i64 i), (13, .slc 1 0 (A ++ [x]).length none), (14, .slc 2 0 B.length none), (102, .int .i64 l.length), (103, .int .i64 i), (107, .int .i64 l.length), (108, .int .i64 ((k + 1 : Nat) : Int))] ⟨hk', rfl, rfl⟩
                        · have fb : [y].filter (fun a => decide (a.key = xi.key)) = [y] := by simp [hqb]
                          rw [fb]
                          conv => whnf
                          refine k_idx ?_ _ rfl (by omega) (by omega)
                          conv => whnf
                          refine k_row (get_map (i := (k : Int)) hy) ?_
                          conv => whnf
                          refine app_map (f := av) (l := B) (new := [y]) rfl rfl (Nat.le_refl _) (by simp [roomBound]; omega) (fun _ => ?_) (fun h => absurd h (Nat.lt_irrefl _))
                          conv => whnf
                          refine w_as ((k + 1 : Nat) : Int) (by omega) (by omega) ?_
                          conv => whnf
                          exact at_head [some 0, some 4, some 6] [some (.rows 27 2 (T.map av)), some (.rows 27 2 ((A ++ [x]).map av)), some (.rows 27 2 ((B ++ [y]).map av))] [(0, ML l), (6, .slc 0 0 l.length none), (12, .int .i64 i), (13, .slc 1 0 (A ++ [x]).length none), (14, .slc 2 0 (B ++ [y]).length none), (102, .int .i64 l.length), (103, .int .i64 i), (107, .int .i64 l.length), (108, .int .i64 ((k + 1 : Nat) : Int))] ⟨hk', rfl, rfl⟩
                  · conv => whnf
                    exact at_head [some 0, none, none] [some (.rows 27 2 (T.map av)), some (.rows 27 2 []), some (.rows 27 2 [])] [(0, ML l), (6, .slc 0 0 l.length none), (12, .int .i64 i), (13, .slc 1 0 0 none), (14, .slc 2 0 0 none), (102, .int .i64 l.length), (103, .int .i64 i), (107, .int .i64 l.length), (108, .int .i64 ((0 : Nat) : Int))] ⟨rfl, rfl⟩
              · conv => whnf
                exact at_head [some 0] [some (.rows 27 2 (T.map av))] [(0, ML l), (6, .slc 0 0 l.length none), (102, .int .i64 l.length), (103, .int .i64 ((0 : Nat) : Int))] ⟨rfl, rfl⟩
            · have hk' : k < l.length := by have := of_decide_eq_true hq; omega
              conv => whnf
              generalize hq0 : decide ((0 : Int) < (k : Int)) = q0
              cases q0
              · conv => whnf
                refine w_as ((k + 1 : Nat) : Int) (by omega) (by omega) ?_
                conv => whnf
                exact at_head [some 0] [some (.rows 27 2 (T.map av))] [(0, ML l), (6, .slc 0 0 l.length none), (80, .int .i64 l.length), (81, .int .i64 ((k + 1 : Nat) : Int))] ⟨hk', rfl, rfl⟩
              · have h0 : 0 < k := by have := of_decide_eq_true hq0; omega
                obtain ⟨x, hx⟩ : ∃ x, T[k]? = some x := ⟨_, List.getElem?_eq_getElem (by omega)⟩
                obtain ⟨y, hy⟩ : ∃ y, T[k - 1]? = some y := ⟨_, List.getElem?_eq_getElem (by omega)⟩
                have hxy : ¬ x.key < y.key := by
                  rw [← hT, List.getElem?_map, Option.map_eq_some_iff] at hx hy
                  obtain ⟨a, ha, rfl⟩ := hx
                  obtain ⟨b, hb, rfl⟩ := hy
                  have hab := srt_le (lt := ltX) ordX hord (i := k - 1) (j := k) (by omega) hb ha
                  simpa [ltX] using hab
                conv => whnf
                refine k_idx ?_ _ rfl (by omega) (by omega)
                conv => whnf
                refine k_cell (get_map (i := (k : Int)) hx) ?_
                conv => whnf
                refine w_as ((k - 1 : Nat) : Int) (by omega) (by omega) ?_
                conv => whnf
                refine k_idx ?_ _ rfl (by omega) (by omega)
                conv => whnf
                refine k_cell (get_map (i := ((k - 1 : Nat) : Int)) hy) ?_
                conv => whnf
                generalize hq2 : decide (x.key < y.key) = q2
                cases q2
                case true => exact absurd (of_decide_eq_true hq2) hxy
                conv => whnf
                refine w_as ((k + 1 : Nat) : Int) (by omega) (by omega) ?_
                conv => whnf
                exact at_head [some 0] [some (.rows 27 2 (T.map av))] [(0, ML l), (6, .slc 0 0 l.length none), (80, .int .i64 l.length), (81, .int .i64 ((k + 1 : Nat) : Int))] ⟨hk', rfl, rfl⟩
          · conv => whnf
            exact at_head [some 3] [some (.rows 27 2 (T.map av))] [(0, ML l), (6, .slc 0 0 l.length none), (80, .int .i64 l.length), (81, .int .i64 ((0 : Nat) : Int))] ⟨rfl, rfl⟩
        · have hk' : k < l.length := by have := of_decide_eq_true hq; omega
          have hlen := hh.len
          obtain ⟨r, t, hr, hst⟩ := hh.root ordX (by omega)
          rw [hst] at hh
          have hp := hh.pop (s := []) ordX (z := zIt) hr (by omega)
          have hrk : (srt ltX l l.length)[k]? = some r := by
            have := congrArg (·[0]?) hst
            simpa using this
          have hdk : (srt ltX l l.length).drop (k + 1) = t := by
            have := congrArg (·.drop 1) hst
            simpa [List.drop_drop, Nat.add_comm] using this
          rw [← hdk] at hp
          conv => whnf
          refine call_fr [0, 1] [] (HL LF (l.length - k - 1) (popL ltX zIt (l.length - k) its) l.length) (pop_ok lessLess (l.length - k) its l.length r hr (by omega) hlen (by omega)) ?_
          conv => whnf
          refine app_map (f := av) (l := ((srt ltX l l.length).take k).map (·.x)) (new := [r.x]) rfl rfl (by simp; omega) (by simp [roomBound]; omega) (fun _ => ?_) (fun h => by simp at h; omega)
          conv => whnf
          refine w_as ((k + 1 : Nat) : Int) (by omega) (by omega) ?_
          conv => whnf
          have htk : (((srt ltX l l.length).take (k + 1)).map (·.x)) = ((srt ltX l l.length).take k).map (·.x) ++ [r.x] := by rw [List.take_add_one, hrk]; simp
          refine at_head [some 0, some 1, some 2, some 6] (HL LF (l.length - (k + 1)) (popL ltX zIt (l.length - k) its) l.length ++ [some (.rows 27 2 (((srt ltX l l.length).map (·.x)).map av)), some (.rows 27 2 ((((srt ltX l l.length).take k).map (·.x) ++ [r.x]).map av))])
            [(0, ML l), (3, .ptr 0 0 0), (5, .slc 2 0 l.length none), (6, .slc 3 0 (k + 1) none), (52, .int .i64 l.length), (53, .int .i64 ((k + 1 : Nat) : Int))] ⟨hk', popL ltX zIt (l.length - k) its, rfl, by rw [htk], hp⟩
      · conv => whnf
        refine at_head [some 0, some 1, some 2, none] (HL LF (l.length - 0) its l.length ++ [some (.rows 27 2 (((srt ltX l l.length).map (·.x)).map av)), some (.rows 27 2 ((((srt ltX l l.length).take 0).map (·.x)).map av))])
            [(0, ML l), (3, .ptr 0 0 0), (5, .slc 2 0 l.length none), (6, .slc 3 0 0 none), (52, .int .i64 l.length), (53, .int .i64 ((0 : Nat) : Int))] ⟨its, rfl, rfl, hh⟩
    · have hk' : k < l.length := by have := of_decide_eq_true hq; omega
      obtain ⟨x, hx⟩ : ∃ x, l[k]? = some x := ⟨_, List.getElem?_eq_getElem hk'⟩
      have hlen := hh.len
      conv => whnf
      refine k_el (get_map (i := (k : Int)) hx) (by omega) ?_
      conv => whnf
      refine call_fr [0, 1] [] (HMA 2 LF (k + 1) (upF ltX k (putAt k its ⟨x, k⟩) k) (k + 1)) (push_ok lessLess k its k x hlen (by omega) (by omega)) ?_
      conv => whnf
      refine w_as ((k + 1 : Nat) : Int) (by omega) (by omega) ?_
      conv => whnf
      refine at_head [some 0, some 2] (HL LF (k + 1) (upF ltX k (putAt k its ⟨x, k⟩) k) ((k + 1 : Nat) : Int)) [(0, ML l), (3, .ptr 0 0 0), (26, .int .i64 l.length), (27, .int .i64 ((k + 1 : Nat) : Int))] ⟨hk', _, rfl, rfl, srt_push ordX hx hh⟩
  · conv => whnf
    exact at_head [some 0, some 1] (HL LF 0 [] 0) [(0, ML l), (3, .ptr 0 0 0), (26, .int .i64 l.length), (27, .int .i64 ((0 : Nat) : Int))] ⟨[], rfl, rfl, heapOf_nil⟩
theorem sorts_law (l : List X) (hb : l.length ≤ maxLen) : AC PR 3 [ML l] [] (.bool true) [] := by
  by_cases h : l.length ≤ 300
  · exact sorts_walk l h
  · unfold maxLen at hb
    exact sorts_long l (by omega) (by omega)
