/- Part of the proof: what functions of the program compute, walked. No conditions. -/
import Derived.Test.YtejbmdnhchoilaaGreatP14
set_option linter.unusedVariables false
set_option linter.unusedSimpArgs false
set_option maxRecDepth 100000
section
open Go Go.Am Go.Proofs
namespace Go.Am.Pt
theorem srt_perm_eq {α : Type} {cf : α → α → Int} {D : α → Prop} (hc : Tot cf D) {S T : List α} (hD : ∀ y ∈ T, D y) (hp : S.Perm T) : srt cf S = srt cf T :=
  srt_eq hc hD ((srt_perm cf S).trans hp) (srt_sorted hc fun y hy => hD y (hp.subset hy))
theorem srt_mem {α : Type} {cf : α → α → Int} {D : α → Prop} {S : List α} (h : ∀ y ∈ S, D y) : ∀ y ∈ srt cf S, D y := fun y hy => h y ((srt_perm cf S).subset hy)
theorem stableAI_ok (S : List Nat) (js : List Jb) (n : Nat) (D : Nat → Prop) (hc : Tot (cfI js) D) (hdl : ∀ x, D x → x < js.length) (hD : ∀ z ∈ S, D z) (hn : S.length = n) (h20 : n < 20) : AC PR 183 [.slc 0 0 n none, i64 n, .fn (.func 163) [] [.ptr 1 0 0]] [some (.rows 3 1 (S.map iN)), some (.rows 29 1 [jbs js])] (.tuple []) [some (.rows 3 1 ((srt (cfI js) S).map iN)), some (.rows 29 1 [jbs js])] := by
  have c1 := insertionI_ok [] S [] js n n D hc hdl hD (by simp; omega) (by simp; omega) (by omega)
  simp only [List.nil_append, List.append_nil] at c1
  apply A183
  conv => whnf
  refine loop_un 1 ?_
  conv => whnf
  repeat ((first | refine kA9 ?_ | refine kA8 ?_); conv => whnf)
  rw [decide_eq_false (show ¬ ((20 : Int) ≤ (n : Int)) by omega)]
  conv => whnf
  refine call_fr (R := .tuple []) [0, 1] [] [some (.rows 3 1 ((srt (cfI js) S).map iN)), some (.rows 29 1 [jbs js])] c1 ?_
  conv => whnf
  refine loop_un 1 ?_
  conv => whnf
  repeat ((first | refine kA9 ?_ | refine kA8 ?_); conv => whnf)
  rw [decide_eq_false (show ¬ ((20 : Int) < (n : Int)) by omega)]
  conv => whnf
  exact at_end [some 0, some 1]
theorem stableBI_ok (S1 S2 : List Nat) (js : List Jb) (n : Nat) (D : Nat → Prop) (hc : Tot (cfI js) D) (hdl : ∀ x, D x → x < js.length) (hD : ∀ z ∈ S1 ++ S2, D z) (hn : (S1 ++ S2).length = n) (h1 : S1.length = 20) (h40 : n < 40) : AC PR 183 [.slc 0 0 n none, i64 n, .fn (.func 163) [] [.ptr 1 0 0]] [some (.rows 3 1 ((S1 ++ S2).map iN)), some (.rows 29 1 [jbs js])] (.tuple []) [some (.rows 3 1 ((srt (cfI js) (S1 ++ S2)).map iN)), some (.rows 29 1 [jbs js])] := by
  have hn2 := hn
  rw [List.length_append] at hn2
  have d1 : ∀ z ∈ S1, D z := fun z hz => hD z (by simp [hz])
  have d2 : ∀ z ∈ S2, D z := fun z hz => hD z (by simp [hz])
  have l1 := srt_len (cfI js) S1
  have l2 := srt_len (cfI js) S2
  have c1 := insertionI_ok [] S1 S2 js n 20 D hc hdl d1 (by simp; omega) (by simp; omega) (by omega)
  have c2 := insertionI_ok (srt (cfI js) S1) S2 [] js n n D hc hdl d2 (by simp; omega) (by omega) (by omega)
  simp only [List.nil_append, List.append_nil] at c1 c2
  have e1 : srt (cfI js) (srt (cfI js) S1 ++ srt (cfI js) S2) = srt (cfI js) (S1 ++ S2) := srt_perm_eq hc hD ((srt_perm _ _).append (srt_perm _ _))
  apply A183
  conv => whnf
  refine loop_un 2 ?_
  conv => whnf
  repeat ((first | refine kA9 ?_ | refine kA8 ?_); conv => whnf)
  rw [decide_eq_true (show ((20 : Int) ≤ (n : Int)) by omega)]
  conv => whnf
  refine call_fr (R := .tuple []) [0, 1] [] [some (.rows 3 1 ((srt (cfI js) S1 ++ S2).map iN)), some (.rows 29 1 [jbs js])] c1 ?_
  conv => whnf
  refine w_as 40 (by decide) (by decide) ?_
  conv => whnf
  repeat ((first | refine kA9 ?_ | refine kA8 ?_); conv => whnf)
  rw [decide_eq_false (show ¬ ((40 : Int) ≤ (n : Int)) by omega)]
  conv => whnf
  refine call_fr (R := .tuple []) [0, 1] [] [some (.rows 3 1 ((srt (cfI js) S1 ++ srt (cfI js) S2).map iN)), some (.rows 29 1 [jbs js])] c2 ?_
  conv => whnf
  refine loop_un 2 ?_
  conv => whnf
  repeat ((first | refine kA9 ?_ | refine kA8 ?_); conv => whnf)
  by_cases h20 : n = 20
  · have : S2 = [] := List.length_eq_zero_iff.1 (by omega)
    subst this
    rw [decide_eq_false (show ¬ ((20 : Int) < (n : Int)) by omega)]
    rw [show srt (cfI js) S1 ++ srt (cfI js) [] = srt (cfI js) (S1 ++ []) by simp [srt]]
    conv => whnf
    exact at_end [some 0, some 1]
  have c3 := symMergeI_ok js D hc hdl n (by omega) n [] (srt (cfI js) S1) (srt (cfI js) S2) [] 0 20 n (by omega) (fun z hz => by
      rcases List.mem_append.1 hz with h | h
      · exact srt_mem d1 z h
      · exact srt_mem d2 z h) (srt_sorted hc d1) (srt_sorted hc d2) (by omega) (by omega) (by simp; omega) rfl (by omega) (by omega)
  rw [e1] at c3
  simp only [List.nil_append, List.append_nil] at c3
  rw [decide_eq_true (show ((20 : Int) < (n : Int)) by omega)]
  conv => whnf
  refine w_as 40 (by decide) (by decide) ?_
  conv => whnf
  refine loop_un 1 ?_
  conv => whnf
  repeat ((first | refine kA9 ?_ | refine kA8 ?_); conv => whnf)
  rw [decide_eq_false (show ¬ ((40 : Int) ≤ (n : Int)) by omega)]
  conv => whnf
  refine w_as 20 (by decide) (by decide) ?_
  conv => whnf
  rw [decide_eq_true (show ((20 : Int) < (n : Int)) by omega)]
  conv => whnf
  refine call_fr (R := .tuple []) [0, 1] [] [some (.rows 3 1 ((srt (cfI js) (S1 ++ S2)).map iN)), some (.rows 29 1 [jbs js])] c3 ?_
  conv => whnf
  refine w_as 40 (by decide) (by decide) ?_
  conv => whnf
  repeat ((first | refine kA9 ?_ | refine kA8 ?_); conv => whnf)
  rw [decide_eq_false (show ¬ ((40 : Int) < (n : Int)) by omega)]
  conv => whnf
  exact at_end [some 0, some 1]
theorem stableCI_ok (S1 S2 S3 : List Nat) (js : List Jb) (n : Nat) (D : Nat → Prop) (hc : Tot (cfI js) D) (hdl : ∀ x, D x → x < js.length) (hD : ∀ z ∈ S1 ++ (S2 ++ S3), D z) (hn : (S1 ++ (S2 ++ S3)).length = n) (h1 : S1.length = 20) (h2 : S2.length = 20) (h60 : n < 60) : AC PR 183 [.slc 0 0 n none, i64 n, .fn (.func 163) [] [.ptr 1 0 0]] [some (.rows 3 1 ((S1 ++ (S2 ++ S3)).map iN)), some (.rows 29 1 [jbs js])] (.tuple []) [some (.rows 3 1 ((srt (cfI js) (S1 ++ (S2 ++ S3))).map iN)), some (.rows 29 1 [jbs js])] := by
  have hn2 := hn
  rw [List.length_append, List.length_append] at hn2
  have d1 : ∀ z ∈ S1, D z := fun z hz => hD z (by simp [hz])
  have d2 : ∀ z ∈ S2, D z := fun z hz => hD z (by simp [hz])
  have d3 : ∀ z ∈ S3, D z := fun z hz => hD z (by simp [hz])
  have l1 := srt_len (cfI js) S1
  have l2 := srt_len (cfI js) S2
  have l3 := srt_len (cfI js) S3
  have c1 := insertionI_ok [] S1 (S2 ++ S3) js n 20 D hc hdl d1 (by simp; omega) (by simp; omega) (by omega)
  have c2 := insertionI_ok (srt (cfI js) S1) S2 S3 js n 40 D hc hdl d2 (by simp; omega) (by omega) (by omega)
  have c3 := insertionI_ok (srt (cfI js) S1 ++ srt (cfI js) S2) S3 [] js n n D hc hdl d3 (by simp; omega) (by simp; omega) (by omega)
  have c4 := symMergeI_ok js D hc hdl n (by omega) n [] (srt (cfI js) S1) (srt (cfI js) S2) (srt (cfI js) S3) 0 20 40 (by omega) (fun z hz => by
      rcases List.mem_append.1 hz with h | h
      · exact srt_mem d1 z h
      · exact srt_mem d2 z h) (srt_sorted hc d1) (srt_sorted hc d2) (by omega) (by omega) (by simp; omega) rfl (by omega) (by omega)
  have d12 : ∀ z ∈ srt (cfI js) S1 ++ srt (cfI js) S2, D z := fun z hz => by
    rcases List.mem_append.1 hz with h | h
    · exact srt_mem d1 z h
    · exact srt_mem d2 z h
  simp only [List.nil_append, List.append_nil, List.append_assoc] at c1 c2 c3 c4
  have l4 := srt_len (cfI js) (srt (cfI js) S1 ++ srt (cfI js) S2)
  rw [List.length_append] at l4
  apply A183
  conv => whnf
  refine loop_un 3 ?_
  conv => whnf
  repeat ((first | refine kA9 ?_ | refine kA8 ?_); conv => whnf)
  rw [decide_eq_true (show ((20 : Int) ≤ (n : Int)) by omega)]
  conv => whnf
  refine call_fr (R := .tuple []) [0, 1] [] [some (.rows 3 1 ((srt (cfI js) S1 ++ (S2 ++ S3)).map iN)), some (.rows 29 1 [jbs js])] c1 ?_
  conv => whnf
  refine w_as 40 (by decide) (by decide) ?_
  conv => whnf
  repeat ((first | refine kA9 ?_ | refine kA8 ?_); conv => whnf)
  rw [decide_eq_true (show ((40 : Int) ≤ (n : Int)) by omega)]
  conv => whnf
  refine call_fr (R := .tuple []) [0, 1] [] [some (.rows 3 1 ((srt (cfI js) S1 ++ (srt (cfI js) S2 ++ S3)).map iN)), some (.rows 29 1 [jbs js])] c2 ?_
  conv => whnf
  refine w_as 60 (by decide) (by decide) ?_
  conv => whnf
  repeat ((first | refine kA9 ?_ | refine kA8 ?_); conv => whnf)
  rw [decide_eq_false (show ¬ ((60 : Int) ≤ (n : Int)) by omega)]
  conv => whnf
  refine call_fr (R := .tuple []) [0, 1] [] [some (.rows 3 1 ((srt (cfI js) S1 ++ (srt (cfI js) S2 ++ srt (cfI js) S3)).map iN)), some (.rows 29 1 [jbs js])] c3 ?_
  conv => whnf
  refine loop_un 3 ?_
  conv => whnf
  repeat ((first | refine kA9 ?_ | refine kA8 ?_); conv => whnf)
  rw [decide_eq_true (show ((20 : Int) < (n : Int)) by omega)]
  conv => whnf
  refine w_as 40 (by decide) (by decide) ?_
  conv => whnf
  refine loop_un 2 ?_
  conv => whnf
  repeat ((first | refine kA9 ?_ | refine kA8 ?_); conv => whnf)
  rw [decide_eq_true (show ((40 : Int) ≤ (n : Int)) by omega)]
  conv => whnf
  refine w_as 20 (by decide) (by decide) ?_
  conv => whnf
  refine call_fr (R := .tuple []) [0, 1] [] [some (.rows 3 1 ((srt (cfI js) (srt (cfI js) S1 ++ srt (cfI js) S2) ++ srt (cfI js) S3).map iN)), some (.rows 29 1 [jbs js])] c4 ?_
  conv => whnf
  refine w_as 40 (by decide) (by decide) ?_
  conv => whnf
  refine w_as 80 (by decide) (by decide) ?_
  conv => whnf
  repeat ((first | refine kA9 ?_ | refine kA8 ?_); conv => whnf)
  rw [decide_eq_false (show ¬ ((80 : Int) ≤ (n : Int)) by omega)]
  conv => whnf
  refine w_as 60 (by decide) (by decide) ?_
  conv => whnf
  rw [decide_eq_false (show ¬ ((60 : Int) < (n : Int)) by omega)]
  conv => whnf
  refine w_as 40 (by decide) (by decide) ?_
  conv => whnf
  repeat ((first | refine kA9 ?_ | refine kA8 ?_); conv => whnf)
  by_cases h40 : n = 40
  · have : S3 = [] := List.length_eq_zero_iff.1 (by omega)
    subst this
    rw [decide_eq_false (show ¬ ((40 : Int) < (n : Int)) by omega)]
    rw [show srt (cfI js) (srt (cfI js) S1 ++ srt (cfI js) S2) ++ srt (cfI js) [] = srt (cfI js) (S1 ++ (S2 ++ [])) by
      rw [show srt (cfI js) ([] : List Nat) = [] from rfl, List.append_nil, List.append_nil]
      exact srt_perm_eq hc (fun z hz => hD z (by simpa using hz)) ((srt_perm _ _).append (srt_perm _ _))]
    conv => whnf
    exact at_end [some 0, some 1]
  have c5 := symMergeI_ok js D hc hdl n (by omega) n [] (srt (cfI js) (srt (cfI js) S1 ++ srt (cfI js) S2)) (srt (cfI js) S3) [] 0 40 n (by omega) (fun z hz => by
      rcases List.mem_append.1 hz with h | h
      · exact srt_mem d12 z h
      · exact srt_mem d3 z h) (srt_sorted hc d12) (srt_sorted hc d3) (by omega) (by omega) (by simp; omega) rfl (by omega) (by omega)
  have e2 : srt (cfI js) (srt (cfI js) (srt (cfI js) S1 ++ srt (cfI js) S2) ++ srt (cfI js) S3) = srt (cfI js) (S1 ++ (S2 ++ S3)) := srt_perm_eq hc hD (by
    rw [← List.append_assoc]
    exact ((srt_perm _ _).trans ((srt_perm _ _).append (srt_perm _ _))).append (srt_perm _ _))
  rw [e2] at c5
  simp only [List.nil_append, List.append_nil] at c5
  rw [decide_eq_true (show ((40 : Int) < (n : Int)) by omega)]
  conv => whnf
  refine w_as 80 (by decide) (by decide) ?_
  conv => whnf
  refine loop_un 1 ?_
  conv => whnf
  repeat ((first | refine kA9 ?_ | refine kA8 ?_); conv => whnf)
  rw [decide_eq_false (show ¬ ((80 : Int) ≤ (n : Int)) by omega)]
  conv => whnf
  refine w_as 40 (by decide) (by decide) ?_
  conv => whnf
  rw [decide_eq_true (show ((40 : Int) < (n : Int)) by omega)]
  conv => whnf
  refine call_fr (R := .tuple []) [0, 1] [] [some (.rows 3 1 ((srt (cfI js) (S1 ++ (S2 ++ S3))).map iN)), some (.rows 29 1 [jbs js])] c5 ?_
  conv => whnf
  refine w_as 80 (by decide) (by decide) ?_
  conv => whnf
  repeat ((first | refine kA9 ?_ | refine kA8 ?_); conv => whnf)
  rw [decide_eq_false (show ¬ ((80 : Int) < (n : Int)) by omega)]
  conv => whnf
  exact at_end [some 0, some 1]
theorem stableI_ok (S : List Nat) (js : List Jb) (D : Nat → Prop) (hc : Tot (cfI js) D) (hdl : ∀ x, D x → x < js.length) (hD : ∀ z ∈ S, D z) (h60 : S.length < 60) : AC PR 162 [.slc 0 0 S.length none, .fn (.func 163) [] [.ptr 1 0 0]] [some (.rows 3 1 (S.map iN)), some (.rows 29 1 [jbs js])] (.tuple []) [some (.rows 3 1 ((srt (cfI js) S).map iN)), some (.rows 29 1 [jbs js])] := by
  have c1 : AC PR 183 [.slc 0 0 S.length none, i64 S.length, .fn (.func 163) [] [.ptr 1 0 0]] [some (.rows 3 1 (S.map iN)), some (.rows 29 1 [jbs js])] (.tuple []) [some (.rows 3 1 ((srt (cfI js) S).map iN)), some (.rows 29 1 [jbs js])] := by
    by_cases h1 : S.length < 20
    · exact stableAI_ok S js _ D hc hdl hD rfl h1
    by_cases h2 : S.length < 40
    · have := stableBI_ok (S.take 20) (S.drop 20) js S.length D hc hdl (by rw [List.take_append_drop]; exact hD) (by rw [List.take_append_drop]) (by simp; omega) h2
      rw [List.take_append_drop] at this
      exact this
    · have := stableCI_ok (S.take 20) ((S.drop 20).take 20) ((S.drop 20).drop 20) js S.length D hc hdl (by rw [List.take_append_drop, List.take_append_drop]; exact hD) (by rw [List.take_append_drop, List.take_append_drop]) (by simp; omega) (by simp; omega) h60
      rw [List.take_append_drop, List.take_append_drop] at this
      exact this
  apply A162
  conv => whnf
  refine call_fr (R := .tuple []) [0, 1] [] [some (.rows 3 1 ((srt (cfI js) S).map iN)), some (.rows 29 1 [jbs js])] c1 ?_
  conv => whnf
  exact at_end [some 0, some 1]
theorem stableAJ_ok (S : List Jb)  (n : Nat) (D : Jb → Prop) (hc : Tot ordW D)  (hD : ∀ z ∈ S, D z) (hn : S.length = n) (h20 : n < 20) : AC PR 227 [.slc 0 0 n none, i64 n, .fn (.func 216) [] []] [some (.rows 63 13 (S.map jbA))] (.tuple []) [some (.rows 63 13 ((srt ordW S).map jbA))] := by
  have c1 := insertionJ_ok [] S []  n n D hc  hD (by simp; omega) (by simp; omega) (by omega)
  simp only [List.nil_append, List.append_nil] at c1
  apply A227
  conv => whnf
  refine loop_un 1 ?_
  conv => whnf
  repeat ((first | refine kA9 ?_ | refine kA8 ?_); conv => whnf)
  rw [decide_eq_false (show ¬ ((20 : Int) ≤ (n : Int)) by omega)]
  conv => whnf
  refine call_fr (R := .tuple []) [0] [] [some (.rows 63 13 ((srt ordW S).map jbA))] c1 ?_
  conv => whnf
  refine loop_un 1 ?_
  conv => whnf
  repeat ((first | refine kA9 ?_ | refine kA8 ?_); conv => whnf)
  rw [decide_eq_false (show ¬ ((20 : Int) < (n : Int)) by omega)]
  conv => whnf
  exact at_end [some 0]
theorem stableBJ_ok (S1 S2 : List Jb)  (n : Nat) (D : Jb → Prop) (hc : Tot ordW D)  (hD : ∀ z ∈ S1 ++ S2, D z) (hn : (S1 ++ S2).length = n) (h1 : S1.length = 20) (h40 : n < 40) : AC PR 227 [.slc 0 0 n none, i64 n, .fn (.func 216) [] []] [some (.rows 63 13 ((S1 ++ S2).map jbA))] (.tuple []) [some (.rows 63 13 ((srt ordW (S1 ++ S2)).map jbA))] := by
  have hn2 := hn
  rw [List.length_append] at hn2
  have d1 : ∀ z ∈ S1, D z := fun z hz => hD z (by simp [hz])
  have d2 : ∀ z ∈ S2, D z := fun z hz => hD z (by simp [hz])
  have l1 := srt_len ordW S1
  have l2 := srt_len ordW S2
  have c1 := insertionJ_ok [] S1 S2  n 20 D hc  d1 (by simp; omega) (by simp; omega) (by omega)
  have c2 := insertionJ_ok (srt ordW S1) S2 []  n n D hc  d2 (by simp; omega) (by omega) (by omega)
  simp only [List.nil_append, List.append_nil] at c1 c2
  have e1 : srt ordW (srt ordW S1 ++ srt ordW S2) = srt ordW (S1 ++ S2) := srt_perm_eq hc hD ((srt_perm _ _).append (srt_perm _ _))
  apply A227
  conv => whnf
  refine loop_un 2 ?_
  conv => whnf
  repeat ((first | refine kA9 ?_ | refine kA8 ?_); conv => whnf)
  rw [decide_eq_true (show ((20 : Int) ≤ (n : Int)) by omega)]
  conv => whnf
  refine call_fr (R := .tuple []) [0] [] [some (.rows 63 13 ((srt ordW S1 ++ S2).map jbA))] c1 ?_
  conv => whnf
  refine w_as 40 (by decide) (by decide) ?_
  conv => whnf
  repeat ((first | refine kA9 ?_ | refine kA8 ?_); conv => whnf)
  rw [decide_eq_false (show ¬ ((40 : Int) ≤ (n : Int)) by omega)]
  conv => whnf
  refine call_fr (R := .tuple []) [0] [] [some (.rows 63 13 ((srt ordW S1 ++ srt ordW S2).map jbA))] c2 ?_
  conv => whnf
  refine loop_un 2 ?_
  conv => whnf
  repeat ((first | refine kA9 ?_ | refine kA8 ?_); conv => whnf)
  by_cases h20 : n = 20
  · have : S2 = [] := List.length_eq_zero_iff.1 (by omega)
    subst this
    rw [decide_eq_false (show ¬ ((20 : Int) < (n : Int)) by omega)]
    rw [show srt ordW S1 ++ srt ordW [] = srt ordW (S1 ++ []) by simp [srt]]
    conv => whnf
    exact at_end [some 0]
  have c3 := symMergeJ_ok  D hc  n (by omega) n [] (srt ordW S1) (srt ordW S2) [] 0 20 n (by omega) (fun z hz => by
      rcases List.mem_append.1 hz with h | h
      · exact srt_mem d1 z h
      · exact srt_mem d2 z h) (srt_sorted hc d1) (srt_sorted hc d2) (by omega) (by omega) (by simp; omega) rfl (by omega) (by omega)
  rw [e1] at c3
  simp only [List.nil_append, List.append_nil] at c3
  rw [decide_eq_true (show ((20 : Int) < (n : Int)) by omega)]
  conv => whnf
  refine w_as 40 (by decide) (by decide) ?_
  conv => whnf
  refine loop_un 1 ?_
  conv => whnf
  repeat ((first | refine kA9 ?_ | refine kA8 ?_); conv => whnf)
  rw [decide_eq_false (show ¬ ((40 : Int) ≤ (n : Int)) by omega)]
  conv => whnf
  refine w_as 20 (by decide) (by decide) ?_
  conv => whnf
  rw [decide_eq_true (show ((20 : Int) < (n : Int)) by omega)]
  conv => whnf
  refine call_fr (R := .tuple []) [0] [] [some (.rows 63 13 ((srt ordW (S1 ++ S2)).map jbA))] c3 ?_
  conv => whnf
  refine w_as 40 (by decide) (by decide) ?_
  conv => whnf
  repeat ((first | refine kA9 ?_ | refine kA8 ?_); conv => whnf)
  rw [decide_eq_false (show ¬ ((40 : Int) < (n : Int)) by omega)]
  conv => whnf
  exact at_end [some 0]
theorem stableCJ_ok (S1 S2 S3 : List Jb)  (n : Nat) (D : Jb → Prop) (hc : Tot ordW D)  (hD : ∀ z ∈ S1 ++ (S2 ++ S3), D z) (hn : (S1 ++ (S2 ++ S3)).length = n) (h1 : S1.length = 20) (h2 : S2.length = 20) (h60 : n < 60) : AC PR 227 [.slc 0 0 n none, i64 n, .fn (.func 216) [] []] [some (.rows 63 13 ((S1 ++ (S2 ++ S3)).map jbA))] (.tuple []) [some (.rows 63 13 ((srt ordW (S1 ++ (S2 ++ S3))).map jbA))] := by
  have hn2 := hn
  rw [List.length_append, List.length_append] at hn2
  have d1 : ∀ z ∈ S1, D z := fun z hz => hD z (by simp [hz])
  have d2 : ∀ z ∈ S2, D z := fun z hz => hD z (by simp [hz])
  have d3 : ∀ z ∈ S3, D z := fun z hz => hD z (by simp [hz])
  have l1 := srt_len ordW S1
  have l2 := srt_len ordW S2
  have l3 := srt_len ordW S3
  have c1 := insertionJ_ok [] S1 (S2 ++ S3)  n 20 D hc  d1 (by simp; omega) (by simp; omega) (by omega)
  have c2 := insertionJ_ok (srt ordW S1) S2 S3  n 40 D hc  d2 (by simp; omega) (by omega) (by omega)
  have c3 := insertionJ_ok (srt ordW S1 ++ srt ordW S2) S3 []  n n D hc  d3 (by simp; omega) (by simp; omega) (by omega)
  have c4 := symMergeJ_ok  D hc  n (by omega) n [] (srt ordW S1) (srt ordW S2) (srt ordW S3) 0 20 40 (by omega) (fun z hz => by
      rcases List.mem_append.1 hz with h | h
      · exact srt_mem d1 z h
      · exact srt_mem d2 z h) (srt_sorted hc d1) (srt_sorted hc d2) (by omega) (by omega) (by simp; omega) rfl (by omega) (by omega)
  have d12 : ∀ z ∈ srt ordW S1 ++ srt ordW S2, D z := fun z hz => by
    rcases List.mem_append.1 hz with h | h
    · exact srt_mem d1 z h
    · exact srt_mem d2 z h
  simp only [List.nil_append, List.append_nil, List.append_assoc] at c1 c2 c3 c4
  have l4 := srt_len ordW (srt ordW S1 ++ srt ordW S2)
  rw [List.length_append] at l4
  apply A227
  conv => whnf
  refine loop_un 3 ?_
  conv => whnf
  repeat ((first | refine kA9 ?_ | refine kA8 ?_); conv => whnf)
  rw [decide_eq_true (show ((20 : Int) ≤ (n : Int)) by omega)]
  conv => whnf
  refine call_fr (R := .tuple []) [0] [] [some (.rows 63 13 ((srt ordW S1 ++ (S2 ++ S3)).map jbA))] c1 ?_
  conv => whnf
  refine w_as 40 (by decide) (by decide) ?_
  conv => whnf
  repeat ((first | refine kA9 ?_ | refine kA8 ?_); conv => whnf)
  rw [decide_eq_true (show ((40 : Int) ≤ (n : Int)) by omega)]
  conv => whnf
  refine call_fr (R := .tuple []) [0] [] [some (.rows 63 13 ((srt ordW S1 ++ (srt ordW S2 ++ S3)).map jbA))] c2 ?_
  conv => whnf
  refine w_as 60 (by decide) (by decide) ?_
  conv => whnf
  repeat ((first | refine kA9 ?_ | refine kA8 ?_); conv => whnf)
  rw [decide_eq_false (show ¬ ((60 : Int) ≤ (n : Int)) by omega)]
  conv => whnf
  refine call_fr (R := .tuple []) [0] [] [some (.rows 63 13 ((srt ordW S1 ++ (srt ordW S2 ++ srt ordW S3)).map jbA))] c3 ?_
  conv => whnf
  refine loop_un 3 ?_
  conv => whnf
  repeat ((first | refine kA9 ?_ | refine kA8 ?_); conv => whnf)
  rw [decide_eq_true (show ((20 : Int) < (n : Int)) by omega)]
  conv => whnf
  refine w_as 40 (by decide) (by decide) ?_
  conv => whnf
  refine loop_un 2 ?_
  conv => whnf
  repeat ((first | refine kA9 ?_ | refine kA8 ?_); conv => whnf)
  rw [decide_eq_true (show ((40 : Int) ≤ (n : Int)) by omega)]
  conv => whnf
  refine w_as 20 (by decide) (by decide) ?_
  conv => whnf
  refine call_fr (R := .tuple []) [0] [] [some (.rows 63 13 ((srt ordW (srt ordW S1 ++ srt ordW S2) ++ srt ordW S3).map jbA))] c4 ?_
  conv => whnf
  refine w_as 40 (by decide) (by decide) ?_
  conv => whnf
  refine w_as 80 (by decide) (by decide) ?_
  conv => whnf
  repeat ((first | refine kA9 ?_ | refine kA8 ?_); conv => whnf)
  rw [decide_eq_false (show ¬ ((80 : Int) ≤ (n : Int)) by omega)]
  conv => whnf
  refine w_as 60 (by decide) (by decide) ?_
  conv => whnf
  rw [decide_eq_false (show ¬ ((60 : Int) < (n : Int)) by omega)]
  conv => whnf
  refine w_as 40 (by decide) (by decide) ?_
  conv => whnf
  repeat ((first | refine kA9 ?_ | refine kA8 ?_); conv => whnf)
  by_cases h40 : n = 40
  · have : S3 = [] := List.length_eq_zero_iff.1 (by omega)
    subst this
    rw [decide_eq_false (show ¬ ((40 : Int) < (n : Int)) by omega)]
    rw [show srt ordW (srt ordW S1 ++ srt ordW S2) ++ srt ordW [] = srt ordW (S1 ++ (S2 ++ [])) by
      rw [show srt ordW ([] : List Jb) = [] from rfl, List.append_nil, List.append_nil]
      exact srt_perm_eq hc (fun z hz => hD z (by simpa using hz)) ((srt_perm _ _).append (srt_perm _ _))]
    conv => whnf
    exact at_end [some 0]
  have c5 := symMergeJ_ok  D hc  n (by omega) n [] (srt ordW (srt ordW S1 ++ srt ordW S2)) (srt ordW S3) [] 0 40 n (by omega) (fun z hz => by
      rcases List.mem_append.1 hz with h | h
      · exact srt_mem d12 z h
      · exact srt_mem d3 z h) (srt_sorted hc d12) (srt_sorted hc d3) (by omega) (by omega) (by simp; omega) rfl (by omega) (by omega)
  have e2 : srt ordW (srt ordW (srt ordW S1 ++ srt ordW S2) ++ srt ordW S3) = srt ordW (S1 ++ (S2 ++ S3)) := srt_perm_eq hc hD (by
    rw [← List.append_assoc]
    exact ((srt_perm _ _).trans ((srt_perm _ _).append (srt_perm _ _))).append (srt_perm _ _))
  rw [e2] at c5
  simp only [List.nil_append, List.append_nil] at c5
  rw [decide_eq_true (show ((40 : Int) < (n : Int)) by omega)]
  conv => whnf
  refine w_as 80 (by decide) (by decide) ?_
  conv => whnf
  refine loop_un 1 ?_
  conv => whnf
  repeat ((first | refine kA9 ?_ | refine kA8 ?_); conv => whnf)
  rw [decide_eq_false (show ¬ ((80 : Int) ≤ (n : Int)) by omega)]
  conv => whnf
  refine w_as 40 (by decide) (by decide) ?_
  conv => whnf
  rw [decide_eq_true (show ((40 : Int) < (n : Int)) by omega)]
  conv => whnf
  refine call_fr (R := .tuple []) [0] [] [some (.rows 63 13 ((srt ordW (S1 ++ (S2 ++ S3))).map jbA))] c5 ?_
  conv => whnf
  refine w_as 80 (by decide) (by decide) ?_
  conv => whnf
  repeat ((first | refine kA9 ?_ | refine kA8 ?_); conv => whnf)
  rw [decide_eq_false (show ¬ ((80 : Int) < (n : Int)) by omega)]
  conv => whnf
  exact at_end [some 0]
theorem stableJ_ok (S : List Jb)  (D : Jb → Prop) (hc : Tot ordW D)  (hD : ∀ z ∈ S, D z) (h60 : S.length < 60) : AC PR 215 [.slc 0 0 S.length none, .fn (.func 216) [] []] [some (.rows 63 13 (S.map jbA))] (.tuple []) [some (.rows 63 13 ((srt ordW S).map jbA))] := by
  have c1 : AC PR 227 [.slc 0 0 S.length none, i64 S.length, .fn (.func 216) [] []] [some (.rows 63 13 (S.map jbA))] (.tuple []) [some (.rows 63 13 ((srt ordW S).map jbA))] := by
    by_cases h1 : S.length < 20
    · exact stableAJ_ok S  _ D hc  hD rfl h1
    by_cases h2 : S.length < 40
    · have := stableBJ_ok (S.take 20) (S.drop 20)  S.length D hc  (by rw [List.take_append_drop]; exact hD) (by rw [List.take_append_drop]) (by simp; omega) h2
      rw [List.take_append_drop] at this
      exact this
    · have := stableCJ_ok (S.take 20) ((S.drop 20).take 20) ((S.drop 20).drop 20)  S.length D hc  (by rw [List.take_append_drop, List.take_append_drop]; exact hD) (by rw [List.take_append_drop, List.take_append_drop]) (by simp; omega) (by simp; omega) h60
      rw [List.take_append_drop, List.take_append_drop] at this
      exact this
  apply A215
  conv => whnf
  refine call_fr (R := .tuple []) [0] [] [some (.rows 63 13 ((srt ordW S).map jbA))] c1 ?_
  conv => whnf
  exact at_end [some 0]
end Go.Am.Pt
end
section
open Go Go.Am Go.Proofs
namespace Go.Am.Pt
section
variable {α : Type}
theorem lk_mem {s : ByteArray} : ∀ {l : List (ByteArray × α)} {n i : Nat} {v : α}, lk s l n = some (i, v) → (s, v) ∈ l ∧ n ≤ i ∧ l[i - n]? = some (s, v)
  | [], _, _, _, h => by simp [lk] at h
  | (k, x) :: l, n, i, v, h => by
    unfold lk at h
    split at h
    · rename_i e
      subst e
      simp only [Option.some.injEq, Prod.mk.injEq] at h
      obtain ⟨rfl, rfl⟩ := h
      exact ⟨by simp, Nat.le_refl _, by simp⟩
    · obtain ⟨h1, h2, h3⟩ := lk_mem h
      refine ⟨List.mem_cons_of_mem _ h1, by omega, ?_⟩
      rw [show i - n = (i - (n + 1)) + 1 by omega, List.getElem?_cons_succ]
      exact h3
theorem lk_none {s : ByteArray} : ∀ {l : List (ByteArray × α)} {n : Nat}, lk s l n = none → ∀ e ∈ l, e.1 ≠ s
  | [], _, _, e, he => by cases he
  | (k, x) :: l, n, h, e, he => by
    unfold lk at h
    split at h
    · cases h
    · rename_i hk
      rcases List.mem_cons.1 he with rfl | he
      · exact fun h => hk h.symm
      · exact lk_none h e he
abbrev keysOf (l : List (ByteArray × α)) : List ByteArray := l.map (·.1)
theorem key_one {l : List (ByteArray × α)} (hn : (keysOf l).Nodup) {s : ByteArray} {v w : α} (h1 : (s, v) ∈ l) (h2 : (s, w) ∈ l) : v = w := by
  obtain ⟨i, hi, e1⟩ := List.getElem_of_mem h1
  obtain ⟨j, hj, e2⟩ := List.getElem_of_mem h2
  have : i = j := (List.getElem_inj (h₀ := by simpa using hi) (h₁ := by simpa using hj) hn).1 (by simp [e1, e2])
  subst this
  rw [e1] at e2
  cases e2; rfl
theorem ups_keys {s : ByteArray} {v : α} {l : List (ByteArray × α)} : keysOf (ups s v l) = if (lk s l 0).isSome then keysOf l else keysOf l ++ [s] := by
  unfold ups
  cases h : lk s l 0 with
  | none => simp
  | some q =>
    obtain ⟨i, w⟩ := q
    obtain ⟨_, _, h3⟩ := lk_mem h
    simp only [Option.isSome_some, if_true]
    rw [Nat.sub_zero] at h3
    apply List.ext_getElem?
    intro j
    rw [List.getElem?_map, List.getElem?_set, List.getElem?_map]
    split
    · rename_i e
      subst e
      have := (List.getElem?_eq_some_iff.1 h3).1
      rw [if_pos this, h3]; rfl
    · rfl
theorem ups_nd {s : ByteArray} {v : α} {l : List (ByteArray × α)} (hn : (keysOf l).Nodup) : (keysOf (ups s v l)).Nodup := by
  rw [ups_keys]
  cases h : lk s l 0 with
  | none =>
    simp only [Option.isSome_none, Bool.false_eq_true, if_false]
    refine List.nodup_append.2 ⟨hn, by simp, fun a ha b hb => ?_⟩
    obtain ⟨e, he, rfl⟩ := List.mem_map.1 ha
    rw [List.mem_singleton.1 hb]
    exact lk_none h e he
  | some q => exact hn
theorem ups_mem {s : ByteArray} {v : α} {l : List (ByteArray × α)} (hn : (keysOf l).Nodup) (e : ByteArray × α) : e ∈ ups s v l ↔ e = (s, v) ∨ (e ∈ l ∧ e.1 ≠ s) := by
  unfold ups
  cases h : lk s l 0 with
  | none =>
    have := lk_none h
    simp only [List.mem_append, List.mem_singleton]
    constructor
    · rintro (h | h)
      · exact .inr ⟨h, this e h⟩
      · exact .inl h
    · rintro (h | h)
      · exact .inr h
      · exact .inl h.1
  | some q =>
    obtain ⟨i, w⟩ := q
    obtain ⟨h1, _, h3⟩ := lk_mem h
    rw [Nat.sub_zero] at h3
    have hi := (List.getElem?_eq_some_iff.1 h3).1
    simp only
    constructor
    · intro he
      obtain ⟨j, hj, rfl⟩ := List.getElem_of_mem he
      rw [List.getElem_set]
      split
      · exact .inl rfl
      · rename_i hij
        refine .inr ⟨List.getElem_mem _, fun hk => hij ?_⟩
        have hj' : j < l.length := by simpa using hj
        refine (List.getElem_inj (h₀ := by simpa using hi) (h₁ := by simpa using hj') hn).1 ?_
        simp only [List.getElem_map]
        rw [hk]
        have := (List.getElem?_eq_some_iff.1 h3).2
        rw [this]
    · rintro (rfl | ⟨h, hk⟩)
      · exact List.mem_of_getElem? (i := i) (by rw [List.getElem?_set_self hi])
      · obtain ⟨j, hj, rfl⟩ := List.getElem_of_mem h
        have hij : i ≠ j := fun e => hk (by subst e; have := (List.getElem?_eq_some_iff.1 h3).2; rw [this])
        exact List.mem_of_getElem? (i := j) (by rw [List.getElem?_set_ne hij]; exact List.getElem?_eq_getElem hj)
theorem lk_of_mem {l : List (ByteArray × α)} (hn : (keysOf l).Nodup) {s : ByteArray} {v : α} (h : (s, v) ∈ l) : ∃ i, lk s l 0 = some (i, v) := by
  cases hq : lk s l 0 with
  | none => exact absurd rfl (lk_none hq _ h)
  | some q =>
    obtain ⟨i, w⟩ := q
    rw [key_one hn h (lk_mem hq).1]
    exact ⟨i, rfl⟩
end
end Go.Am.Pt
end
