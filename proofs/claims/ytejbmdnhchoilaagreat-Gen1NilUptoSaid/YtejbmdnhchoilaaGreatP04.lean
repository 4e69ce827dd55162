/- Part of the proof: what functions of the program compute, walked. No conditions. -/
import Derived.Test.YtejbmdnhchoilaaGreatP03
set_option linter.unusedVariables false
set_option linter.unusedSimpArgs false
set_option maxRecDepth 100000
section
open Go Go.Am Go.Proofs
namespace Go.Am.Pt
abbrev rowsM (l : List Mc) : Option AObj := some (.rows 57 7 (l.map mcA))
abbrev rowsQ (l : List Qu) : Option AObj := some (.rows 45 4 (l.map quR))
abbrev rowsJ (l : List Jb) : Option AObj := some (.rows 63 13 (l.map jbA))
theorem copy_ok (s : St) (hz : StSz s) : AC PR 27 [stA s] [] (.agg [i64 s.clock, i64 s.next, .slc 0 0 s.machines.length none, .slc 1 0 s.queues.length none, .slc 2 0 s.jobs.length none]) [rowsM s.machines, rowsQ s.queues, rowsJ s.jobs] := by
  have hzm := hz.m
  have hzq := hz.q
  have hzj := hz.j
  apply A27
  conv => whnf
  refine call_fr [] [] [rowsM s.machines] (cloneM_ok s.machines hzm) ?_
  conv => whnf
  refine loop_to s.machines.length (fun k e H => e = [(1, .ptr 0 0 0), (2, .ptr 1 0 0), (12, .slc 2 0 s.machines.length none), (13, i64 s.machines.length), (14, i64 k)] ∧ H = [some (.rows 31 5 [.agg [i64 s.clock, i64 s.next, .slc 2 0 s.machines.length none, .lst 4 (s.queues.map quR) none, .lst 13 (s.jobs.map jbA) none]]), some (.rows 31 5 [.agg [i64 0, i64 0, .nilslc, .nilslc, .nilslc]]), rowsM s.machines]) ?_ ?_
  · rintro k e H hk ⟨rfl, rfl⟩
    conv => whnf
    generalize hq : decide ((k : Int) < ((s.machines.length : Nat) : Int)) = q
    cases q
    case false =>
      conv => whnf
      refine call_fr [] [] [rowsQ s.queues] (cloneQ_ok s.queues hzq) ?_
      conv => whnf
      refine call_fr [] [] [rowsJ s.jobs] (cloneJ_ok s.jobs hzj) ?_
      conv => whnf
      refine loop_to s.jobs.length (fun k e H => e = [(1, .ptr 0 0 0), (2, .ptr 1 0 0), (39, .slc 4 0 s.jobs.length none), (40, i64 s.jobs.length), (41, i64 k)] ∧ H = [some (.rows 31 5 [.agg [i64 s.clock, i64 s.next, .slc 2 0 s.machines.length none, .slc 3 0 s.queues.length none, .slc 4 0 s.jobs.length none]]), some (.rows 31 5 [.agg [i64 0, i64 0, .nilslc, .nilslc, .nilslc]]), rowsM s.machines, rowsQ s.queues, rowsJ s.jobs]) ?_ ?_
      · rintro k e H hk ⟨rfl, rfl⟩
        conv => whnf
        generalize hq : decide ((k : Int) < ((s.jobs.length : Nat) : Int)) = q
        cases q
        case false =>
          conv => whnf
          exact at_end [some 2, some 3, some 4]
        have hk2 : k < s.jobs.length := by have := of_decide_eq_true hq; omega
        have hgo := List.getElem?_eq_getElem hk2
        have hlx := hz.w _ (List.getElem_mem hk2)
        generalize s.jobs[k] = x at hgo hlx
        conv => whnf
        repeat ((first | refine And.intro rfl ?_ | refine kA1 ?_ _ | refine kA2 ?_ _ | refine k_row gmA ?_ | refine k_cell gmA ?_ | refine e_row gmA rfl ?_ | refine k_el gmA (by omega) ?_ | refine k_some gmA ?_ | refine f_set _ rfl ?_ | refine kA8 ?_); conv => whnf)
        refine call_fr [] [] [some (.rows 65 2 (x.task.wants.map lb))] (cloneL_ok x.task.wants hlx) ?_
        conv => whnf
        repeat ((first | refine And.intro rfl ?_ | refine kA1 ?_ _ | refine kA2 ?_ _ | refine k_row gmA ?_ | refine k_cell gmA ?_ | refine e_row gmA rfl ?_ | refine k_el gmA (by omega) ?_ | refine k_some gmA ?_ | refine f_set _ rfl ?_ | refine kA8 ?_); conv => whnf)
        refine f_raw ?_
        conv => whnf
        repeat ((first | refine And.intro rfl ?_ | refine kA1 ?_ _ | refine kA2 ?_ _ | refine k_row gmA ?_ | refine k_cell gmA ?_ | refine e_row gmA rfl ?_ | refine k_el gmA (by omega) ?_ | refine k_some gmA ?_ | refine f_set _ rfl ?_ | refine kA8 ?_); conv => whnf)
        refine at_head [some 0, some 1, some 2, some 3, some 4] _ [(1, .ptr 0 0 0), (2, .ptr 1 0 0), (39, .slc 4 0 s.jobs.length none), (40, i64 s.jobs.length), (41, i64 (k + 1 : Nat))] ⟨hk2, rfl, rfl⟩ (hN := by exact autoG)
      · conv => whnf
        exact at_head [some 0, some 1, some 2, some 3, some 4] _ _ ⟨rfl, rfl⟩
    have hk2 : k < s.machines.length := by have := of_decide_eq_true hq; omega
    have hgo := List.getElem?_eq_getElem hk2
    have hlx := hz.l _ (List.getElem_mem hk2)
    generalize s.machines[k] = x at hgo hlx
    conv => whnf
    repeat ((first | refine And.intro rfl ?_ | refine kA1 ?_ _ | refine kA2 ?_ _ | refine k_row gmA ?_ | refine k_cell gmA ?_ | refine e_row gmA rfl ?_ | refine k_el gmA (by omega) ?_ | refine k_some gmA ?_ | refine f_set _ rfl ?_ | refine kA8 ?_); conv => whnf)
    refine call_fr [] [] [some (.rows 65 2 (x.node.labels.map lb))] (cloneL_ok x.node.labels hlx) ?_
    conv => whnf
    repeat ((first | refine And.intro rfl ?_ | refine kA1 ?_ _ | refine kA2 ?_ _ | refine k_row gmA ?_ | refine k_cell gmA ?_ | refine e_row gmA rfl ?_ | refine k_el gmA (by omega) ?_ | refine k_some gmA ?_ | refine f_set _ rfl ?_ | refine kA8 ?_); conv => whnf)
    refine f_raw ?_
    conv => whnf
    repeat ((first | refine And.intro rfl ?_ | refine kA1 ?_ _ | refine kA2 ?_ _ | refine k_row gmA ?_ | refine k_cell gmA ?_ | refine e_row gmA rfl ?_ | refine k_el gmA (by omega) ?_ | refine k_some gmA ?_ | refine f_set _ rfl ?_ | refine kA8 ?_); conv => whnf)
    refine at_head [some 0, some 1, some 2] _ [(1, .ptr 0 0 0), (2, .ptr 1 0 0), (12, .slc 2 0 s.machines.length none), (13, i64 s.machines.length), (14, i64 (k + 1 : Nat))] ⟨hk2, rfl, rfl⟩ (hN := by exact autoG)
  · conv => whnf
    exact at_head [some 0, some 1, some 2] _ _ ⟨rfl, rfl⟩
theorem copyO_ok (s : St) (hz : StSz s) : AC PR 27 [.agg [i64 s.clock, i64 s.next, .slc 0 0 s.machines.length none, .slc 1 0 s.queues.length none, .slc 2 0 s.jobs.length none]] [rowsM s.machines, rowsQ s.queues, rowsJ s.jobs] (.agg [i64 s.clock, i64 s.next, .slc 3 0 s.machines.length none, .slc 4 0 s.queues.length none, .slc 5 0 s.jobs.length none]) [rowsM s.machines, rowsQ s.queues, rowsJ s.jobs, rowsM s.machines, rowsQ s.queues, rowsJ s.jobs] := by
  have hzm := hz.m
  have hzq := hz.q
  have hzj := hz.j
  apply A27
  conv => whnf
  refine call_fr [0] [] [rowsM s.machines, rowsM s.machines] (cloneM_own s.machines hzm) ?_
  conv => whnf
  refine loop_to s.machines.length (fun k e H => e = [(1, .ptr 3 0 0), (2, .ptr 4 0 0), (12, .slc 5 0 s.machines.length none), (13, i64 s.machines.length), (14, i64 k)] ∧ H = [rowsM s.machines, rowsQ s.queues, rowsJ s.jobs, some (.rows 31 5 [.agg [i64 s.clock, i64 s.next, .slc 5 0 s.machines.length none, .slc 1 0 s.queues.length none, .slc 2 0 s.jobs.length none]]), some (.rows 31 5 [.agg [i64 0, i64 0, .nilslc, .nilslc, .nilslc]]), rowsM s.machines]) ?_ ?_
  · rintro k e H hk ⟨rfl, rfl⟩
    conv => whnf
    generalize hq : decide ((k : Int) < ((s.machines.length : Nat) : Int)) = q
    cases q
    case false =>
      conv => whnf
      refine call_fr [1] [] [rowsQ s.queues, rowsQ s.queues] (cloneQ_own s.queues hzq) ?_
      conv => whnf
      refine call_fr [2] [] [rowsJ s.jobs, rowsJ s.jobs] (cloneJ_own s.jobs hzj) ?_
      conv => whnf
      refine loop_to s.jobs.length (fun k e H => e = [(1, .ptr 3 0 0), (2, .ptr 4 0 0), (39, .slc 7 0 s.jobs.length none), (40, i64 s.jobs.length), (41, i64 k)] ∧ H = [rowsM s.machines, rowsQ s.queues, rowsJ s.jobs, some (.rows 31 5 [.agg [i64 s.clock, i64 s.next, .slc 5 0 s.machines.length none, .slc 6 0 s.queues.length none, .slc 7 0 s.jobs.length none]]), some (.rows 31 5 [.agg [i64 0, i64 0, .nilslc, .nilslc, .nilslc]]), rowsM s.machines, rowsQ s.queues, rowsJ s.jobs]) ?_ ?_
      · rintro k e H hk ⟨rfl, rfl⟩
        conv => whnf
        generalize hq : decide ((k : Int) < ((s.jobs.length : Nat) : Int)) = q
        cases q
        case false =>
          conv => whnf
          exact at_end [some 0, some 1, some 2, some 5, some 6, some 7]
        have hk2 : k < s.jobs.length := by have := of_decide_eq_true hq; omega
        have hgo := List.getElem?_eq_getElem hk2
        have hlx := hz.w _ (List.getElem_mem hk2)
        generalize s.jobs[k] = x at hgo hlx
        conv => whnf
        repeat ((first | refine And.intro rfl ?_ | refine kA1 ?_ _ | refine kA2 ?_ _ | refine k_row gmA ?_ | refine k_cell gmA ?_ | refine e_row gmA rfl ?_ | refine k_el gmA (by omega) ?_ | refine k_some gmA ?_ | refine f_set _ rfl ?_ | refine kA8 ?_); conv => whnf)
        refine call_fr [] [] [some (.rows 65 2 (x.task.wants.map lb))] (cloneL_ok x.task.wants hlx) ?_
        conv => whnf
        repeat ((first | refine And.intro rfl ?_ | refine kA1 ?_ _ | refine kA2 ?_ _ | refine k_row gmA ?_ | refine k_cell gmA ?_ | refine e_row gmA rfl ?_ | refine k_el gmA (by omega) ?_ | refine k_some gmA ?_ | refine f_set _ rfl ?_ | refine kA8 ?_); conv => whnf)
        refine f_raw ?_
        conv => whnf
        repeat ((first | refine And.intro rfl ?_ | refine kA1 ?_ _ | refine kA2 ?_ _ | refine k_row gmA ?_ | refine k_cell gmA ?_ | refine e_row gmA rfl ?_ | refine k_el gmA (by omega) ?_ | refine k_some gmA ?_ | refine f_set _ rfl ?_ | refine kA8 ?_); conv => whnf)
        refine at_head [some 0, some 1, some 2, some 3, some 4, some 5, some 6, some 7] _ [(1, .ptr 3 0 0), (2, .ptr 4 0 0), (39, .slc 7 0 s.jobs.length none), (40, i64 s.jobs.length), (41, i64 (k + 1 : Nat))] ⟨hk2, rfl, rfl⟩ (hN := by exact autoG)
      · conv => whnf
        exact at_head [some 0, some 1, some 2, some 3, some 4, some 5, some 6, some 7] _ _ ⟨rfl, rfl⟩
    have hk2 : k < s.machines.length := by have := of_decide_eq_true hq; omega
    have hgo := List.getElem?_eq_getElem hk2
    have hlx := hz.l _ (List.getElem_mem hk2)
    generalize s.machines[k] = x at hgo hlx
    conv => whnf
    repeat ((first | refine And.intro rfl ?_ | refine kA1 ?_ _ | refine kA2 ?_ _ | refine k_row gmA ?_ | refine k_cell gmA ?_ | refine e_row gmA rfl ?_ | refine k_el gmA (by omega) ?_ | refine k_some gmA ?_ | refine f_set _ rfl ?_ | refine kA8 ?_); conv => whnf)
    refine call_fr [] [] [some (.rows 65 2 (x.node.labels.map lb))] (cloneL_ok x.node.labels hlx) ?_
    conv => whnf
    repeat ((first | refine And.intro rfl ?_ | refine kA1 ?_ _ | refine kA2 ?_ _ | refine k_row gmA ?_ | refine k_cell gmA ?_ | refine e_row gmA rfl ?_ | refine k_el gmA (by omega) ?_ | refine k_some gmA ?_ | refine f_set _ rfl ?_ | refine kA8 ?_); conv => whnf)
    refine f_raw ?_
    conv => whnf
    repeat ((first | refine And.intro rfl ?_ | refine kA1 ?_ _ | refine kA2 ?_ _ | refine k_row gmA ?_ | refine k_cell gmA ?_ | refine e_row gmA rfl ?_ | refine k_el gmA (by omega) ?_ | refine k_some gmA ?_ | refine f_set _ rfl ?_ | refine kA8 ?_); conv => whnf)
    refine at_head [some 0, some 1, some 2, some 3, some 4, some 5] _ [(1, .ptr 3 0 0), (2, .ptr 4 0 0), (12, .slc 5 0 s.machines.length none), (13, i64 s.machines.length), (14, i64 (k + 1 : Nat))] ⟨hk2, rfl, rfl⟩ (hN := by exact autoG)
  · conv => whnf
    exact at_head [some 0, some 1, some 2, some 3, some 4, some 5] _ _ ⟨rfl, rfl⟩
abbrev gRow (s : St) : AV := .agg [i64 s.clock, i64 s.next, .slc 1 0 s.machines.length none, .slc 2 0 s.queues.length none, .slc 3 0 s.jobs.length none]
abbrev gH (s : St) : AHeap := [some (.rows 68 5 [gRow s]), rowsM s.machines, rowsQ s.queues, rowsJ s.jobs]
abbrev St.new : St := ⟨0, 1, [], [], []⟩
theorem new_ok : AC PR 14 [] [] (.ptr 0 0 0) (gH St.new) := by
  apply A14
  conv => whnf
  exact at_end [some 0, none, none, none]
theorem state_ok (s : St) (hz : StSz s) (hn : s.next ≠ 0) : AC PR 20 [.ptr 0 0 0] (gH s) (stA s) (gH s) := by
  apply A20
  conv => whnf
  rw [decide_eq_false hn]
  conv => whnf
  refine call_fr (R := .agg [i64 s.clock, i64 s.next, .slc 5 0 s.machines.length none, .slc 6 0 s.queues.length none, .slc 7 0 s.jobs.length none]) [1, 2, 3] [] [rowsM s.machines, rowsQ s.queues, rowsJ s.jobs, rowsM s.machines, rowsQ s.queues, rowsJ s.jobs] (copyO_ok s hz) ?_
  conv => whnf
  exact at_end [some 0, some 1, some 2, some 3]
theorem state_z (s : St) (hn : s.next = 0) : AC PR 20 [.ptr 0 0 0] (gH s) (stA St.new) (gH s) := by
  apply A20
  conv => whnf
  rw [decide_eq_true hn]
  conv => whnf
  exact at_end [some 0, some 1, some 2, some 3]
theorem state_nil : AC PR 20 [.nilptr] [] (stA St.new) [] := by
  apply A20
  conv => whnf
  exact at_end []
theorem refuse_ok (e : Int) : AC PR 44 [i64 e] [] (anA ⟨e, []⟩) [] := by
  apply A44
  conv => whnf
  exact at_end []
abbrev no (e : Int) : An := ⟨e, []⟩
structure StW (s : St) : Prop extends StSz s where
  c0 : 0 ≤ s.clock
  c1 : s.clock ≤ 1073741824
  n0 : 0 ≤ s.next
  n1 : s.next ≤ 1073741824
def beatS (s : St) (k : Nat) : St := match s.machines[k]? with
  | some m => { s with machines := s.machines.set k { m with up := true, til := s.clock + 4 } }
  | none => s
def beatG (s : St) (name : ByteArray) : An × St := if machF s.machines name < 0 then (no 7, s) else (no 0, beatS s (machF s.machines name).toNat)
theorem idxB_lt {α : Type} (p : α → Bool) (l : List α) (h : ¬ idxB p l < 0) : (idxB p l).toNat < l.length ∧ idxB p l = ((idxB p l).toNat : Nat) ∧ ∃ x, l[(idxB p l).toNat]? = some x ∧ p x = true := by
  unfold idxB at h ⊢
  cases hf : l.findIdx? p with
  | none => rw [hf] at h; exact absurd (by decide) h
  | some i =>
    rw [List.findIdx?_eq_some_iff_getElem] at hf
    obtain ⟨hi, hp, _⟩ := hf
    exact ⟨hi, rfl, _, List.getElem?_eq_getElem hi, hp⟩
theorem beat_ok (s : St) (name : ByteArray) (hz : StW s) : AC PR 50 [.ptr 0 0 0, .str name] (gH s) (anA (beatG s name).1) (gH (beatG s name).2) := by
  have c1 := machine_ok s name hz.m
  have hB : beatG s name = if machF s.machines name < 0 then (no 7, s) else (no 0, beatS s (machF s.machines name).toNat) := rfl
  have hi := idxB_lt (fun m : Mc => decide (m.node.name = name)) s.machines
  rw [show idxB (fun m : Mc => decide (m.node.name = name)) s.machines = machF s.machines name from rfl] at hi
  have hc0 := hz.c0
  have hc1 := hz.c1
  generalize machF s.machines name = i at c1 hB hi
  apply A50
  conv => whnf
  refine call_fr [] [1, 2, 3] [] c1 ?_
  conv => whnf
  generalize hq : decide (i < 0) = q
  cases q
  case true =>
    rw [if_pos (of_decide_eq_true hq)] at hB
    rw [hB]
    conv => whnf
    refine call_closed (refuse_ok 7) ?_
    conv => whnf
    exact at_end [some 0, some 1, some 2, some 3]
  rw [if_neg (of_decide_eq_false hq)] at hB
  obtain ⟨hlt, e, x, hx, _⟩ := hi (of_decide_eq_false hq)
  generalize i.toNat = k at hlt e hx hB
  subst e
  have hS : beatS s k = { s with machines := s.machines.set k { x with up := true, til := s.clock + 4 } } := by unfold beatS; rw [hx]
  rw [hS] at hB
  rw [hB]
  conv => whnf
  repeat ((first | refine And.intro rfl ?_ | refine kA1 ?_ _ | refine kA2 ?_ _ | refine k_row gmA ?_ | refine k_cell gmA ?_ | refine e_row gmA rfl ?_ | refine k_el gmA (by omega) ?_ | refine k_some gmA ?_ | refine f_set _ rfl ?_ | refine kA8 ?_); conv => whnf)
  refine f_set (f := mcA) { x with up := true } rfl ?_
  conv => whnf
  have hx2 : (s.machines.set k { x with up := true })[k]? = some { x with up := true } := by rw [List.getElem?_set_self hlt]
  repeat (first
    | (refine And.intro rfl ?_; conv => whnf)
    | (refine k_idx ?_ _ rfl (by omega) (by omega); conv => whnf)
    | (refine k_row (get_map hx2) ?_; conv => whnf)
    | (refine k_some (get_map hx2) ?_; conv => whnf)
    | (refine w_i64 (by omega) ?_; conv => whnf))
  refine f_set (f := mcA) { x with up := true, til := s.clock + 4 } rfl ?_
  rw [List.set_set]
  conv => whnf
  exact at_end [some 0, some 1, some 2, some 3]
def upd {α : Type} (f : α → α) (k : Nat) (l : List α) : List α := (l.take k).map f ++ l.drop k
theorem upd_len {α : Type} (f : α → α) (k : Nat) (l : List α) : (upd f k l).length = l.length := by simp [upd]; omega
theorem upd_all {α : Type} (f : α → α) {k : Nat} {l : List α} (h : ¬ k < l.length) : upd f k l = l.map f := by
  unfold upd
  rw [List.take_of_length_le (by omega), List.drop_eq_nil_of_le (by omega), List.append_nil]
theorem upd_get {α : Type} (f : α → α) {k : Nat} {l : List α} {x : α} (h : l[k]? = some x) : (upd f k l)[k]? = some x := by
  have hk : k < l.length := (List.getElem?_eq_some_iff.1 h).1
  unfold upd
  rw [List.getElem?_append_right (by simp; omega)]
  simp only [List.length_map, List.length_take, List.getElem?_drop]
  rw [show k + (k - min k l.length) = k by omega, h]
theorem upd_succ {α : Type} (f : α → α) {k : Nat} {l : List α} {x : α} (h : l[k]? = some x) : upd f (k + 1) l = (upd f k l).set k (f x) := by
  have hk : k < l.length := (List.getElem?_eq_some_iff.1 h).1
  apply List.ext_getElem?
  intro i
  rw [List.getElem?_set]
  by_cases h1 : k = i
  · subst h1
    rw [if_pos rfl, if_pos (by rw [upd_len]; omega)]
    unfold upd
    rw [List.getElem?_append_left (by simp; omega), List.getElem?_map, List.getElem?_take, if_pos (by omega), h]; rfl
  · rw [if_neg h1]
    unfold upd
    by_cases h2 : i < k
    · rw [List.getElem?_append_left (by simp; omega), List.getElem?_append_left (by simp; omega)]
      simp only [List.getElem?_map, List.getElem?_take]
      rw [if_pos (by omega), if_pos (by omega)]
    · rw [List.getElem?_append_right (by simp; omega), List.getElem?_append_right (by simp; omega)]
      simp only [List.length_map, List.length_take, List.getElem?_drop]
      congr 1; omega
theorem upd_same {α : Type} (f : α → α) {k : Nat} {l : List α} {x : α} (h : l[k]? = some x) (hf : f x = x) : upd f (k + 1) l = upd f k l := by
  rw [upd_succ f h, hf]
  have := upd_get f h
  apply List.ext_getElem?
  intro i
  rw [List.getElem?_set]
  by_cases h1 : k = i
  · subst h1
    have hk : k < l.length := (List.getElem?_eq_some_iff.1 h).1
    rw [if_pos rfl, if_pos (by rw [upd_len]; omega), this]
  · rw [if_neg h1]
def rel1 (name : ByteArray) (j : Jb) : Jb := if j.node = name then { j with node := ⟨#[]⟩ } else j
def relA (name : ByteArray) (l : List Jb) : List Ac := (l.filter fun j => decide (j.node = name)).map fun j => ⟨3, j.task.name, name⟩
theorem relA_yes {name : ByteArray} {l : List Jb} {k : Nat} {x : Jb} (h : l[k]? = some x) (hx : x.node = name) : relA name (l.take (k + 1)) = relA name (l.take k) ++ [⟨3, x.task.name, name⟩] := by
  rw [List.take_add_one, h]
  unfold relA
  rw [List.filter_append, List.map_append]
  simp [hx]
theorem relA_no {name : ByteArray} {l : List Jb} {k : Nat} {x : Jb} (h : l[k]? = some x) (hx : ¬ x.node = name) : relA name (l.take (k + 1)) = relA name (l.take k) := by
  rw [List.take_add_one, h]
  unfold relA
  rw [List.filter_append, List.map_append]
  simp [hx]
theorem relA_len (name : ByteArray) (l : List Jb) : (relA name l).length ≤ l.length := by
  unfold relA
  rw [List.length_map]
  exact List.length_filter_le _ _
abbrev wj (s : St) (l : List Jb) : St := { s with jobs := l }
theorem release_ok (s : St) (name : ByteArray) (hz : StW s) : AC PR 91 [.ptr 0 0 0, .str name] (gH s) (acs (relA name s.jobs)) (gH (wj s (s.jobs.map (rel1 name)))) := by
  have hzj := hz.j
  apply A91
  conv => whnf
  refine loop_to s.jobs.length (fun k e H => e = [(0, .ptr 0 0 0), (1, .str name), (5, .slc 4 0 (relA name (s.jobs.take k)).length none), (12, .slc 3 0 s.jobs.length none), (13, i64 s.jobs.length), (14, i64 k)] ∧ H = gH (wj s (upd (rel1 name) k s.jobs)) ++ [some (.rows 61 3 ((relA name (s.jobs.take k)).map acA))]) ?_ ?_
  · rintro k e H hk ⟨rfl, rfl⟩
    have hul := upd_len (rel1 name) k s.jobs
    have hul2 : (wj s (upd (rel1 name) k s.jobs)).jobs.length = s.jobs.length := hul
    conv => whnf
    generalize hq : decide ((k : Int) < ((s.jobs.length : Nat) : Int)) = q
    cases q
    case false =>
      have hk2 : ¬ k < s.jobs.length := by have := of_decide_eq_false hq; omega
      rw [upd_all _ hk2, show s.jobs.take k = s.jobs from List.take_of_length_le (by omega)]
      conv => whnf
      exact at_end [some 0, some 1, some 2, some 3]
    have hk2 : k < s.jobs.length := by have := of_decide_eq_true hq; omega
    have hgo := List.getElem?_eq_getElem hk2
    generalize s.jobs[k] = x at hgo
    have hg2 := upd_get (rel1 name) hgo
    conv => whnf
    repeat ((first | refine And.intro rfl ?_ | refine kA1 ?_ _ | refine kA2 ?_ _ | refine k_row gmA ?_ | refine k_cell gmA ?_ | refine e_row gmA rfl ?_ | refine k_el gmA (by omega) ?_ | refine k_some gmA ?_ | refine f_set _ rfl ?_ | refine kA8 ?_); conv => whnf)
    generalize hq2 : decide (x.node = name) = q2
    cases q2
    case false =>
      have hx := of_decide_eq_false hq2
      conv => whnf
      repeat ((first | refine And.intro rfl ?_ | refine kA1 ?_ _ | refine kA2 ?_ _ | refine k_row gmA ?_ | refine k_cell gmA ?_ | refine e_row gmA rfl ?_ | refine k_el gmA (by omega) ?_ | refine k_some gmA ?_ | refine f_set _ rfl ?_ | refine kA8 ?_); conv => whnf)
      have e1 := upd_same (rel1 name) hgo (by unfold rel1; rw [if_neg hx])
      have e2 := relA_no hgo hx
      refine at_head [some 0, some 1, some 2, some 3, some 4] (gH (wj s (upd (rel1 name) k s.jobs)) ++ [some (.rows 61 3 ((relA name (s.jobs.take k)).map acA))]) [(0, .ptr 0 0 0), (1, .str name), (5, .slc 4 0 (relA name (s.jobs.take k)).length none), (12, .slc 3 0 s.jobs.length none), (13, i64 s.jobs.length), (14, i64 (k + 1 : Nat))] ⟨hk2, ?_, ?_⟩
      · rw [e2]
      · rw [e1, e2]
    have hx := of_decide_eq_true hq2
    have hrl := relA_len name (s.jobs.take k)
    have e1 := upd_succ (rel1 name) hgo
    rw [show rel1 name x = { x with node := ⟨#[]⟩ } by unfold rel1; rw [if_pos hx]] at e1
    have e2 := relA_yes hgo hx
    conv => whnf
    refine app_map (f := acA) (l := relA name (s.jobs.take k)) (new := [⟨3, x.task.name, name⟩]) rfl rfl (by omega) (by simp [roomBound] at hrl ⊢; omega) (fun _ => ?_) (fun h => absurd h (by omega))
    conv => whnf
    repeat ((first | refine And.intro rfl ?_ | refine kA1 ?_ _ | refine kA2 ?_ _ | refine k_row gmA ?_ | refine k_cell gmA ?_ | refine e_row gmA rfl ?_ | refine k_el gmA (by omega) ?_ | refine k_some gmA ?_ | refine f_set _ rfl ?_ | refine kA8 ?_); conv => whnf)
    refine f_set (f := jbA) { x with node := ⟨#[]⟩ } rfl ?_
    conv => whnf
    repeat ((first | refine And.intro rfl ?_ | refine kA1 ?_ _ | refine kA2 ?_ _ | refine k_row gmA ?_ | refine k_cell gmA ?_ | refine e_row gmA rfl ?_ | refine k_el gmA (by omega) ?_ | refine k_some gmA ?_ | refine f_set _ rfl ?_ | refine kA8 ?_); conv => whnf)
    rw [show (k : Int).toNat = k from rfl, ← e1]
    have hul3 : (wj s (upd (rel1 name) (k + 1) s.jobs)).jobs.length = s.jobs.length := upd_len ..
    refine at_head [some 0, some 1, some 2, some 3, some 7] (gH (wj s (upd (rel1 name) (k + 1) s.jobs)) ++ [some (.rows 61 3 ((relA name (s.jobs.take k) ++ [(⟨3, x.task.name, name⟩ : Ac)]).map acA))]) [(0, .ptr 0 0 0), (1, .str name), (5, .slc 4 0 (relA name (s.jobs.take k) ++ [(⟨3, x.task.name, name⟩ : Ac)]).length none), (12, .slc 3 0 s.jobs.length none), (13, i64 s.jobs.length), (14, i64 (k + 1 : Nat))] ⟨hk2, ?_, ?_⟩
    · rw [e2]
    · rw [e2]
  · conv => whnf
    exact at_head [some 0, some 1, some 2, some 3, none] (gH (wj s (upd (rel1 name) 0 s.jobs)) ++ [some (.rows 61 3 ((relA name (s.jobs.take 0)).map acA))]) _ ⟨rfl, rfl⟩
end Go.Am.Pt
end
