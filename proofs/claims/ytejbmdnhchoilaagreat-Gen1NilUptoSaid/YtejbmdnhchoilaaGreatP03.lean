/- Part of the proof: what functions of the program compute, walked. No conditions. -/
import Derived.Test.YtejbmdnhchoilaaGreatP02
set_option linter.unusedVariables false
set_option linter.unusedSimpArgs false
set_option maxRecDepth 100000
section
open Go Go.Am Go.Proofs
namespace Go.Am.Pt
def lastM (l : List Mc) : Nat → ByteArray
  | 0 => ⟨#[]⟩
  | j + 1 => match l[j]? with
    | some y => y.node.name
    | none => ⟨#[]⟩
def lastQ (l : List Qu) : Nat → ByteArray
  | 0 => ⟨#[]⟩
  | j + 1 => match l[j]? with
    | some y => y.name
    | none => ⟨#[]⟩
def okM1 (s : St) (i : Nat) (m : Mc) : Bool := nodeB m.node && !(decide (m.til < 0) || decide (1073741828 < m.til)) && strLt (lastM s.machines i) m.node.name && decide ((freeF m s.jobs).2 = 0)
def okM (s : St) (i : Nat) : Bool := match s.machines[i]? with
  | none => true
  | some m => okM1 s i m
def okQ1 (s : St) (i : Nat) (q : Qu) : Bool := queueB q && strLt (lastQ s.queues i) q.name && decide ((usedF s.jobs q.name).2 = 0) && fitsB (usedF s.jobs q.name).1 q.quota
def okQ (s : St) (i : Nat) : Bool := match s.queues[i]? with
  | none => true
  | some q => okQ1 s i q
def machinesB (s : St) : Bool := (List.range s.machines.length).all (okM s) && decide (s.machines.length ≤ 16)
def queuesB (s : St) : Bool := (List.range s.queues.length).all (okQ s) && decide (s.queues.length ≤ 8)
theorem all_false {p : Nat → Bool} {n k : Nat} (hk : k < n) (h : p k = false) : (List.range n).all p = false :=
  List.all_eq_false.2 ⟨k, List.mem_range.2 hk, by simp [h]⟩
theorem all_true {p : Nat → Bool} {n k : Nat} (hk : ¬ k < n) (h : ∀ j, j < k → p j = true) : (List.range n).all p = true :=
  List.all_eq_true.2 fun j hj => h j (by have := List.mem_range.1 hj; omega)
theorem machines_ok (st : St) (hz : StSz st) : AC PR 55 [stA st] [] (.bool (machinesB st)) [] := by
  have hm : (st.machines.map mcA).length = st.machines.length := List.length_map ..
  have hzm := hz.m
  have hB : machinesB st = ((List.range st.machines.length).all (okM st) && decide (st.machines.length ≤ 16)) := rfl
  generalize machinesB st = B at hB
  apply A55
  conv => whnf
  refine loop_to st.machines.length (fun k e H => (∀ j, j < k → okM st j = true) ∧ e = [(1, .ptr 0 0 0), (3, .str (lastM st.machines k)), (9, mcs st.machines), (10, i64 (st.machines.map mcA).length), (11, i64 k)] ∧ H = [some (.rows 31 5 [stA st])]) ?_ ?_
  · rintro k e H hk ⟨hn, rfl, rfl⟩
    conv => whnf
    generalize hq : decide ((k : Int) < ((st.machines.map mcA).length : Int)) = q
    cases q
    case false =>
      have hk2 : ¬ k < st.machines.length := by have := of_decide_eq_false hq; omega
      rw [all_true hk2 hn, Bool.true_and, ← hm] at hB
      conv => whnf
      rw [show decide ((st.machines.map mcA).length ≤ 16) = decide (((st.machines.map mcA).length : Int) ≤ 16) by
        by_cases h : (st.machines.map mcA).length ≤ 16
        · rw [decide_eq_true h, decide_eq_true (by omega)]
        · rw [decide_eq_false h, decide_eq_false (by omega)]] at hB
      exact at_end []
    have hk2 : k < st.machines.length := by have := of_decide_eq_true hq; omega
    have hgo := List.getElem?_eq_getElem hk2
    generalize st.machines[k] = x at hgo
    have hx : okM st k = okM1 st k x := by unfold okM; rw [hgo]
    have good : okM st k = true → ∀ j, j < k + 1 → okM st j = true := fun h j hj => by
      by_cases e : j = k
      · subst e; exact h
      · exact hn j (by omega)
    have bad : okM st k = false → B = false := fun h => by rw [hB, all_false hk2 h, Bool.false_and]
    have hl : lastM st.machines (k + 1) = x.node.name := by show (match st.machines[k]? with | some y => y.node.name | none => ⟨#[]⟩) = _; rw [hgo]
    unfold okM1 at hx
    have c1 := node_ok x.node
    have c2 := free_ok x st.jobs hz.j
    generalize nodeB x.node = q1 at hx c1
    generalize freeF x st.jobs = f at hx c2
    conv => whnf
    repeat ((first | refine And.intro rfl ?_ | refine kA1 ?_ _ | refine kA2 ?_ _ | refine k_row gmA ?_ | refine k_cell gmA ?_ | refine e_row gmA rfl ?_ | refine k_el gmA (by omega) ?_ | refine k_some gmA ?_ | refine f_set _ rfl ?_ | refine kA8 ?_); conv => whnf)
    refine call_closed c1 ?_
    conv => whnf
    cases q1 <;> conv => whnf
    · replace bad := bad hx
      exact at_end []
    generalize decide (x.til < 0) = p1 at hx
    cases p1 <;> conv => whnf
    case true =>
      replace bad := bad hx
      exact at_end []
    generalize decide (1073741828 < x.til) = p2 at hx
    cases p2 <;> conv => whnf
    case true =>
      replace bad := bad hx
      exact at_end []
    rw [le_not]
    generalize strLt (lastM st.machines k) x.node.name = p3 at hx
    cases p3 <;> conv => whnf
    · replace bad := bad hx
      exact at_end []
    repeat ((first | refine And.intro rfl ?_ | refine kA1 ?_ _ | refine kA2 ?_ _ | refine k_row gmA ?_ | refine k_cell gmA ?_ | refine e_row gmA rfl ?_ | refine k_el gmA (by omega) ?_ | refine k_some gmA ?_ | refine f_set _ rfl ?_ | refine kA8 ?_); conv => whnf)
    refine call_fr [] [] [] c2 ?_
    conv => whnf
    generalize decide (f.2 = 0) = p4 at hx
    cases p4 <;> conv => whnf
    · replace bad := bad hx
      exact at_end []
    refine w_as ((k + 1 : Nat) : Int) (by omega) (by omega) ?_
    conv => whnf
    exact at_head [some 0] _ [(1, .ptr 0 0 0), (3, .str x.node.name), (9, mcs st.machines), (10, i64 (st.machines.map mcA).length), (11, i64 (k + 1 : Nat))] ⟨by omega, good hx, by rw [hl], rfl⟩
  · conv => whnf
    exact at_head [some 0] _ [(1, .ptr 0 0 0), (3, .str ⟨#[]⟩), (9, mcs st.machines), (10, i64 (st.machines.map mcA).length), (11, i64 (0 : Nat))] ⟨by omega, rfl, rfl⟩
theorem queues_ok (st : St) (hz : StSz st) : AC PR 56 [stA st] [] (.bool (queuesB st)) [] := by
  have hm : (st.queues.map quR).length = st.queues.length := List.length_map ..
  have hzm := hz.q
  have hB : queuesB st = ((List.range st.queues.length).all (okQ st) && decide (st.queues.length ≤ 8)) := rfl
  generalize queuesB st = B at hB
  apply A56
  conv => whnf
  refine loop_to st.queues.length (fun k e H => (∀ j, j < k → okQ st j = true) ∧ e = [(1, .ptr 0 0 0), (3, .str (lastQ st.queues k)), (9, qus st.queues), (10, i64 (st.queues.map quR).length), (11, i64 k)] ∧ H = [some (.rows 31 5 [stA st])]) ?_ ?_
  · rintro k e H hk ⟨hn, rfl, rfl⟩
    conv => whnf
    generalize hq : decide ((k : Int) < ((st.queues.map quR).length : Int)) = q
    cases q
    case false =>
      have hk2 : ¬ k < st.queues.length := by have := of_decide_eq_false hq; omega
      rw [all_true hk2 hn, Bool.true_and, ← hm] at hB
      conv => whnf
      rw [show decide ((st.queues.map quR).length ≤ 8) = decide (((st.queues.map quR).length : Int) ≤ 8) by
        by_cases h : (st.queues.map quR).length ≤ 8
        · rw [decide_eq_true h, decide_eq_true (by omega)]
        · rw [decide_eq_false h, decide_eq_false (by omega)]] at hB
      exact at_end []
    have hk2 : k < st.queues.length := by have := of_decide_eq_true hq; omega
    have hgo := List.getElem?_eq_getElem hk2
    generalize st.queues[k] = x at hgo
    have hx : okQ st k = okQ1 st k x := by unfold okQ; rw [hgo]
    have good : okQ st k = true → ∀ j, j < k + 1 → okQ st j = true := fun h j hj => by
      by_cases e : j = k
      · subst e; exact h
      · exact hn j (by omega)
    have bad : okQ st k = false → B = false := fun h => by rw [hB, all_false hk2 h, Bool.false_and]
    have hl : lastQ st.queues (k + 1) = x.name := by show (match st.queues[k]? with | some y => y.name | none => ⟨#[]⟩) = _; rw [hgo]
    unfold okQ1 at hx
    have c1 := queue_ok x
    have c2 := used_ok st.jobs x.name hz.j
    have c3 := fits_ok (usedF st.jobs x.name).1 x.quota
    generalize queueB x = q1 at hx c1
    generalize usedF st.jobs x.name = f at hx c2 c3
    generalize fitsB f.1 x.quota = q3 at hx c3
    conv => whnf
    repeat ((first | refine And.intro rfl ?_ | refine kA1 ?_ _ | refine kA2 ?_ _ | refine k_row gmA ?_ | refine k_cell gmA ?_ | refine e_row gmA rfl ?_ | refine k_el gmA (by omega) ?_ | refine k_some gmA ?_ | refine f_set _ rfl ?_ | refine kA8 ?_); conv => whnf)
    refine call_closed c1 ?_
    conv => whnf
    cases q1 <;> conv => whnf
    · replace bad := bad hx
      exact at_end []
    rw [le_not]
    generalize strLt (lastQ st.queues k) x.name = p3 at hx
    cases p3 <;> conv => whnf
    · replace bad := bad hx
      exact at_end []
    repeat ((first | refine And.intro rfl ?_ | refine kA1 ?_ _ | refine kA2 ?_ _ | refine k_row gmA ?_ | refine k_cell gmA ?_ | refine e_row gmA rfl ?_ | refine k_el gmA (by omega) ?_ | refine k_some gmA ?_ | refine f_set _ rfl ?_ | refine kA8 ?_); conv => whnf)
    refine call_closed c2 ?_
    conv => whnf
    generalize decide (f.2 = 0) = p4 at hx
    cases p4 <;> conv => whnf
    · replace bad := bad hx
      exact at_end []
    refine call_closed c3 ?_
    conv => whnf
    cases q3 <;> conv => whnf
    · replace bad := bad hx
      exact at_end []
    refine w_as ((k + 1 : Nat) : Int) (by omega) (by omega) ?_
    conv => whnf
    exact at_head [some 0] _ [(1, .ptr 0 0 0), (3, .str x.name), (9, qus st.queues), (10, i64 (st.queues.map quR).length), (11, i64 (k + 1 : Nat))] ⟨by omega, good hx, by rw [hl], rfl⟩
  · conv => whnf
    exact at_head [some 0] _ [(1, .ptr 0 0 0), (3, .str ⟨#[]⟩), (9, qus st.queues), (10, i64 (st.queues.map quR).length), (11, i64 (0 : Nat))] ⟨by omega, rfl, rfl⟩
theorem waits_ok (j : Jb) : AC PR 103 [jbA j] [] (.bool (decide (j.node = ⟨#[]⟩))) [] := by
  apply A103
  conv => whnf
  exact at_end []
def lastS (l : List Jb) : Nat → Int
  | 0 => 0
  | j + 1 => match l[j]? with
    | some y => y.seq
    | none => 0
def okJ1 (s : St) (i : Nat) (j : Jb) : Bool := taskB j.task && !decide (j.seq ≤ lastS s.jobs i) && !decide (s.next ≤ j.seq) && !decide (j.bound < 0) && !decide (1099511627776 < j.bound) && decide (findJ s.jobs j.task.name = i) && !decide (quF s.queues j.task.queue < 0) && (decide (j.node = ⟨#[]⟩) || standsB s i)
def okJ (s : St) (i : Nat) : Bool := match s.jobs[i]? with
  | none => true
  | some j => okJ1 s i j
def jobsB (s : St) : Bool := (List.range s.jobs.length).all (okJ s) && decide (s.jobs.length ≤ 48)
theorem jobs_ok (st : St) (hz : StSz st) : AC PR 57 [stA st] [] (.bool (jobsB st)) [] := by
  have hm : (st.jobs.map jbA).length = st.jobs.length := List.length_map ..
  have hzm := hz.j
  have hB : jobsB st = ((List.range st.jobs.length).all (okJ st) && decide (st.jobs.length ≤ 48)) := rfl
  generalize jobsB st = B at hB
  apply A57
  conv => whnf
  refine loop_to st.jobs.length (fun k e H => (∀ j, j < k → okJ st j = true) ∧ e = [(1, .ptr 0 0 0), (3, i64 (lastS st.jobs k)), (7, jbs st.jobs), (8, i64 (st.jobs.map jbA).length), (9, i64 k)] ∧ H = [some (.rows 31 5 [stA st])]) ?_ ?_
  · rintro k e H hk ⟨hn, rfl, rfl⟩
    conv => whnf
    generalize hq : decide ((k : Int) < ((st.jobs.map jbA).length : Int)) = q
    cases q
    case false =>
      have hk2 : ¬ k < st.jobs.length := by have := of_decide_eq_false hq; omega
      rw [all_true hk2 hn, Bool.true_and, ← hm] at hB
      conv => whnf
      rw [show decide ((st.jobs.map jbA).length ≤ 48) = decide (((st.jobs.map jbA).length : Int) ≤ 48) by
        by_cases h : (st.jobs.map jbA).length ≤ 48
        · rw [decide_eq_true h, decide_eq_true (by omega)]
        · rw [decide_eq_false h, decide_eq_false (by omega)]] at hB
      exact at_end []
    have hk2 : k < st.jobs.length := by have := of_decide_eq_true hq; omega
    have hgo := List.getElem?_eq_getElem hk2
    have hc8 := stands_ok st hz k hk2
    generalize st.jobs[k] = x at hgo
    have hx : okJ st k = okJ1 st k x := by unfold okJ; rw [hgo]
    have good : okJ st k = true → ∀ j, j < k + 1 → okJ st j = true := fun h j hj => by
      by_cases e : j = k
      · subst e; exact h
      · exact hn j (by omega)
    have bad : okJ st k = false → B = false := fun h => by rw [hB, all_false hk2 h, Bool.false_and]
    have hl : lastS st.jobs (k + 1) = x.seq := by show (match st.jobs[k]? with | some y => y.seq | none => 0) = _; rw [hgo]
    unfold okJ1 at hx
    have c1 := task_ok x.task
    have c2 := find_ok st.jobs x.task.name hz.j
    have c3 := queueF_ok st x.task.queue hz.q
    have c4 := waits_ok x
    generalize taskB x.task = q1 at hx c1
    generalize findJ st.jobs x.task.name = f at hx c2
    generalize quF st.queues x.task.queue = g at hx c3
    generalize standsB st k = q8 at hx hc8
    conv => whnf
    repeat ((first | refine And.intro rfl ?_ | refine kA1 ?_ _ | refine kA2 ?_ _ | refine k_row gmA ?_ | refine k_cell gmA ?_ | refine e_row gmA rfl ?_ | refine k_el gmA (by omega) ?_ | refine k_some gmA ?_ | refine f_set _ rfl ?_ | refine kA8 ?_); conv => whnf)
    refine call_closed c1 ?_
    conv => whnf
    cases q1 <;> conv => whnf
    · replace bad := bad hx
      exact at_end []
    generalize decide (x.seq ≤ lastS st.jobs k) = p1 at hx
    cases p1 <;> conv => whnf
    case true =>
      replace bad := bad hx
      exact at_end []
    generalize decide (st.next ≤ x.seq) = p1 at hx
    cases p1 <;> conv => whnf
    case true =>
      replace bad := bad hx
      exact at_end []
    generalize decide (x.bound < 0) = p1 at hx
    cases p1 <;> conv => whnf
    case true =>
      replace bad := bad hx
      exact at_end []
    generalize decide (1099511627776 < x.bound) = p1 at hx
    cases p1 <;> conv => whnf
    case true =>
      replace bad := bad hx
      exact at_end []
    repeat ((first | refine And.intro rfl ?_ | refine kA1 ?_ _ | refine kA2 ?_ _ | refine k_row gmA ?_ | refine k_cell gmA ?_ | refine e_row gmA rfl ?_ | refine k_el gmA (by omega) ?_ | refine k_some gmA ?_ | refine f_set _ rfl ?_ | refine kA8 ?_); conv => whnf)
    refine call_closed c2 ?_
    conv => whnf
    generalize decide (f = (k : Int)) = p1 at hx
    cases p1 <;> conv => whnf
    · replace bad := bad hx
      exact at_end []
    refine call_closed c3 ?_
    conv => whnf
    generalize decide (g < 0) = p1 at hx
    cases p1 <;> conv => whnf
    case true =>
      replace bad := bad hx
      exact at_end []
    repeat ((first | refine And.intro rfl ?_ | refine kA1 ?_ _ | refine kA2 ?_ _ | refine k_row gmA ?_ | refine k_cell gmA ?_ | refine e_row gmA rfl ?_ | refine k_el gmA (by omega) ?_ | refine k_some gmA ?_ | refine f_set _ rfl ?_ | refine kA8 ?_); conv => whnf)
    refine call_closed c4 ?_
    conv => whnf
    generalize decide (x.node = ⟨#[]⟩) = p5 at hx
    cases p5 <;> conv => whnf
    · repeat ((first | refine And.intro rfl ?_ | refine kA1 ?_ _ | refine kA2 ?_ _ | refine k_row gmA ?_ | refine k_cell gmA ?_ | refine e_row gmA rfl ?_ | refine k_el gmA (by omega) ?_ | refine k_some gmA ?_ | refine f_set _ rfl ?_ | refine kA8 ?_); conv => whnf)
      refine call_closed hc8 ?_
      conv => whnf
      cases q8 <;> conv => whnf
      · replace bad := bad hx
        exact at_end []
      refine w_as ((k + 1 : Nat) : Int) (by omega) (by omega) ?_
      conv => whnf
      exact at_head [some 0] _ [(1, .ptr 0 0 0), (3, i64 x.seq), (7, jbs st.jobs), (8, i64 (st.jobs.map jbA).length), (9, i64 (k + 1 : Nat))] ⟨by omega, good hx, by rw [hl], rfl⟩
    · refine w_as ((k + 1 : Nat) : Int) (by omega) (by omega) ?_
      conv => whnf
      exact at_head [some 0] _ [(1, .ptr 0 0 0), (3, i64 x.seq), (7, jbs st.jobs), (8, i64 (st.jobs.map jbA).length), (9, i64 (k + 1 : Nat))] ⟨by omega, good hx, by rw [hl], rfl⟩
  · conv => whnf
    exact at_head [some 0] _ [(1, .ptr 0 0 0), (3, i64 0), (7, jbs st.jobs), (8, i64 (st.jobs.map jbA).length), (9, i64 (0 : Nat))] ⟨by omega, rfl, rfl⟩
def stB (s : St) : Bool := !(decide (s.clock < 0) || decide (1073741824 < s.clock) || decide (s.next < 1) || decide (1073741824 < s.next)) && machinesB s && queuesB s && jobsB s
theorem stRight_ok (st : St) (hz : StSz st) : AC PR 21 [stA st] [] (.bool (stB st)) [] := by
  have hB : stB st = (!(decide (st.clock < 0) || decide (1073741824 < st.clock) || decide (st.next < 1) || decide (1073741824 < st.next)) && machinesB st && queuesB st && jobsB st) := rfl
  have c1 := machines_ok st hz
  have c2 := queues_ok st hz
  have c3 := jobs_ok st hz
  generalize stB st = B at hB
  generalize machinesB st = q1 at hB c1
  generalize queuesB st = q2 at hB c2
  generalize jobsB st = q3 at hB c3
  apply A21
  conv => whnf
  generalize decide (st.clock < 0) = p1 at hB
  cases p1 <;> conv => whnf
  case true => exact at_end []
  generalize decide (1073741824 < st.clock) = p1 at hB
  cases p1 <;> conv => whnf
  case true => exact at_end []
  generalize decide (st.next < 1) = p1 at hB
  cases p1 <;> conv => whnf
  case true => exact at_end []
  generalize decide (1073741824 < st.next) = p1 at hB
  cases p1 <;> conv => whnf
  case true => exact at_end []
  refine call_closed (c1) ?_
  conv => whnf
  cases q1 <;> conv => whnf
  · exact at_end []
  refine call_closed (c2) ?_
  conv => whnf
  cases q2 <;> conv => whnf
  · exact at_end []
  refine call_closed (c3) ?_
  conv => whnf
  exact at_end []
theorem Go'.preR {n0 : Nat} {src : List (Option Nat)} {H : AHeap} {fz : Nat → Prop} {t sz : Nat} {rs rs' : List AV} (hp : rs' <+: rs) (h : ∀ r ∈ rs', Bel n0 r) : Go' n0 src H fz (.rows t sz rs) (.rows t sz rs') := by
  obtain ⟨r, rfl⟩ := hp
  have := Go'.take (n0 := n0) (src := src) (H := H) (fz := fz) t sz (rs' ++ r) rs'.length fun x hx => h x (by simpa using hx)
  simpa using this
theorem clr_raw {zero : AV} {t sz id i m : Nat} {H : AHeap} {rs : List AV} {k : AHeap → Prop} (hH : H[id]? = some (some (.rows t sz rs))) (hi : i + m ≤ rs.length) (hc : zero.cells.length = sz)
    (hk : k (H.set id (some (.rows t sz (rs.take i ++ List.replicate m zero ++ rs.drop (i + m)))))) : OptK (aClear zero (.slc id i m none) H) k := by
  refine k_some (v := H.set id (some (.rows t sz (rs.take i ++ List.replicate m zero ++ rs.drop (i + m))))) ?_ hk
  simp [aClear, hH, hi, hc]
theorem Go'.setF {n0 : Nat} {src : List (Option Nat)} {H : AHeap} {fz : Nat → Prop} {t sz : Nat} {α : Type} {f : α → AV} {l : List α} {k : Nat} {x : α} {r : AV} (hx : l[k]? = some x) (hb : ∀ a, Bel n0 (f a)) (h : Gv n0 src H fz r (f x)) : Go' n0 src H fz (.rows t sz ((l.map f).set k r)) (.rows t sz (l.map f)) := by
  refine .rows _ _ _ _ (by simp) fun i a b ha hb' => ?_
  rw [List.getElem?_set] at ha
  split at ha
  · rename_i e
    subst e
    rw [List.getElem?_map, hx] at hb'
    split at ha
    · cases ha; cases hb'; exact h
    · cases ha
  · rw [ha] at hb'
    cases hb'
    obtain ⟨y, _, rfl⟩ := List.mem_map.1 (List.mem_of_getElem? ha)
    exact .same _ (hb y)
theorem f_raw {l : List AV} {k : List AV → Prop} (hk : k l) : forceS l k := by rw [forceS_eq]; exact hk
theorem cloneJ_ok (l : List Jb) (hl : (l.length : Int) ≤ 1000000) : AC PR 63 [.lst 13 (l.map jbA) none] [] (.slc 0 0 l.length none) [some (.rows 63 13 (l.map jbA))] := by
  apply A63
  cases l with
  | nil =>
    conv => whnf
    refine nil_both rfl ?_
    intro b
    cases b
    case true =>
      conv => whnf
      exact at_end [none]
    conv => whnf
    refine app_map (f := jbA) (l := []) (new := []) rfl rfl (by simp) (by decide) (fun _ => ?_) (fun h => absurd h (by simp))
    conv => whnf
    exact at_end [some 1]
  | cons x l =>
    conv => whnf
    refine nil_is (b := false) rfl ?_
    conv => whnf
    refine app_map (f := jbA) (l := []) (new := x :: l) rfl rfl (by simp) (by simp only [List.length_replicate]; unfold roomBound; omega) (fun _ => ?_) (fun h => absurd h (by simp))
    conv => whnf
    exact at_end [some 1]
theorem cloneJ_own (l : List Jb) (hl : (l.length : Int) ≤ 1000000) : AC PR 63 [.slc 0 0 l.length none] [some (.rows 63 13 (l.map jbA))] (.slc 1 0 l.length none) [some (.rows 63 13 (l.map jbA)), some (.rows 63 13 (l.map jbA))] := by
  apply A63
  cases l with
  | nil =>
    conv => whnf
    refine nil_both rfl ?_
    intro b
    cases b
    case true =>
      conv => whnf
      exact at_end [some 0, none]
    conv => whnf
    refine app_map (f := jbA) (l := []) (new := []) rfl rfl (by simp) (by decide) (fun _ => ?_) (fun h => absurd h (by simp))
    conv => whnf
    exact at_end [some 0, some 2]
  | cons x l =>
    conv => whnf
    refine nil_is (b := false) rfl ?_
    conv => whnf
    refine app_map (f := jbA) (l := []) (new := x :: l) rfl (view_o (l := x :: l) rfl (by simp) (by simp)) (by simp) (by simp only [List.length_replicate]; unfold roomBound; omega) (fun _ => ?_) (fun h => absurd h (by simp))
    conv => whnf
    exact at_end [some 0, some 2]
theorem cloneM_ok (l : List Mc) (hl : (l.length : Int) ≤ 1000000) : AC PR 60 [.lst 7 (l.map mcA) none] [] (.slc 0 0 l.length none) [some (.rows 57 7 (l.map mcA))] := by
  apply A60
  cases l with
  | nil =>
    conv => whnf
    refine nil_both rfl ?_
    intro b
    cases b
    case true =>
      conv => whnf
      exact at_end [none]
    conv => whnf
    refine app_map (f := mcA) (l := []) (new := []) rfl rfl (by simp) (by decide) (fun _ => ?_) (fun h => absurd h (by simp))
    conv => whnf
    exact at_end [some 1]
  | cons x l =>
    conv => whnf
    refine nil_is (b := false) rfl ?_
    conv => whnf
    refine app_map (f := mcA) (l := []) (new := x :: l) rfl rfl (by simp) (by simp only [List.length_replicate]; unfold roomBound; omega) (fun _ => ?_) (fun h => absurd h (by simp))
    conv => whnf
    exact at_end [some 1]
theorem cloneM_own (l : List Mc) (hl : (l.length : Int) ≤ 1000000) : AC PR 60 [.slc 0 0 l.length none] [some (.rows 57 7 (l.map mcA))] (.slc 1 0 l.length none) [some (.rows 57 7 (l.map mcA)), some (.rows 57 7 (l.map mcA))] := by
  apply A60
  cases l with
  | nil =>
    conv => whnf
    refine nil_both rfl ?_
    intro b
    cases b
    case true =>
      conv => whnf
      exact at_end [some 0, none]
    conv => whnf
    refine app_map (f := mcA) (l := []) (new := []) rfl rfl (by simp) (by decide) (fun _ => ?_) (fun h => absurd h (by simp))
    conv => whnf
    exact at_end [some 0, some 2]
  | cons x l =>
    conv => whnf
    refine nil_is (b := false) rfl ?_
    conv => whnf
    refine app_map (f := mcA) (l := []) (new := x :: l) rfl (view_o (l := x :: l) rfl (by simp) (by simp)) (by simp) (by simp only [List.length_replicate]; unfold roomBound; omega) (fun _ => ?_) (fun h => absurd h (by simp))
    conv => whnf
    exact at_end [some 0, some 2]
theorem cloneQ_ok (l : List Qu) (hl : (l.length : Int) ≤ 1000000) : AC PR 62 [.lst 4 (l.map quR) none] [] (.slc 0 0 l.length none) [some (.rows 45 4 (l.map quR))] := by
  apply A62
  cases l with
  | nil =>
    conv => whnf
    refine nil_both rfl ?_
    intro b
    cases b
    case true =>
      conv => whnf
      exact at_end [none]
    conv => whnf
    refine app_map (f := quR) (l := []) (new := []) rfl rfl (by simp) (by decide) (fun _ => ?_) (fun h => absurd h (by simp))
    conv => whnf
    exact at_end [some 1]
  | cons x l =>
    conv => whnf
    refine nil_is (b := false) rfl ?_
    conv => whnf
    refine app_map (f := quR) (l := []) (new := x :: l) rfl rfl (by simp) (by simp only [List.length_replicate]; unfold roomBound; omega) (fun _ => ?_) (fun h => absurd h (by simp))
    conv => whnf
    exact at_end [some 1]
theorem cloneQ_own (l : List Qu) (hl : (l.length : Int) ≤ 1000000) : AC PR 62 [.slc 0 0 l.length none] [some (.rows 45 4 (l.map quR))] (.slc 1 0 l.length none) [some (.rows 45 4 (l.map quR)), some (.rows 45 4 (l.map quR))] := by
  apply A62
  cases l with
  | nil =>
    conv => whnf
    refine nil_both rfl ?_
    intro b
    cases b
    case true =>
      conv => whnf
      exact at_end [some 0, none]
    conv => whnf
    refine app_map (f := quR) (l := []) (new := []) rfl rfl (by simp) (by decide) (fun _ => ?_) (fun h => absurd h (by simp))
    conv => whnf
    exact at_end [some 0, some 2]
  | cons x l =>
    conv => whnf
    refine nil_is (b := false) rfl ?_
    conv => whnf
    refine app_map (f := quR) (l := []) (new := x :: l) rfl (view_o (l := x :: l) rfl (by simp) (by simp)) (by simp) (by simp only [List.length_replicate]; unfold roomBound; omega) (fun _ => ?_) (fun h => absurd h (by simp))
    conv => whnf
    exact at_end [some 0, some 2]
theorem cloneL_ok (l : List Lb) (hl : (l.length : Int) ≤ 1000000) : AC PR 61 [.lst 2 (l.map lb) none] [] (.slc 0 0 l.length none) [some (.rows 65 2 (l.map lb))] := by
  apply A61
  cases l with
  | nil =>
    conv => whnf
    refine nil_both rfl ?_
    intro b
    cases b
    case true =>
      conv => whnf
      exact at_end [none]
    conv => whnf
    refine app_map (f := lb) (l := []) (new := []) rfl rfl (by simp) (by decide) (fun _ => ?_) (fun h => absurd h (by simp))
    conv => whnf
    exact at_end [some 1]
  | cons x l =>
    conv => whnf
    refine nil_is (b := false) rfl ?_
    conv => whnf
    refine app_map (f := lb) (l := []) (new := x :: l) rfl rfl (by simp) (by simp only [List.length_replicate]; unfold roomBound; omega) (fun _ => ?_) (fun h => absurd h (by simp))
    conv => whnf
    exact at_end [some 1]
theorem cloneI_ok (l : List Int) (hl : (l.length : Int) ≤ 1000000) : AC PR 165 [.lst 1 (l.map i64) none] [] (.slc 0 0 l.length none) [some (.rows 3 1 (l.map i64))] := by
  apply A165
  cases l with
  | nil =>
    conv => whnf
    refine nil_both rfl ?_
    intro b
    cases b
    case true =>
      conv => whnf
      exact at_end [none]
    conv => whnf
    refine app_map (f := i64) (l := []) (new := []) rfl rfl (by simp) (by decide) (fun _ => ?_) (fun h => absurd h (by simp))
    conv => whnf
    exact at_end [some 1]
  | cons x l =>
    conv => whnf
    refine nil_is (b := false) rfl ?_
    conv => whnf
    refine app_map (f := i64) (l := []) (new := x :: l) rfl rfl (by simp) (by simp only [List.length_replicate]; unfold roomBound; omega) (fun _ => ?_) (fun h => absurd h (by simp))
    conv => whnf
    exact at_end [some 1]
theorem deleteJ_ok (l : List Jb) (k : Nat) (hk : k < l.length) (hl : (l.length : Int) ≤ 1000000) : AC PR 104 [.slc 0 0 l.length none, i64 k, i64 (k + 1 : Nat)] [some (.rows 63 13 (l.map jbA))] (.slc 0 0 (l.length - 1) none) [some (.rows 63 13 ((l.eraseIdx k).map jbA))] := by
  apply A104
  conv => whnf
  refine k_eq (sl_3_eq rfl (by omega) (by omega) (by omega) (by simp)) ?_
  conv => whnf
  generalize hq : decide ((k : Int) = ((k + 1 : Nat) : Int)) = q
  cases q
  case true => exact absurd (of_decide_eq_true hq) (by omega)
  conv => whnf
  refine k_eq (sl_hi_eq rfl (by omega) (by simp; omega)) ?_
  conv => whnf
  refine k_eq (sl_lo_eq rfl (by omega) (by omega) (by simp)) ?_
  conv => whnf
  refine app_map (f := jbA) (l := l) (new := l.drop (k + 1)) rfl (view_o (l := l) rfl (by omega) (by rw [List.take_of_length_le (by simp)]; rfl)) (by omega) (by simp [roomBound]; omega) (fun h => absurd h (by omega)) (fun h => ⟨by simp; omega, ?_⟩)
  have e1 : (k : Int).toNat + (l.drop (k + 1)).length = l.length - 1 := by simp; omega
  rw [e1]
  conv => whnf
  refine k_eq (sl_lohi_eq rfl (by omega) (by omega) (by simp; omega)) ?_
  conv => whnf
  refine clr_raw rfl (by simp; omega) rfl ?_
  conv => whnf
  refine at_end [some 0] (hN := ⟨⟨_, rfl, Go'.preR ?_ ?_⟩, trivial⟩)
  · have hA : (l.take k ++ l.drop (k + 1)).length = l.length - 1 := by simp; omega
    have hT : ∀ X : List Jb, (l.take k ++ l.drop (k + 1) ++ X).take (l.length - 1) = l.take k ++ l.drop (k + 1) := fun X => by rw [← hA, List.take_left]
    rw [List.eraseIdx_eq_take_drop_succ, show ((k : Int)).toNat = k from rfl, show (((l.length - 1 : Nat) : Int)).toNat = l.length - 1 from rfl, ← List.map_take, hT, List.append_assoc]
    exact List.prefix_append _ _
  · intro r hr
    obtain ⟨a, _, rfl⟩ := List.mem_map.1 hr
    simp
theorem deleteM_ok (l : List Mc) (k : Nat) (hk : k < l.length) (hl : (l.length : Int) ≤ 1000000) : AC PR 92 [.slc 0 0 l.length none, i64 k, i64 (k + 1 : Nat)] [some (.rows 57 7 (l.map mcA))] (.slc 0 0 (l.length - 1) none) [some (.rows 57 7 ((l.eraseIdx k).map mcA))] := by
  apply A92
  conv => whnf
  refine k_eq (sl_3_eq rfl (by omega) (by omega) (by omega) (by simp)) ?_
  conv => whnf
  generalize hq : decide ((k : Int) = ((k + 1 : Nat) : Int)) = q
  cases q
  case true => exact absurd (of_decide_eq_true hq) (by omega)
  conv => whnf
  refine k_eq (sl_hi_eq rfl (by omega) (by simp; omega)) ?_
  conv => whnf
  refine k_eq (sl_lo_eq rfl (by omega) (by omega) (by simp)) ?_
  conv => whnf
  refine app_map (f := mcA) (l := l) (new := l.drop (k + 1)) rfl (view_o (l := l) rfl (by omega) (by rw [List.take_of_length_le (by simp)]; rfl)) (by omega) (by simp [roomBound]; omega) (fun h => absurd h (by omega)) (fun h => ⟨by simp; omega, ?_⟩)
  have e1 : (k : Int).toNat + (l.drop (k + 1)).length = l.length - 1 := by simp; omega
  rw [e1]
  conv => whnf
  refine k_eq (sl_lohi_eq rfl (by omega) (by omega) (by simp; omega)) ?_
  conv => whnf
  refine clr_raw rfl (by simp; omega) rfl ?_
  conv => whnf
  refine at_end [some 0] (hN := ⟨⟨_, rfl, Go'.preR ?_ ?_⟩, trivial⟩)
  · have hA : (l.take k ++ l.drop (k + 1)).length = l.length - 1 := by simp; omega
    have hT : ∀ X : List Mc, (l.take k ++ l.drop (k + 1) ++ X).take (l.length - 1) = l.take k ++ l.drop (k + 1) := fun X => by rw [← hA, List.take_left]
    rw [List.eraseIdx_eq_take_drop_succ, show ((k : Int)).toNat = k from rfl, show (((l.length - 1 : Nat) : Int)).toNat = l.length - 1 from rfl, ← List.map_take, hT, List.append_assoc]
    exact List.prefix_append _ _
  · intro r hr
    obtain ⟨a, _, rfl⟩ := List.mem_map.1 hr
    simp
theorem deleteQ_ok (l : List Qu) (k : Nat) (hk : k < l.length) (hl : (l.length : Int) ≤ 1000000) : AC PR 99 [.slc 0 0 l.length none, i64 k, i64 (k + 1 : Nat)] [some (.rows 45 4 (l.map quR))] (.slc 0 0 (l.length - 1) none) [some (.rows 45 4 ((l.eraseIdx k).map quR))] := by
  apply A99
  conv => whnf
  refine k_eq (sl_3_eq rfl (by omega) (by omega) (by omega) (by simp)) ?_
  conv => whnf
  generalize hq : decide ((k : Int) = ((k + 1 : Nat) : Int)) = q
  cases q
  case true => exact absurd (of_decide_eq_true hq) (by omega)
  conv => whnf
  refine k_eq (sl_hi_eq rfl (by omega) (by simp; omega)) ?_
  conv => whnf
  refine k_eq (sl_lo_eq rfl (by omega) (by omega) (by simp)) ?_
  conv => whnf
  refine app_map (f := quR) (l := l) (new := l.drop (k + 1)) rfl (view_o (l := l) rfl (by omega) (by rw [List.take_of_length_le (by simp)]; rfl)) (by omega) (by simp [roomBound]; omega) (fun h => absurd h (by omega)) (fun h => ⟨by simp; omega, ?_⟩)
  have e1 : (k : Int).toNat + (l.drop (k + 1)).length = l.length - 1 := by simp; omega
  rw [e1]
  conv => whnf
  refine k_eq (sl_lohi_eq rfl (by omega) (by omega) (by simp; omega)) ?_
  conv => whnf
  refine clr_raw rfl (by simp; omega) rfl ?_
  conv => whnf
  refine at_end [some 0] (hN := ⟨⟨_, rfl, Go'.preR ?_ ?_⟩, trivial⟩)
  · have hA : (l.take k ++ l.drop (k + 1)).length = l.length - 1 := by simp; omega
    have hT : ∀ X : List Qu, (l.take k ++ l.drop (k + 1) ++ X).take (l.length - 1) = l.take k ++ l.drop (k + 1) := fun X => by rw [← hA, List.take_left]
    rw [List.eraseIdx_eq_take_drop_succ, show ((k : Int)).toNat = k from rfl, show (((l.length - 1 : Nat) : Int)).toNat = l.length - 1 from rfl, ← List.map_take, hT, List.append_assoc]
    exact List.prefix_append _ _
  · intro r hr
    obtain ⟨a, _, rfl⟩ := List.mem_map.1 hr
    simp
end Go.Am.Pt
end
