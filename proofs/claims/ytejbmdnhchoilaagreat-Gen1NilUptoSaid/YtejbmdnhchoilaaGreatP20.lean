/- Part of the proof: what functions of the program compute, walked. No conditions. -/
import Derived.Test.YtejbmdnhchoilaaGreatCd
import Derived.Test.YtejbmdnhchoilaaGreatP19
set_option linter.unusedVariables false
set_option linter.unusedSimpArgs false
set_option maxRecDepth 100000
section
open Go Go.Am Go.Proofs
namespace Go.Am.Pt
def expG (s : St) (i : Nat) : List Ac × St := match s.machines[i]? with
  | none => ([], s)
  | some m => if (m.up && decide (m.til < s.clock)) = true then (relA m.node.name s.jobs, wj { s with machines := s.machines.set i { m with up := false } } (s.jobs.map (rel1 m.node.name))) else ([], s)
def expL : St → List Ac → List Nat → List Ac × St
  | s, ac, [] => (ac, s)
  | s, ac, i :: l => expL (expG s i).2 (ac ++ (expG s i).1) l
abbrev ckS (s : St) : St := { s with clock := s.clock + 1 }
def tickG (s : St) : An × St := if s.clock = 1073741824 then (no 6, s) else
  (⟨0, (expL (ckS s) [] (List.range s.machines.length)).1 ++ (passG (expL (ckS s) [] (List.range s.machines.length)).2).1⟩, (passG (expL (ckS s) [] (List.range s.machines.length)).2).2)
structure ExpK (s s' : St) : Prop where
  k : tkS s'.jobs = tkS s.jobs
  m : s'.machines.map (·.node) = s.machines.map (·.node)
  c : s'.clock = s.clock
  n : s'.next = s.next
  q : s'.queues = s.queues
theorem ExpK.refl (s : St) : ExpK s s := ⟨rfl, rfl, rfl, rfl, rfl⟩
theorem ExpK.trans {a b c : St} (h1 : ExpK a b) (h2 : ExpK b c) : ExpK a c := ⟨h2.k.trans h1.k, h2.m.trans h1.m, h2.c.trans h1.c, h2.n.trans h1.n, h2.q.trans h1.q⟩
theorem ExpK.ml {s s' : St} (h : ExpK s s') : s'.machines.length = s.machines.length := by simpa using congrArg List.length h.m
theorem ExpK.jl {s s' : St} (h : ExpK s s') : s'.jobs.length = s.jobs.length := tkS_len h.k
theorem ExpK.sw {s s' : St} (h : ExpK s s') (hz : StW s) : StW s' := by
  refine ⟨⟨by rw [h.ml]; exact hz.m, by rw [h.q]; exact hz.q, by rw [h.jl]; exact hz.j, fun m hm => ?_, tkS_mem (P := fun t => (t.wants.length : Int) ≤ 1000000) h.k hz.w⟩, by rw [h.c]; exact hz.c0, by rw [h.c]; exact hz.c1, by rw [h.n]; exact hz.n0, by rw [h.n]; exact hz.n1⟩
  have : m.node ∈ s'.machines.map (·.node) := List.mem_map_of_mem hm
  rw [h.m] at this
  obtain ⟨y, hy, e⟩ := List.mem_map.1 this
  rw [← e]; exact hz.l y hy
theorem ExpK.one {s s' : St} (h : ExpK s s') (hs : SeqOne s.jobs) : SeqOne s'.jobs := by
  unfold SeqOne
  rw [tkS_seq h.k]; exact hs
theorem tkS_rel (name : ByteArray) (l : List Jb) : tkS (l.map (rel1 name)) = tkS l := by
  unfold tkS
  rw [List.map_map]
  apply List.map_congr_left
  intro j _
  simp only [Function.comp]
  unfold rel1
  split <;> rfl
theorem node_set {l : List Mc} {i : Nat} {m y : Mc} (h : l[i]? = some m) (e : y.node = m.node) : (l.set i y).map (·.node) = l.map (·.node) := by
  apply List.ext_getElem?
  intro j
  rw [List.getElem?_map, List.getElem?_set, List.getElem?_map]
  have hp := (List.getElem?_eq_some_iff.1 h).1
  split
  · rename_i e2
    subst e2
    rw [h]
    simp [e, hp]
  · rfl
theorem expG_keeps (s : St) (i : Nat) : ExpK s (expG s i).2 ∧ (expG s i).1.length ≤ s.jobs.length := by
  unfold expG
  split
  · exact ⟨.refl s, Nat.zero_le _⟩
  · rename_i m hm
    split
    · exact ⟨⟨tkS_rel _ _, node_set hm rfl, rfl, rfl, rfl⟩, relA_len _ _⟩
    · exact ⟨.refl s, Nat.zero_le _⟩
theorem passL_keeps : ∀ (l : List (List Nat)) (s : St) (ac : List Ac) (n : Nat), (∀ u ∈ l, u.length ≤ n) → s.jobs.length ≤ n → PassK s (passL s ac l).2 ∧ (passL s ac l).1.length ≤ ac.length + l.length * (2 * n + 1)
  | [], s, ac, n, _, _ => ⟨.refl s, by simp [passL]⟩
  | u :: l, s, ac, n, h, hn => by
    obtain ⟨k1, k2⟩ := unitG_keeps s u
    obtain ⟨p1, p2⟩ := passL_keeps l (unitG s u).2 (ac ++ (unitG s u).1) n (fun v hv => h v (List.mem_cons_of_mem _ hv)) (by rw [k1.jl]; exact hn)
    have := h u (by simp)
    refine ⟨k1.trans p1, ?_⟩
    unfold passL
    simp only [List.length_append, List.length_cons, Nat.succ_mul] at p2 ⊢
    omega
theorem passG_keeps (s : St) (hjl : s.jobs.length < 60) : PassK s (passG s).2 ∧ (passG s).1.length ≤ 10000 := by
  obtain ⟨h1, h2⟩ := units_in s.jobs
  obtain ⟨p1, p2⟩ := passL_keeps (unitsF s.jobs) s [] 60 (fun u hu => by have := (h2 u hu).1; omega) (by omega)
  refine ⟨p1, ?_⟩
  unfold passG
  simp only [List.length_nil] at p2
  omega
theorem tick_ok (s : St) (hz : StW s) (hms : s.machines.length < 100) (hjl : s.jobs.length < 60) (hs : SeqOne s.jobs) : AC PR 51 [.ptr 0 0 0] (gH s) (anA (tickG s).1) (gK (tickG s).2) := by
  have hc0 := hz.c0
  have hc1 := hz.c1
  have hB : tickG s = if s.clock = 1073741824 then (no 6, s) else
    (⟨0, (expL (ckS s) [] (List.range s.machines.length)).1 ++ (passG (expL (ckS s) [] (List.range s.machines.length)).2).1⟩, (passG (expL (ckS s) [] (List.range s.machines.length)).2).2) := rfl
  apply A51
  conv => whnf
  generalize hq : decide (s.clock = 1073741824) = q
  cases q
  case true =>
    rw [if_pos (of_decide_eq_true hq)] at hB
    rw [hB]
    conv => whnf
    refine call_closed (refuse_ok 6) ?_
    conv => whnf
    exact at_end [some 0, some 1, some 2, some 3, some 1, some 2, some 3]
  have hne := of_decide_eq_false hq
  rw [if_neg hne] at hB
  have hz1 : StW (ckS s) := ⟨⟨hz.m, hz.q, hz.j, hz.l, hz.w⟩, by simp only; omega, by simp only; omega, hz.n0, hz.n1⟩
  conv => whnf
  refine w_i64 (by omega) ?_
  conv => whnf
  have hml := hz.m
  refine loop_to s.machines.length (fun k e H => ∃ s1 ac, expL s1 ac ((List.range s.machines.length).drop k) = expL (ckS s) [] (List.range s.machines.length) ∧ ExpK (ckS s) s1 ∧ ac.length ≤ 100 * k ∧ e = [(0, .ptr 0 0 0), (2, .ptr 4 0 0), (3, .slc 5 0 ac.length none), (26, .slc 1 0 s.machines.length none), (27, i64 s.machines.length), (28, i64 k)] ∧ H = gH s1 ++ [some (.rows 36 2 [.agg [i64 0, .nilslc]]), some (.rows 61 3 (ac.map acA))]) ?_ ?_
  · rintro k e H hk ⟨s1, ac, hR, hK, hA, rfl, rfl⟩
    have hjl1 : s1.jobs.length = s.jobs.length := hK.jl
    have hml1 : s1.machines.length = s.machines.length := hK.ml
    have hz2 := hK.sw hz1
    conv => whnf
    generalize hq : decide ((k : Int) < (s.machines.length : Int)) = q
    cases q
    case false =>
      have hk2 : ¬ k < s.machines.length := by have := of_decide_eq_false hq; omega
      rw [List.drop_eq_nil_of_le (by simp; omega)] at hR
      rw [← hR] at hB
      simp only [expL] at hB
      have c1 := pass_ok s1 hz2 (by omega) (by omega) (hK.one hs)
      obtain ⟨p1, p2⟩ := passG_keeps s1 (by omega)
      generalize passG s1 = pg at hB c1 p1 p2
      obtain ⟨pa, s2⟩ := pg
      simp only at hB c1 p1 p2
      rw [hB]
      conv => whnf
      refine call_fr (R := acs pa) [0, 1, 2, 3] [] [some (.rows 68 5 [gRowAt 6 7 8 s2]), none, none, none, rowsM s2.machines, rowsQ s2.queues, rowsJ s2.jobs] c1 ?_
      conv => whnf
      refine app_map (f := acA) (l := ac) (new := pa) rfl rfl (by omega) (by simp [roomBound] at *; omega) (fun _ => ?_) (fun h => absurd h (by omega))
      conv => whnf
      exact at_end [some 0, some 1, some 2, some 3, some 6, some 7, some 8]
    have hk2 : k < s.machines.length := by have := of_decide_eq_true hq; omega
    rw [List.drop_eq_getElem_cons (by simpa using hk2), List.getElem_range] at hR
    obtain ⟨m, hm⟩ : ∃ m, s1.machines[k]? = some m := ⟨_, List.getElem?_eq_getElem (by omega)⟩
    have hm' : s1.machines[((k : Nat) : Int).toNat]? = some m := hm
    obtain ⟨k1, k2⟩ := expG_keeps s1 k
    have hE : expG s1 k = if (m.up && decide (m.til < s1.clock)) = true then (relA m.node.name s1.jobs, wj { s1 with machines := s1.machines.set k { m with up := false } } (s1.jobs.map (rel1 m.node.name))) else ([], s1) := by
      unfold expG
      rw [hm]
    simp only [expL] at hR
    generalize expG s1 k = eg at hE hR k1 k2
    conv => whnf
    repeat ((first | refine And.intro rfl ?_ | refine kA1 ?_ _ | refine kA2 ?_ _ | refine k_row gmA ?_ | refine k_cell gmA ?_ | refine e_row gmA rfl ?_ | refine k_el gmA (by omega) ?_ | refine k_some gmA ?_ | refine f_set _ rfl ?_ | refine kA8 ?_); conv => whnf)
    generalize hu : m.up = b at hE
    cases b
    case false =>
      simp only [Bool.true_and, Bool.false_and, Bool.false_eq_true, if_false] at hE
      subst hE
      conv => whnf
      refine w_i64 (by omega) ?_
      conv => whnf
      exact at_head [some 0, some 1, some 2, some 3, some 4, some 5] (gH s1 ++ [some (.rows 36 2 [.agg [i64 0, .nilslc]]), some (.rows 61 3 ((ac ++ []).map acA))]) [(0, .ptr 0 0 0), (2, .ptr 4 0 0), (3, .slc 5 0 (ac ++ ([] : List Ac)).length none), (26, .slc 1 0 s.machines.length none), (27, i64 s.machines.length), (28, i64 (k + 1 : Nat))] ⟨hk2, s1, ac ++ [], hR, hK.trans k1, by simp only [List.length_append, List.length_nil]; omega, rfl, rfl⟩ (hN := by rw [List.append_nil]; exact autoG)
    conv => whnf
    repeat ((first | refine And.intro rfl ?_ | refine kA1 ?_ _ | refine kA2 ?_ _ | refine k_row gmA ?_ | refine k_cell gmA ?_ | refine e_row gmA rfl ?_ | refine k_el gmA (by omega) ?_ | refine k_some gmA ?_ | refine f_set _ rfl ?_ | refine kA8 ?_); conv => whnf)
    generalize hu2 : decide (m.til < s1.clock) = b2 at hE
    cases b2
    case false =>
      simp only [Bool.true_and, Bool.false_and, Bool.false_eq_true, if_false] at hE
      subst hE
      conv => whnf
      refine w_i64 (by omega) ?_
      conv => whnf
      exact at_head [some 0, some 1, some 2, some 3, some 4, some 5] (gH s1 ++ [some (.rows 36 2 [.agg [i64 0, .nilslc]]), some (.rows 61 3 ((ac ++ []).map acA))]) [(0, .ptr 0 0 0), (2, .ptr 4 0 0), (3, .slc 5 0 (ac ++ ([] : List Ac)).length none), (26, .slc 1 0 s.machines.length none), (27, i64 s.machines.length), (28, i64 (k + 1 : Nat))] ⟨hk2, s1, ac ++ [], hR, hK.trans k1, by simp only [List.length_append, List.length_nil]; omega, rfl, rfl⟩ (hN := by rw [List.append_nil]; exact autoG)
    simp only [Bool.true_and, if_true] at hE
    subst hE
    simp only at hR k1 k2
    conv => whnf
    repeat ((first | refine And.intro rfl ?_ | refine kA1 ?_ _ | refine kA2 ?_ _ | refine k_row gmA ?_ | refine k_cell gmA ?_ | refine e_row gmA rfl ?_ | refine k_el gmA (by omega) ?_ | refine k_some gmA ?_ | refine f_set _ rfl ?_ | refine kA8 ?_); conv => whnf)
    refine f_set (f := mcA) { m with up := false } rfl ?_
    conv => whnf
    have hml3 : (s1.machines.set k { m with up := false }).length = s1.machines.length := List.length_set ..
    have hz3 : StW { s1 with machines := s1.machines.set k { m with up := false } } := (⟨rfl, node_set hm rfl, rfl, rfl, rfl⟩ : ExpK s1 { s1 with machines := s1.machines.set k { m with up := false } }).sw hz2
    have c2 := release_ok { s1 with machines := s1.machines.set k { m with up := false } } m.node.name hz3
    have hjl3 : (s1.jobs.map (rel1 m.node.name)).length = s1.jobs.length := List.length_map ..
    generalize hs3 : s1.machines.set k { m with up := false } = ms at hml3 hz3 c2 hR k1
    simp only at c2
    rw [show ((k : Nat) : Int).toNat = k from rfl, hs3]
    conv => whnf
    refine call_fr (R := acs (relA m.node.name s1.jobs)) [0, 1, 2, 3] [] (gH (wj { s1 with machines := ms } (s1.jobs.map (rel1 m.node.name)))) c2 ?_
    conv => whnf
    refine app_map (f := acA) (l := ac) (new := relA m.node.name s1.jobs) rfl rfl (by omega) (by simp [roomBound] at *; omega) (fun _ => ?_) (fun h => absurd h (by omega))
    conv => whnf
    refine w_i64 (by omega) ?_
    conv => whnf
    exact at_head [some 0, some 1, some 2, some 3, some 4, some 7] (gH (wj { s1 with machines := ms } (s1.jobs.map (rel1 m.node.name))) ++ [some (.rows 36 2 [.agg [i64 0, .nilslc]]), some (.rows 61 3 ((ac ++ relA m.node.name s1.jobs).map acA))]) [(0, .ptr 0 0 0), (2, .ptr 4 0 0), (3, .slc 5 0 (ac ++ relA m.node.name s1.jobs).length none), (26, .slc 1 0 s.machines.length none), (27, i64 s.machines.length), (28, i64 (k + 1 : Nat))] ⟨hk2, _, ac ++ relA m.node.name s1.jobs, hR, hK.trans k1, by simp only [List.length_append]; omega, rfl, rfl⟩
  · conv => whnf
    exact at_head [some 0, some 1, some 2, some 3, some 4, none] (gH (ckS s) ++ [some (.rows 36 2 [.agg [i64 0, .nilslc]]), some (.rows 61 3 (([] : List Ac).map acA))]) _ ⟨ckS s, [], rfl, .refl _, Nat.zero_le _, rfl, rfl⟩
abbrev nxS (s : St) : St := { s with next := if s.next < 1 then 1 else s.next }
def doK (s : St) (o : Op') : An × St :=
  if o.kind = 1 then addNodeG s o.node else if o.kind = 2 then dropNodeG s o.name else if o.kind = 3 then addQueueG s o.queue else if o.kind = 4 then dropQueueG s o.name
  else if o.kind = 5 then submitG s o.task else if o.kind = 8 then beatG s o.name else if o.kind = 9 then tickG s else goneG s o.name o.kind
def doG (s : St) (o : Op') : An × St := if opR o = true then doK (nxS s) o else (no 1, s)
structure Fits (s : St) : Prop where
  w : StW s
  m : s.machines.length < 90
  q : s.queues.length < 90
  j : s.jobs.length < 60
  o : SeqOne s.jobs
theorem do_ok (s : St) (o : Op') (hs : Fits s) (ho : Sized o.task) (hn : (o.node.labels.length : Int) ≤ 1000000) (ht : (o.task.wants.length : Int) ≤ 1000000) : AC PR 18 [.ptr 0 0 0, opA o] (gH s) (anA (doG s o).1) (gK (doG s o).2) := by
  have c0 := opRight_ok o ho
  have hB : doG s o = if opR o = true then doK (nxS s) o else (no 1, s) := rfl
  have hn0 := hs.w.n0
  have hn1 := hs.w.n1
  generalize opR o = r at c0 hB
  apply A18
  conv => whnf
  repeat ((first | refine And.intro rfl ?_ | refine kA1 ?_ _ | refine kA2 ?_ _ | refine k_row gmA ?_ | refine k_cell gmA ?_ | refine e_row gmA rfl ?_ | refine k_el gmA (by omega) ?_ | refine k_some gmA ?_ | refine f_set _ rfl ?_ | refine kA8 ?_); conv => whnf)
  refine call_closed c0 ?_
  conv => whnf
  cases r
  case false =>
    simp only [Bool.false_eq_true, if_false] at hB
    rw [hB]
    conv => whnf
    refine call_closed (refuse_ok 1) ?_
    conv => whnf
    exact at_end [some 0, some 1, some 2, some 3, some 1, some 2, some 3]
  simp only [if_true] at hB
  conv => whnf
  have hw : StW (nxS s) := ⟨⟨hs.w.m, hs.w.q, hs.w.j, hs.w.l, hs.w.w⟩, hs.w.c0, hs.w.c1, by simp only; split <;> omega, by simp only; split <;> omega⟩
  have hm := hs.m
  have hq := hs.q
  have hj := hs.j
  have ho := hs.o
  unfold doK at hB
  generalize hq1 : decide (o.kind = 1) = q
  cases q
  case true =>
    rw [if_pos (of_decide_eq_true hq1)] at hB
    have c1 := addNode_ok (nxS s) o.node hw hn (by simp only; omega)
    rw [← hB] at c1
    generalize doG s o = d at c1
    obtain ⟨a, s2⟩ := d
    simp only at c1
    conv => whnf
    repeat ((first | refine And.intro rfl ?_ | refine kA1 ?_ _ | refine kA2 ?_ _ | refine k_row gmA ?_ | refine k_cell gmA ?_ | refine e_row gmA rfl ?_ | refine k_el gmA (by omega) ?_ | refine k_some gmA ?_ | refine f_set _ rfl ?_ | refine kA8 ?_); conv => whnf)
    refine call_fr (R := anA a) [0, 1, 2, 3] [] [some (.rows 68 5 [gRowAt 6 7 8 s2]), none, none, none, rowsM s2.machines, rowsQ s2.queues, rowsJ s2.jobs] c1 ?_
    conv => whnf
    exact at_end [some 0, some 1, some 2, some 3, some 6, some 7, some 8]
  rw [if_neg (of_decide_eq_false hq1)] at hB
  conv => whnf
  generalize hq2 : decide (o.kind = 2) = q
  cases q
  case true =>
    rw [if_pos (of_decide_eq_true hq2)] at hB
    have c1 := dropNode_ok (nxS s) o.name hw
    rw [← hB] at c1
    generalize doG s o = d at c1
    obtain ⟨a, s2⟩ := d
    simp only at c1
    conv => whnf
    repeat ((first | refine And.intro rfl ?_ | refine kA1 ?_ _ | refine kA2 ?_ _ | refine k_row gmA ?_ | refine k_cell gmA ?_ | refine e_row gmA rfl ?_ | refine k_el gmA (by omega) ?_ | refine k_some gmA ?_ | refine f_set _ rfl ?_ | refine kA8 ?_); conv => whnf)
    refine call_fr (R := anA a) [0, 1, 2, 3] [] (gH s2) c1 ?_
    conv => whnf
    exact at_end [some 0, some 1, some 2, some 3, some 1, some 2, some 3]
  rw [if_neg (of_decide_eq_false hq2)] at hB
  conv => whnf
  generalize hq3 : decide (o.kind = 3) = q
  cases q
  case true =>
    rw [if_pos (of_decide_eq_true hq3)] at hB
    have c1 := addQueue_ok (nxS s) o.queue hw (by simp only; omega)
    rw [← hB] at c1
    generalize doG s o = d at c1
    obtain ⟨a, s2⟩ := d
    simp only at c1
    conv => whnf
    repeat ((first | refine And.intro rfl ?_ | refine kA1 ?_ _ | refine kA2 ?_ _ | refine k_row gmA ?_ | refine k_cell gmA ?_ | refine e_row gmA rfl ?_ | refine k_el gmA (by omega) ?_ | refine k_some gmA ?_ | refine f_set _ rfl ?_ | refine kA8 ?_); conv => whnf)
    refine call_fr (R := anA a) [0, 1, 2, 3] [] [some (.rows 68 5 [gRowAt 6 7 8 s2]), none, none, none, rowsM s2.machines, rowsQ s2.queues, rowsJ s2.jobs] c1 ?_
    conv => whnf
    exact at_end [some 0, some 1, some 2, some 3, some 6, some 7, some 8]
  rw [if_neg (of_decide_eq_false hq3)] at hB
  conv => whnf
  generalize hq4 : decide (o.kind = 4) = q
  cases q
  case true =>
    rw [if_pos (of_decide_eq_true hq4)] at hB
    have c1 := dropQueue_ok (nxS s) o.name hw
    rw [← hB] at c1
    generalize doG s o = d at c1
    obtain ⟨a, s2⟩ := d
    simp only at c1
    conv => whnf
    repeat ((first | refine And.intro rfl ?_ | refine kA1 ?_ _ | refine kA2 ?_ _ | refine k_row gmA ?_ | refine k_cell gmA ?_ | refine e_row gmA rfl ?_ | refine k_el gmA (by omega) ?_ | refine k_some gmA ?_ | refine f_set _ rfl ?_ | refine kA8 ?_); conv => whnf)
    refine call_fr (R := anA a) [0, 1, 2, 3] [] (gH s2) c1 ?_
    conv => whnf
    exact at_end [some 0, some 1, some 2, some 3, some 1, some 2, some 3]
  rw [if_neg (of_decide_eq_false hq4)] at hB
  conv => whnf
  generalize hq5 : decide (o.kind = 5) = q
  cases q
  case true =>
    rw [if_pos (of_decide_eq_true hq5)] at hB
    have c1 := submit_ok (nxS s) o.task hw ht
    rw [← hB] at c1
    generalize doG s o = d at c1
    obtain ⟨a, s2⟩ := d
    simp only at c1
    conv => whnf
    repeat ((first | refine And.intro rfl ?_ | refine kA1 ?_ _ | refine kA2 ?_ _ | refine k_row gmA ?_ | refine k_cell gmA ?_ | refine e_row gmA rfl ?_ | refine k_el gmA (by omega) ?_ | refine k_some gmA ?_ | refine f_set _ rfl ?_ | refine kA8 ?_); conv => whnf)
    refine call_fr (R := anA a) [0, 1, 2, 3] [] [some (.rows 68 5 [gRowAt 6 7 8 s2]), none, none, none, rowsM s2.machines, rowsQ s2.queues, rowsJ s2.jobs] c1 ?_
    conv => whnf
    exact at_end [some 0, some 1, some 2, some 3, some 6, some 7, some 8]
  rw [if_neg (of_decide_eq_false hq5)] at hB
  conv => whnf
  generalize hq8 : decide (o.kind = 8) = q
  cases q
  case true =>
    rw [if_pos (of_decide_eq_true hq8)] at hB
    have c1 := beat_ok (nxS s) o.name hw
    rw [← hB] at c1
    generalize doG s o = d at c1
    obtain ⟨a, s2⟩ := d
    simp only at c1
    conv => whnf
    repeat ((first | refine And.intro rfl ?_ | refine kA1 ?_ _ | refine kA2 ?_ _ | refine k_row gmA ?_ | refine k_cell gmA ?_ | refine e_row gmA rfl ?_ | refine k_el gmA (by omega) ?_ | refine k_some gmA ?_ | refine f_set _ rfl ?_ | refine kA8 ?_); conv => whnf)
    refine call_fr (R := anA a) [0, 1, 2, 3] [] (gH s2) c1 ?_
    conv => whnf
    exact at_end [some 0, some 1, some 2, some 3, some 1, some 2, some 3]
  rw [if_neg (of_decide_eq_false hq8)] at hB
  conv => whnf
  generalize hq9 : decide (o.kind = 9) = q
  cases q
  case true =>
    rw [if_pos (of_decide_eq_true hq9)] at hB
    have c1 := tick_ok (nxS s) hw (by simp only; omega) (by simp only; omega) ho
    rw [← hB] at c1
    generalize doG s o = d at c1
    obtain ⟨a, s2⟩ := d
    simp only at c1
    conv => whnf
    repeat ((first | refine And.intro rfl ?_ | refine kA1 ?_ _ | refine kA2 ?_ _ | refine k_row gmA ?_ | refine k_cell gmA ?_ | refine e_row gmA rfl ?_ | refine k_el gmA (by omega) ?_ | refine k_some gmA ?_ | refine f_set _ rfl ?_ | refine kA8 ?_); conv => whnf)
    refine call_fr (R := anA a) [0, 1, 2, 3] [] [some (.rows 68 5 [gRowAt 6 7 8 s2]), none, none, none, rowsM s2.machines, rowsQ s2.queues, rowsJ s2.jobs] c1 ?_
    conv => whnf
    exact at_end [some 0, some 1, some 2, some 3, some 6, some 7, some 8]
  rw [if_neg (of_decide_eq_false hq9)] at hB
  conv => whnf
  have c1 := gone_ok (nxS s) o.name o.kind hw
  rw [← hB] at c1
  generalize doG s o = d at c1
  obtain ⟨a, s2⟩ := d
  simp only at c1
  conv => whnf
  repeat ((first | refine And.intro rfl ?_ | refine kA1 ?_ _ | refine kA2 ?_ _ | refine k_row gmA ?_ | refine k_cell gmA ?_ | refine e_row gmA rfl ?_ | refine k_el gmA (by omega) ?_ | refine k_some gmA ?_ | refine f_set _ rfl ?_ | refine kA8 ?_); conv => whnf)
  refine call_fr (R := anA a) [0, 1, 2, 3] [] (gH s2) c1 ?_
  conv => whnf
  exact at_end [some 0, some 1, some 2, some 3, some 1, some 2, some 3]
theorem do_nil (o : Op') : AC PR 18 [.nilptr, opA o] [] (anA (no 1)) [] := by
  apply A18
  conv => whnf
  refine call_closed (refuse_ok 1) ?_
  conv => whnf
  exact at_end []
theorem dec_self {α : Type} [DecidableEq α] (x : α) : decide (x = x) = true := decide_eq_true rfl
theorem actsSelf_ok (l : List Ac) (hl : (l.length : Int) ≤ 1000000) : AC PR 42 [acs l, acs l] [] (.bool true) [] := by
  have hm : (l.map acA).length = l.length := List.length_map ..
  apply A42
  conv => whnf
  rw [dec_self]
  conv => whnf
  refine loop_to l.length (fun k e H => e = [(0, acs l), (1, acs l), (12, i64 (l.map acA).length), (13, i64 k)] ∧ H = []) ?_ ?_
  · rintro k e H hk ⟨rfl, rfl⟩
    conv => whnf
    generalize hq : decide ((k : Int) < ((l.map acA).length : Int)) = q
    cases q
    case false =>
      conv => whnf
      exact at_end []
    have hk2 : k < l.length := by have := of_decide_eq_true hq; omega
    have hgo := List.getElem?_eq_getElem hk2
    have hx' : l[((k : Nat) : Int).toNat]? = some l[k] := hgo
    generalize l[k] = x at hgo hx'
    conv => whnf
    repeat (first
      | (refine And.intro rfl ?_; conv => whnf)
      | (refine k_el (get_map hx') (by omega) ?_; conv => whnf))
    rw [dec_self, dec_self, dec_self]
    conv => whnf
    refine w_i64 (by omega) ?_
    conv => whnf
    exact at_head [] [] [(0, acs l), (1, acs l), (12, i64 (l.map acA).length), (13, i64 (k + 1 : Nat))] ⟨hk2, rfl, rfl⟩
  · conv => whnf
    exact at_head [] [] _ ⟨rfl, rfl⟩
theorem ansSelf_ok (a : An) (hl : (a.acts.length : Int) ≤ 1000000) : AC PR 17 [anA a, anA a] [] (.bool true) [] := by
  have c1 := actsSelf_ok a.acts hl
  apply A17
  conv => whnf
  rw [dec_self]
  conv => whnf
  refine call_closed c1 ?_
  conv => whnf
  exact at_end []
theorem refNew_ok : AC PR 15 [] [] (stA St.new) [] := by
  apply A15
  conv => whnf
  exact at_end []
theorem nodeEq_self (n : Nd) : nodeEq n n = true := by simp [nodeEq, rsEq]
theorem taskEq_self (t : Tk) : taskEq t t = true := by simp [taskEq, rsEq]
theorem stSelf_ok (s : St) (hz : StSz s) : AC PR 19 [stA s, stA s] [] (.bool true) [] := by
  have hmm : (s.machines.map mcA).length = s.machines.length := List.length_map ..
  have hmq : (s.queues.map quR).length = s.queues.length := List.length_map ..
  have hmj : (s.jobs.map jbA).length = s.jobs.length := List.length_map ..
  have hm := hz.m
  have hq := hz.q
  have hj := hz.j
  apply A19
  conv => whnf
  rw [dec_self]
  conv => whnf
  rw [dec_self]
  conv => whnf
  rw [dec_self]
  conv => whnf
  rw [dec_self]
  conv => whnf
  rw [dec_self]
  conv => whnf
  refine loop_to s.machines.length (fun k e H => e = [(2, .ptr 0 0 0), (3, .ptr 1 0 0), (53, i64 (s.machines.map mcA).length), (54, i64 k)] ∧ H = [some (.rows 31 5 [stA s]), some (.rows 31 5 [stA s])]) ?_ ?_
  rotate_left
  · conv => whnf
    exact at_head [some 0, some 1] _ [(2, .ptr 0 0 0), (3, .ptr 1 0 0), (53, i64 (s.machines.map mcA).length), (54, i64 (0 : Nat))] ⟨rfl, rfl⟩
  rintro k1 e H hk1 ⟨rfl, rfl⟩
  conv => whnf
  generalize hq1 : decide ((k1 : Int) < ((s.machines.map mcA).length : Int)) = q
  cases q
  case true =>
    have hk2 : k1 < s.machines.length := by have := of_decide_eq_true hq1; omega
    have hgo := List.getElem?_eq_getElem hk2
    have hx' : s.machines[((k1 : Nat) : Int).toNat]? = some s.machines[k1] := hgo
    have hxm : s.machines[k1] ∈ s.machines := List.getElem_mem _
    generalize s.machines[k1] = x at hgo hx' hxm
    conv => whnf
    repeat (first
      | (refine And.intro rfl ?_; conv => whnf)
      | (refine k_el (get_map hx') (by omega) ?_; conv => whnf)
      | (refine k_some (get_map hx') ?_; conv => whnf)
      | (refine e_el (get_map hx') (by omega) ?_; conv => whnf))
    have c1 := rsameNode_ok x.node x.node (hz.l x hxm)
    rw [nodeEq_self] at c1
    refine call_closed c1 ?_
    conv => whnf
    rw [show (x.up == x.up) = true from beq_self_eq_true _]
    conv => whnf
    rw [dec_self]
    conv => whnf
    refine w_i64 (by omega) ?_
    conv => whnf
    exact at_head [some 0, some 1] [some (.rows 31 5 [stA s]), some (.rows 31 5 [stA s])] [(2, .ptr 0 0 0), (3, .ptr 1 0 0), (53, i64 (s.machines.map mcA).length), (54, i64 (k1 + 1 : Nat))] ⟨hk2, rfl, rfl⟩
  conv => whnf
  refine loop_to s.queues.length (fun k e H => e = [(2, .ptr 0 0 0), (3, .ptr 1 0 0), (90, i64 (s.queues.map quR).length), (91, i64 k)] ∧ H = [some (.rows 31 5 [stA s]), some (.rows 31 5 [stA s])]) ?_ ?_
  rotate_left
  · conv => whnf
    exact at_head [some 0, some 1] _ [(2, .ptr 0 0 0), (3, .ptr 1 0 0), (90, i64 (s.queues.map quR).length), (91, i64 (0 : Nat))] ⟨rfl, rfl⟩
  rintro k2 e H hk2 ⟨rfl, rfl⟩
  conv => whnf
  generalize hq2 : decide ((k2 : Int) < ((s.queues.map quR).length : Int)) = q
  cases q
  case true =>
    have hk2 : k2 < s.queues.length := by have := of_decide_eq_true hq2; omega
    have hgo := List.getElem?_eq_getElem hk2
    have hx' : s.queues[((k2 : Nat) : Int).toNat]? = some s.queues[k2] := hgo
    have hxm : s.queues[k2] ∈ s.queues := List.getElem_mem _
    generalize s.queues[k2] = x at hgo hx' hxm
    conv => whnf
    repeat (first
      | (refine And.intro rfl ?_; conv => whnf)
      | (refine k_el (get_map hx') (by omega) ?_; conv => whnf)
      | (refine k_some (get_map hx') ?_; conv => whnf)
      | (refine e_el (get_map hx') (by omega) ?_; conv => whnf))
    rw [dec_self, dec_self, dec_self, dec_self]
    conv => whnf
    refine w_i64 (by omega) ?_
    conv => whnf
    exact at_head [some 0, some 1] [some (.rows 31 5 [stA s]), some (.rows 31 5 [stA s])] [(2, .ptr 0 0 0), (3, .ptr 1 0 0), (90, i64 (s.queues.map quR).length), (91, i64 (k2 + 1 : Nat))] ⟨hk2, rfl, rfl⟩
  conv => whnf
  refine loop_to s.jobs.length (fun k e H => e = [(2, .ptr 0 0 0), (3, .ptr 1 0 0), (108, i64 (s.jobs.map jbA).length), (109, i64 k)] ∧ H = [some (.rows 31 5 [stA s]), some (.rows 31 5 [stA s])]) ?_ ?_
  rotate_left
  · conv => whnf
    exact at_head [some 0, some 1] _ [(2, .ptr 0 0 0), (3, .ptr 1 0 0), (108, i64 (s.jobs.map jbA).length), (109, i64 (0 : Nat))] ⟨rfl, rfl⟩
  rintro k3 e H hk3 ⟨rfl, rfl⟩
  conv => whnf
  generalize hq3 : decide ((k3 : Int) < ((s.jobs.map jbA).length : Int)) = q
  cases q
  case true =>
    have hk2 : k3 < s.jobs.length := by have := of_decide_eq_true hq3; omega
    have hgo := List.getElem?_eq_getElem hk2
    have hx' : s.jobs[((k3 : Nat) : Int).toNat]? = some s.jobs[k3] := hgo
    have hxm : s.jobs[k3] ∈ s.jobs := List.getElem_mem _
    generalize s.jobs[k3] = x at hgo hx' hxm
    conv => whnf
    repeat (first
      | (refine And.intro rfl ?_; conv => whnf)
      | (refine k_el (get_map hx') (by omega) ?_; conv => whnf)
      | (refine k_some (get_map hx') ?_; conv => whnf)
      | (refine e_el (get_map hx') (by omega) ?_; conv => whnf))
    have c1 := rsameTask_ok x.task x.task (hz.w x hxm)
    rw [taskEq_self] at c1
    refine call_closed c1 ?_
    conv => whnf
    rw [dec_self]
    conv => whnf
    rw [dec_self]
    conv => whnf
    rw [dec_self]
    conv => whnf
    refine w_i64 (by omega) ?_
    conv => whnf
    exact at_head [some 0, some 1] [some (.rows 31 5 [stA s]), some (.rows 31 5 [stA s])] [(2, .ptr 0 0 0), (3, .ptr 1 0 0), (108, i64 (s.jobs.map jbA).length), (109, i64 (k3 + 1 : Nat))] ⟨hk2, rfl, rfl⟩
  conv => whnf
  exact at_end []
structure OpB (o : Op') : Prop where
  l1 : o.node.labels.length ≤ 1048576
  l2 : o.task.wants.length ≤ 1048576
  s1 : o.node.name.size ≤ 1048576
  s2 : o.queue.name.size ≤ 1048576
  s3 : o.task.name.size ≤ 1048576
  s4 : o.task.queue.size ≤ 1048576
  s5 : o.task.apart.size ≤ 1048576
  s6 : o.task.gang.size ≤ 1048576
  s7 : o.name.size ≤ 1048576
def smallB (o : Op') : Bool := decide ((o.node.labels.length : Int) ≤ 20) && decide ((o.task.wants.length : Int) ≤ 20) && decide ((o.node.name.size : Int) + o.queue.name.size + o.task.name.size + o.task.queue.size + o.task.apart.size + o.task.gang.size + o.name.size < 2000)
theorem small_ok (o : Op') (hz : OpB o) : AC PR 25 [opA o] [] (.bool (smallB o)) [] := by
  obtain ⟨l1, l2, s1, s2, s3, s4, s5, s6, s7⟩ := hz
  have hB : smallB o = (decide (((o.node.labels.map lb).length : Int) ≤ 20) && decide (((o.task.wants.map lb).length : Int) ≤ 20) && decide ((o.node.name.size : Int) + o.queue.name.size + o.task.name.size + o.task.queue.size + o.task.apart.size + o.task.gang.size + o.name.size < 2000)) := by simp [smallB]
  generalize smallB o = B at hB
  apply A25
  conv => whnf
  generalize decide (((o.node.labels.map lb).length : Int) ≤ 20) = q1 at hB
  cases q1 <;> conv => whnf
  · exact at_end []
  generalize decide (((o.task.wants.map lb).length : Int) ≤ 20) = q2 at hB
  cases q2 <;> conv => whnf
  · exact at_end []
  repeat (refine w_i64 (by omega) ?_; conv => whnf)
  simp only [Bool.true_and] at hB
  rw [hB]
  conv => whnf
  exact at_end []
def opQ : Op' := ⟨3, ⟨⟨#[]⟩, ⟨0, 0, 0⟩, []⟩, ⟨⟨#[113]⟩, ⟨0, 0, 0⟩⟩, ⟨⟨#[]⟩, ⟨#[]⟩, 0, ⟨0, 0, 0⟩, [], ⟨#[]⟩, ⟨#[]⟩, 0⟩, ⟨#[]⟩⟩
def stQ : St := ⟨0, 1, [], [⟨⟨#[113]⟩, ⟨0, 0, 0⟩⟩], []⟩
theorem opQ_2 : doG stQ opQ = (no 8, stQ) := by kernel_rfl
theorem opQ_1 : doG St.new opQ = (no 0, stQ) := by kernel_rfl
theorem fitsNew : Fits St.new := by
  refine ⟨⟨⟨by decide, by decide, by decide, by intro m h; simp at h, by intro m h; simp at h⟩, by decide, by decide, by decide, by decide⟩, by decide, by decide, by decide, ?_⟩
  simp [SeqOne]
theorem fitsQ : Fits stQ := by
  refine ⟨⟨⟨by decide, by decide, by decide, by intro m h; simp [stQ] at h, by intro m h; simp [stQ] at h⟩, by decide, by decide, by decide, by decide⟩, by decide, by decide, by decide, ?_⟩
  simp [SeqOne, stQ]
theorem szQ : Sized opQ.task := ⟨by decide⟩
theorem awake_ok : AC PR 12 [] [] (.bool true) [] := by
  have c1 := do_ok St.new opQ fitsNew szQ (by decide) (by decide)
  have c2 := do_ok stQ opQ fitsQ szQ (by decide) (by decide)
  have c3 := state_ok stQ fitsQ.w.toStSz (by decide)
  have c4 := stRight_ok St.new fitsNew.w.toStSz
  rw [show stB St.new = true by kernel_rfl] at c4
  rw [opQ_1] at c1
  rw [opQ_2] at c2
  apply A12
  conv => whnf
  refine call_fr (R := .ptr 0 0 0) [] [] (gH St.new) new_ok ?_
  conv => whnf
  refine call_fr (R := anA (no 0)) [0, 1, 2, 3] [] [some (.rows 68 5 [gRowAt 4 5 6 stQ]), none, none, none, rowsM [], rowsQ stQ.queues, rowsJ []] c1 ?_
  conv => whnf
  refine call_fr (R := anA (no 8)) [0, 4, 5, 6] [] [some (.rows 68 5 [gRowAt 8 9 10 stQ]), none, none, none, rowsM [], rowsQ stQ.queues, rowsJ []] c2 ?_
  conv => whnf
  refine call_fr (R := stA stQ) [0, 8, 9, 10] [] [some (.rows 68 5 [gRowAt 8 9 10 stQ]), rowsM [], rowsQ stQ.queues, rowsJ []] c3 ?_
  conv => whnf
  refine call_fr (R := .bool true) [] [] [] c4 ?_
  conv => whnf
  exact at_end []
end Go.Am.Pt
end
