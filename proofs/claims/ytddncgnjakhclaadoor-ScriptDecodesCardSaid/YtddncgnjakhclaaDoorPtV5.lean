/- Nodes, tasks, operations held against one another (the reference), walked. No conditions. -/
import Derived.Test.YtddncgnjakhclaaDoorPtV4
set_option linter.unusedVariables false
set_option linter.unusedSimpArgs false
set_option maxRecDepth 100000
open Go Go.Am Go.Proofs
namespace Go.Am.Pt
def rsEq (x y : Rs) : Bool := decide (x.a = y.a) && (decide (x.b = y.b) && (decide (x.c = y.c) && true))
def nodeEq (a b : Nd) : Bool := decide (a.name = b.name) && rsEq a.cap b.cap && decide (a.labels = b.labels)
def taskEq (a b : Tk) : Bool := decide (a.name = b.name) && decide (a.queue = b.queue) && decide (a.prio = b.prio) && rsEq a.need b.need && decide (a.wants = b.wants) && decide (a.apart = b.apart) && decide (a.gang = b.gang) && decide (a.size = b.size)
def quEq (a b : Qu) : Bool := decide (a.name = b.name) && (decide (a.quota.a = b.quota.a) && (decide (a.quota.b = b.quota.b) && (decide (a.quota.c = b.quota.c) && true)))
def opEq (a b : Op') : Bool := decide (a.kind = b.kind) && quEq a.queue b.queue && decide (a.name = b.name) && nodeEq a.node b.node && taskEq a.task b.task
theorem rsameNode_ok (a b : Nd) (ha : (a.labels.length : Int) ≤ 1000000) : AC PR 35 [nodeA a, nodeA b] [] (.bool (nodeEq a b)) [] := by
  have hB : nodeEq a b = (decide (a.name = b.name) && (decide (a.cap.a = b.cap.a) && (decide (a.cap.b = b.cap.b) && (decide (a.cap.c = b.cap.c) && true))) && decide (a.labels = b.labels)) := rfl
  have c1 := same_labels a.labels b.labels ha
  generalize nodeEq a b = B at hB
  generalize decide (a.labels = b.labels) = q1 at hB c1
  apply A35
  conv => whnf
  generalize decide (a.name = b.name) = q2 at hB
  cases q2 <;> conv => whnf
  · exact at_end []
  generalize (decide (a.cap.a = b.cap.a) && (decide (a.cap.b = b.cap.b) && (decide (a.cap.c = b.cap.c) && true))) = R at hB
  cases R <;> conv => whnf
  · exact at_end []
  refine call_closed (c1) ?_
  conv => whnf
  cases q1 <;> exact at_end []
theorem rsameTask_ok (a b : Tk) (ha : (a.wants.length : Int) ≤ 1000000) : AC PR 36 [tkA a, tkA b] [] (.bool (taskEq a b)) [] := by
  have hB : taskEq a b = (decide (a.name = b.name) && decide (a.queue = b.queue) && decide (a.prio = b.prio) && (decide (a.need.a = b.need.a) && (decide (a.need.b = b.need.b) && (decide (a.need.c = b.need.c) && true))) && decide (a.wants = b.wants) && decide (a.apart = b.apart) && decide (a.gang = b.gang) && decide (a.size = b.size)) := rfl
  have c1 := same_labels a.wants b.wants ha
  generalize taskEq a b = B at hB
  generalize decide (a.wants = b.wants) = q1 at hB c1
  apply A36
  conv => whnf
  generalize decide (a.name = b.name) = q2 at hB
  cases q2 <;> conv => whnf
  · exact at_end []
  generalize decide (a.queue = b.queue) = q3 at hB
  cases q3 <;> conv => whnf
  · exact at_end []
  generalize decide (a.prio = b.prio) = q4 at hB
  cases q4 <;> conv => whnf
  · exact at_end []
  generalize (decide (a.need.a = b.need.a) && (decide (a.need.b = b.need.b) && (decide (a.need.c = b.need.c) && true))) = R at hB
  cases R <;> conv => whnf
  · exact at_end []
  refine call_closed (c1) ?_
  conv => whnf
  cases q1 <;> conv => whnf
  · exact at_end []
  generalize decide (a.apart = b.apart) = q5 at hB
  cases q5 <;> conv => whnf
  · exact at_end []
  generalize decide (a.gang = b.gang) = q6 at hB
  cases q6 <;> conv => whnf
  · exact at_end []
  generalize decide (a.size = b.size) = q7 at hB
  cases q7 <;> exact at_end []
theorem rsameOp_ok (a b : Op') (ha : (a.node.labels.length : Int) ≤ 1000000) (hb : (a.task.wants.length : Int) ≤ 1000000) : AC PR 17 [opA a, opA b] [] (.bool (opEq a b)) [] := by
  have hB : opEq a b = (decide (a.kind = b.kind) && (decide (a.queue.name = b.queue.name) && (decide (a.queue.quota.a = b.queue.quota.a) && (decide (a.queue.quota.b = b.queue.quota.b) && (decide (a.queue.quota.c = b.queue.quota.c) && true)))) && decide (a.name = b.name) && nodeEq a.node b.node && taskEq a.task b.task) := rfl
  have c1 := rsameNode_ok a.node b.node ha
  have c2 := rsameTask_ok a.task b.task hb
  generalize opEq a b = B at hB
  generalize nodeEq a.node b.node = q1 at hB c1
  generalize taskEq a.task b.task = q2 at hB c2
  apply A17
  conv => whnf
  generalize decide (a.kind = b.kind) = q3 at hB
  cases q3 <;> conv => whnf
  · exact at_end []
  generalize (decide (a.queue.name = b.queue.name) && (decide (a.queue.quota.a = b.queue.quota.a) && (decide (a.queue.quota.b = b.queue.quota.b) && (decide (a.queue.quota.c = b.queue.quota.c) && true)))) = R at hB
  cases R <;> conv => whnf
  · exact at_end []
  generalize decide (a.name = b.name) = q5 at hB
  cases q5 <;> conv => whnf
  · exact at_end []
  refine call_closed (c1) ?_
  conv => whnf
  cases q1 <;> conv => whnf
  · exact at_end []
  refine call_closed (c2) ?_
  conv => whnf
  cases q2 <;> exact at_end []
def namedB (k : Int) : Bool := decide (k = 2) || decide (k = 4) || decide (k = 6) || decide (k = 7) || decide (k = 8)
theorem rnamed_ok (k : Int) : AC PR 20 [i64 k] [] (.bool (namedB k)) [] := by
  have hB : namedB k = (decide (k = 2) || decide (k = 4) || decide (k = 6) || decide (k = 7) || decide (k = 8)) := rfl
  generalize namedB k = B at hB
  apply A20
  conv => whnf
  generalize decide (k = 2) = q1 at hB
  cases q1 <;> conv => whnf
  case true => exact at_end []
  generalize decide (k = 4) = q1 at hB
  cases q1 <;> conv => whnf
  case true => exact at_end []
  generalize decide (k = 6) = q1 at hB
  cases q1 <;> conv => whnf
  case true => exact at_end []
  generalize decide (k = 7) = q1 at hB
  cases q1 <;> conv => whnf
  case true => exact at_end []
  generalize decide (k = 8) = q1 at hB
  cases q1 <;> exact at_end []
def ndZ : Nd := ⟨⟨#[]⟩, ⟨0, 0, 0⟩, []⟩
def quZ : Qu := ⟨⟨#[]⟩, ⟨0, 0, 0⟩⟩
def tkZ : Tk := ⟨⟨#[]⟩, ⟨#[]⟩, 0, ⟨0, 0, 0⟩, [], ⟨#[]⟩, ⟨#[]⟩, 0⟩
theorem rzeroNode_ok (n : Nd) (ha : (n.labels.length : Int) ≤ 1000000) : AC PR 18 [nodeA n] [] (.bool (nodeEq n ndZ)) [] := by
  have c1 := rsameNode_ok n ndZ ha
  generalize nodeEq n ndZ = B at c1
  apply A18
  conv => whnf
  refine call_fr [] [] [] c1 ?_
  conv => whnf
  exact at_end []
theorem rzeroTask_ok (n : Tk) (ha : (n.wants.length : Int) ≤ 1000000) : AC PR 19 [tkA n] [] (.bool (taskEq n tkZ)) [] := by
  have c1 := rsameTask_ok n tkZ ha
  generalize taskEq n tkZ = B at c1
  apply A19
  conv => whnf
  refine call_fr [] [] [] c1 ?_
  conv => whnf
  exact at_end []
/-- Operations that can be. -/
def opR (o : Op') : Bool :=
  !(decide (o.kind < 1) || decide (9 < o.kind)) && (decide (o.kind = 1) || nodeEq o.node ndZ) && (decide (o.kind = 3) || quEq o.queue quZ) && (decide (o.kind = 5) || taskEq o.task tkZ) && (namedB o.kind || decide (o.name = ⟨#[]⟩)) &&
    (if o.kind = 1 then nodeB o.node else if o.kind = 3 then queueB o.queue else if o.kind = 5 then taskB o.task else if o.kind = 9 then true else nameB o.name)
theorem rRight_ok (o : Op') (ha : (o.node.labels.length : Int) ≤ 1000000) (hb : (o.task.wants.length : Int) ≤ 1000000) : AC PR 10 [opA o] [] (.bool (opR o)) [] := by
  have hB : opR o = (!(decide (o.kind < 1) || decide (9 < o.kind)) && (decide (o.kind = 1) || nodeEq o.node ndZ) && (decide (o.kind = 3) || quEq o.queue quZ) && (decide (o.kind = 5) || taskEq o.task tkZ) && (namedB o.kind || decide (o.name = ⟨#[]⟩)) &&
    (if o.kind = 1 then nodeB o.node else if o.kind = 3 then queueB o.queue else if o.kind = 5 then taskB o.task else if o.kind = 9 then true else nameB o.name)) := rfl
  have c1 := rzeroNode_ok o.node ha
  have c2 := rzeroTask_ok o.task hb
  have c3 := rnamed_ok o.kind
  have d1 := rnode_ok o.node
  have d2 := rqueue_ok o.queue
  have d3 := rtask_ok o.task
  have d4 := rname_ok o.name
  generalize opR o = B at hB
  generalize nodeEq o.node ndZ = z1 at hB c1
  generalize taskEq o.task tkZ = z2 at hB c2
  generalize nodeB o.node = q1 at hB d1
  generalize queueB o.queue = q2 at hB d2
  generalize taskB o.task = q3 at hB d3
  generalize nameB o.name = q4 at hB d4
  apply A10
  conv => whnf
  generalize h1 : decide (o.kind < 1) = p1 at hB
  cases p1 <;> conv => whnf
  case true => exact at_end []
  generalize h2 : decide (9 < o.kind) = p2 at hB
  cases p2 <;> conv => whnf
  case true => exact at_end []
  have hk : 1 ≤ o.kind ∧ o.kind ≤ 9 := by
    have := of_decide_eq_false h1; have := of_decide_eq_false h2; omega
  clear h1 h2
  obtain ⟨kind, node, queue, task, name⟩ := o
  simp only at hk hB c1 c2 c3 d1 d2 d3 d4
  have hQ : quEq queue quZ = (decide (queue.name = ⟨#[]⟩) && (decide (queue.quota.a = 0) && (decide (queue.quota.b = 0) && (decide (queue.quota.c = 0) && true)))) := rfl
  rw [hQ] at hB
  obtain rfl | rfl | rfl | rfl | rfl | rfl | rfl | rfl | rfl : kind = 1 ∨ kind = 2 ∨ kind = 3 ∨ kind = 4 ∨ kind = 5 ∨ kind = 6 ∨ kind = 7 ∨ kind = 8 ∨ kind = 9 := by omega
  · conv => whnf
    generalize (decide (queue.name = ⟨#[]⟩) && (decide (queue.quota.a = 0) && (decide (queue.quota.b = 0) && (decide (queue.quota.c = 0) && true)))) = R at hB
    cases R <;> conv => whnf
    · exact at_end []
    refine call_fr [] [] [] c2 ?_
    conv => whnf
    cases z2 <;> conv => whnf
    · exact at_end []
    refine call_closed c3 ?_
    conv => whnf
    generalize decide (name = ⟨#[]⟩) = R2 at hB
    cases R2 <;> conv => whnf
    · exact at_end []
    refine call_closed d1 ?_
    conv => whnf
    exact at_end []
  · conv => whnf
    refine call_fr [] [] [] c1 ?_
    conv => whnf
    cases z1 <;> conv => whnf
    · exact at_end []
    generalize (decide (queue.name = ⟨#[]⟩) && (decide (queue.quota.a = 0) && (decide (queue.quota.b = 0) && (decide (queue.quota.c = 0) && true)))) = R at hB
    cases R <;> conv => whnf
    · exact at_end []
    refine call_fr [] [] [] c2 ?_
    conv => whnf
    cases z2 <;> conv => whnf
    · exact at_end []
    refine call_closed c3 ?_
    conv => whnf
    refine call_closed d4 ?_
    conv => whnf
    exact at_end []
  · conv => whnf
    refine call_fr [] [] [] c1 ?_
    conv => whnf
    cases z1 <;> conv => whnf
    · exact at_end []
    refine call_fr [] [] [] c2 ?_
    conv => whnf
    cases z2 <;> conv => whnf
    · exact at_end []
    refine call_closed c3 ?_
    conv => whnf
    generalize decide (name = ⟨#[]⟩) = R2 at hB
    cases R2 <;> conv => whnf
    · exact at_end []
    refine call_closed d2 ?_
    conv => whnf
    exact at_end []
  · conv => whnf
    refine call_fr [] [] [] c1 ?_
    conv => whnf
    cases z1 <;> conv => whnf
    · exact at_end []
    generalize (decide (queue.name = ⟨#[]⟩) && (decide (queue.quota.a = 0) && (decide (queue.quota.b = 0) && (decide (queue.quota.c = 0) && true)))) = R at hB
    cases R <;> conv => whnf
    · exact at_end []
    refine call_fr [] [] [] c2 ?_
    conv => whnf
    cases z2 <;> conv => whnf
    · exact at_end []
    refine call_closed c3 ?_
    conv => whnf
    refine call_closed d4 ?_
    conv => whnf
    exact at_end []
  · conv => whnf
    refine call_fr [] [] [] c1 ?_
    conv => whnf
    cases z1 <;> conv => whnf
    · exact at_end []
    generalize (decide (queue.name = ⟨#[]⟩) && (decide (queue.quota.a = 0) && (decide (queue.quota.b = 0) && (decide (queue.quota.c = 0) && true)))) = R at hB
    cases R <;> conv => whnf
    · exact at_end []
    refine call_closed c3 ?_
    conv => whnf
    generalize decide (name = ⟨#[]⟩) = R2 at hB
    cases R2 <;> conv => whnf
    · exact at_end []
    refine call_closed d3 ?_
    conv => whnf
    exact at_end []
  · conv => whnf
    refine call_fr [] [] [] c1 ?_
    conv => whnf
    cases z1 <;> conv => whnf
    · exact at_end []
    generalize (decide (queue.name = ⟨#[]⟩) && (decide (queue.quota.a = 0) && (decide (queue.quota.b = 0) && (decide (queue.quota.c = 0) && true)))) = R at hB
    cases R <;> conv => whnf
    · exact at_end []
    refine call_fr [] [] [] c2 ?_
    conv => whnf
    cases z2 <;> conv => whnf
    · exact at_end []
    refine call_closed c3 ?_
    conv => whnf
    refine call_closed d4 ?_
    conv => whnf
    exact at_end []
  · conv => whnf
    refine call_fr [] [] [] c1 ?_
    conv => whnf
    cases z1 <;> conv => whnf
    · exact at_end []
    generalize (decide (queue.name = ⟨#[]⟩) && (decide (queue.quota.a = 0) && (decide (queue.quota.b = 0) && (decide (queue.quota.c = 0) && true)))) = R at hB
    cases R <;> conv => whnf
    · exact at_end []
    refine call_fr [] [] [] c2 ?_
    conv => whnf
    cases z2 <;> conv => whnf
    · exact at_end []
    refine call_closed c3 ?_
    conv => whnf
    refine call_closed d4 ?_
    conv => whnf
    exact at_end []
  · conv => whnf
    refine call_fr [] [] [] c1 ?_
    conv => whnf
    cases z1 <;> conv => whnf
    · exact at_end []
    generalize (decide (queue.name = ⟨#[]⟩) && (decide (queue.quota.a = 0) && (decide (queue.quota.b = 0) && (decide (queue.quota.c = 0) && true)))) = R at hB
    cases R <;> conv => whnf
    · exact at_end []
    refine call_fr [] [] [] c2 ?_
    conv => whnf
    cases z2 <;> conv => whnf
    · exact at_end []
    refine call_closed c3 ?_
    conv => whnf
    refine call_closed d4 ?_
    conv => whnf
    exact at_end []
  · conv => whnf
    refine call_fr [] [] [] c1 ?_
    conv => whnf
    cases z1 <;> conv => whnf
    · exact at_end []
    generalize (decide (queue.name = ⟨#[]⟩) && (decide (queue.quota.a = 0) && (decide (queue.quota.b = 0) && (decide (queue.quota.c = 0) && true)))) = R at hB
    cases R <;> conv => whnf
    · exact at_end []
    refine call_fr [] [] [] c2 ?_
    conv => whnf
    cases z2 <;> conv => whnf
    · exact at_end []
    refine call_closed c3 ?_
    conv => whnf
    generalize decide (name = ⟨#[]⟩) = R2 at hB
    cases R2 <;> conv => whnf
    · exact at_end []
    exact at_end []
end Go.Am.Pt
