/- Nodes, queues, tasks (the reference), walked. No conditions. -/
import Derived.Test.YtddncgnjakhclaaDoorPtV3
set_option linter.unusedVariables false
set_option linter.unusedSimpArgs false
set_option maxRecDepth 100000
open Go Go.Am Go.Proofs
namespace Go.Am.Pt
def nodeB (n : Nd) : Bool := nameB n.name && rightB n.cap && labelsB n.labels
def queueB (q : Qu) : Bool := nameB q.name && rightB q.quota
def prioB (n : Int) : Bool := !(decide (n < 0) || decide (9 < n))
def maybeB (s : ByteArray) : Bool := decide (s = ⟨#[]⟩) || nameB s
def gangB (t : Tk) : Bool := if t.gang = ⟨#[]⟩ then decide (t.size = 0) else nameB t.gang && decide (2 ≤ t.size) && decide (t.size ≤ 4)
def taskB (t : Tk) : Bool := nameB t.name && nameB t.queue && prioB t.prio && rightB t.need && labelsB t.wants && maybeB t.apart && gangB t
theorem rnode_ok (n : Nd) : AC PR 21 [nodeA n] [] (.bool (nodeB n)) [] := by
  have hB : nodeB n = (nameB n.name && rightB n.cap && labelsB n.labels) := rfl
  have c1 := rname_ok n.name
  have c2 := rright_ok n.cap
  have c3 := rlabels_ok n.labels
  generalize nodeB n = B at hB
  generalize nameB n.name = q1 at hB c1
  generalize rightB n.cap = q2 at hB c2
  generalize labelsB n.labels = q3 at hB c3
  apply A21
  conv => whnf
  refine call_closed (c1) ?_
  conv => whnf
  cases q1 <;> conv => whnf
  · exact at_end []
  refine call_closed (c2) ?_
  conv => whnf
  cases q2 <;> conv => whnf
  · exact at_end []
  refine call_closed (c3) ?_
  conv => whnf
  cases q3 <;> exact at_end []
theorem rqueue_ok (n : Qu) : AC PR 22 [quA n] [] (.bool (queueB n)) [] := by
  have hB : queueB n = (nameB n.name && rightB n.quota) := rfl
  have c1 := rname_ok n.name
  have c2 := rright_ok n.quota
  generalize queueB n = B at hB
  generalize nameB n.name = q1 at hB c1
  generalize rightB n.quota = q2 at hB c2
  apply A22
  conv => whnf
  refine call_closed (c1) ?_
  conv => whnf
  cases q1 <;> conv => whnf
  · exact at_end []
  refine call_closed (c2) ?_
  conv => whnf
  cases q2 <;> exact at_end []
theorem rtask_ok (t : Tk) : AC PR 23 [tkA t] [] (.bool (taskB t)) [] := by
  have hB : taskB t = (nameB t.name && nameB t.queue && !(decide (t.prio < 0) || decide (9 < t.prio)) && rightB t.need && labelsB t.wants && (decide (t.apart = ⟨#[]⟩) || nameB t.apart) && gangB t) := rfl
  have hG : gangB t = if t.gang = ⟨#[]⟩ then decide (t.size = 0) else nameB t.gang && decide (2 ≤ t.size) && decide (t.size ≤ 4) := rfl
  have c1 := rname_ok t.name
  have c2 := rname_ok t.queue
  have c3 := rright_ok t.need
  have c4 := rlabels_ok t.wants
  have c5 := rname_ok t.apart
  have c6 := rname_ok t.gang
  generalize taskB t = B at hB
  generalize gangB t = G at hB hG
  generalize nameB t.name = q1 at hB c1
  generalize nameB t.queue = q2 at hB c2
  generalize rightB t.need = q3 at hB c3
  generalize labelsB t.wants = q4 at hB c4
  generalize nameB t.apart = q5 at hB c5
  generalize nameB t.gang = q6 at hG c6
  apply A23
  conv => whnf
  refine call_closed (c1) ?_
  conv => whnf
  cases q1 <;> conv => whnf
  · exact at_end []
  refine call_closed (c2) ?_
  conv => whnf
  cases q2 <;> conv => whnf
  · exact at_end []
  generalize decide (t.prio < 0) = p1 at hB
  cases p1 <;> conv => whnf
  case true => exact at_end []
  generalize decide (9 < t.prio) = p2 at hB
  cases p2 <;> conv => whnf
  case true => exact at_end []
  refine call_closed (c3) ?_
  conv => whnf
  cases q3 <;> conv => whnf
  · exact at_end []
  refine call_closed (c4) ?_
  conv => whnf
  cases q4 <;> conv => whnf
  · exact at_end []
  generalize decide (t.apart = ⟨#[]⟩) = p3 at hB
  cases p3 <;> conv => whnf
  · refine call_closed (c5) ?_
    conv => whnf
    cases q5 <;> conv => whnf
    · exact at_end []
    simp only [Bool.true_and, Bool.not_false, Bool.or_false, Bool.or_true] at hB
    subst hB
    by_cases hg : t.gang = ⟨#[]⟩
    · rw [if_pos hg] at hG
      rw [decide_eq_true hg]
      conv => whnf
      exact at_end []
    rw [if_neg hg] at hG
    rw [decide_eq_false hg]
    conv => whnf
    refine call_closed (c6) ?_
    conv => whnf
    cases q6 <;> conv => whnf
    · exact at_end []
    generalize decide (2 ≤ t.size) = p4 at hG
    cases p4 <;> conv => whnf
    · exact at_end []
    exact at_end []
  · simp only [Bool.true_and, Bool.not_false, Bool.or_false, Bool.true_or] at hB
    subst hB
    by_cases hg : t.gang = ⟨#[]⟩
    · rw [if_pos hg] at hG
      rw [decide_eq_true hg]
      conv => whnf
      exact at_end []
    rw [if_neg hg] at hG
    rw [decide_eq_false hg]
    conv => whnf
    refine call_closed (c6) ?_
    conv => whnf
    cases q6 <;> conv => whnf
    · exact at_end []
    generalize decide (2 ≤ t.size) = p4 at hG
    cases p4 <;> conv => whnf
    · exact at_end []
    exact at_end []
end Go.Am.Pt
