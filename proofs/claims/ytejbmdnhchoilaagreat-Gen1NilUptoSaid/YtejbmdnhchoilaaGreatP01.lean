/- Part of the proof: what functions of the program compute, walked. No conditions. -/
import Derived.Test.YtejbmdnhchoilaaGreatM20
import Derived.Test.YtejbmdnhchoilaaGreatP00
set_option linter.unusedVariables false
set_option linter.unusedSimpArgs false
set_option maxRecDepth 100000
section
namespace Go.Am
open Go
theorem bl_irr : ∀ l : List UInt8, Op.bytesLess l l = false
  | [] => rfl
  | a :: l => by simp [Op.bytesLess, bl_irr l]
theorem bl_trans : ∀ x y z : List UInt8, Op.bytesLess x y = true → Op.bytesLess y z = true → Op.bytesLess x z = true
  | _, [], _, h, _ => by cases ‹List UInt8› <;> simp [Op.bytesLess] at h
  | _, _ :: _, [], _, h => by simp [Op.bytesLess] at h
  | [], _ :: _, _ :: _, _, _ => rfl
  | a :: x, b :: y, c :: z, h1, h2 => by
    simp only [Op.bytesLess, Bool.or_eq_true, decide_eq_true_eq, Bool.and_eq_true, beq_iff_eq] at h1 h2 ⊢
    rcases h1 with h1 | ⟨rfl, h1⟩ <;> rcases h2 with h2 | ⟨rfl, h2⟩
    · exact .inl (UInt8.lt_trans h1 h2)
    · exact .inl h1
    · exact .inl h2
    · exact .inr ⟨rfl, bl_trans x y z h1 h2⟩
theorem bl_total : ∀ x y : List UInt8, Op.bytesLess x y = false → Op.bytesLess y x = false → x = y
  | [], [], _, _ => rfl
  | [], _ :: _, h, _ => by simp [Op.bytesLess] at h
  | _ :: _, [], _, h => by simp [Op.bytesLess] at h
  | a :: x, b :: y, h1, h2 => by
    simp only [Op.bytesLess, Bool.or_eq_false_iff, decide_eq_false_iff_not, Bool.and_eq_false_iff, beq_eq_false_iff_ne] at h1 h2
    have e : a = b := UInt8.le_antisymm (UInt8.not_lt.1 h2.1) (UInt8.not_lt.1 h1.1)
    subst e
    rcases h1.2 with h | h
    · exact absurd rfl h
    · rcases h2.2 with h' | h'
      · exact absurd rfl h'
      · rw [bl_total x y h h']
theorem lt_irr (a : ByteArray) : strLt a a = false := bl_irr _
theorem lt_trans {a b c : ByteArray} (h : strLt a b = true) (k : strLt b c = true) : strLt a c = true := bl_trans _ _ _ h k
theorem lt_total {a b : ByteArray} (h : strLt a b = false) (k : strLt b a = false) : a = b := (by
  have e := bl_total _ _ h k
  have h2 := toList_inj a b
  rw [e] at h2
  simpa using h2.symm)
theorem lt_asymm {a b : ByteArray} (h : strLt a b = true) : strLt b a = false := by
  cases hb : strLt b a
  · rfl
  · have := lt_trans h hb; rw [lt_irr] at this; cases this
theorem lt_ne {a b : ByteArray} (h : strLt a b = true) : a ≠ b := by rintro rfl; rw [lt_irr] at h; cases h
theorem le_not (a b : ByteArray) : (strLt a b || decide (a = b)) = !strLt b a := by
  cases h : strLt b a
  · cases k : strLt a b
    · rw [lt_total k h]; simp
    · rfl
  · rw [lt_asymm h]
    have := (lt_ne h).symm
    simp [this]
end Go.Am
end
section
open Go Go.Am Go.Proofs
namespace Go.Am.Pt
def lastK (l : List Lb) (k : Nat) : ByteArray :=
  match k with
  | 0 => ⟨#[]⟩
  | j + 1 => match l[j]? with
    | some y => y.1
    | none => ⟨#[]⟩
theorem labels_ok (l : List Lb) : AC PR 123 [lbs l] [] (.bool (labelsB l)) [] := by
  have hm : (l.map lb).length = l.length := List.length_map ..
  have hB : labelsB l = (decide (l.length ≤ 4) && (List.range l.length).all (okAt l)) := rfl
  generalize labelsB l = B at hB
  apply A123
  conv => whnf
  generalize hq : decide (4 < ((l.map lb).length : Int)) = q
  cases q
  case true =>
    have h1 : 4 < l.length := by have := of_decide_eq_true hq; omega
    rw [decide_eq_false (show ¬ l.length ≤ 4 by omega)] at hB
    subst hB
    conv => whnf
    exact at_end []
  have h4 : l.length ≤ 4 := by have := of_decide_eq_false hq; omega
  rw [decide_eq_true h4, Bool.true_and] at hB
  conv => whnf
  refine loop_to l.length (fun k e H => e = [(3, .str (lastK l k)), (9, lbs l), (10, i64 (l.map lb).length), (11, i64 k)] ∧ H = [] ∧ ∀ j, j < k → okAt l j = true) ?_ ?_
  · rintro k e H hk ⟨rfl, rfl, ht⟩
    conv => whnf
    generalize hq : decide ((k : Int) < ((l.map lb).length : Int)) = q
    cases q
    case false =>
      have hk2 : k = l.length := by have := of_decide_eq_false hq; omega
      have h1 : (List.range l.length).all (okAt l) = true := List.all_eq_true.2 fun j hj => ht j (by have := List.mem_range.1 hj; omega)
      rw [h1] at hB
      conv => whnf
      exact at_end []
    have hk2 : k < l.length := by have := of_decide_eq_true hq; omega
    have good : okAt l k = true → ∀ j, j < k + 1 → okAt l j = true := fun h j hj => by
      by_cases e : j = k
      · subst e; exact h
      · exact ht j (by omega)
    have bad : okAt l k = false → B = false := fun h => by rw [hB]; exact all_range_false hk2 h
    have hga := List.getElem?_eq_getElem hk2
    generalize l[k] = x at hga
    have hx : okAt l k = (nameB x.1 && nameB x.2 && (decide (k = 0) || (match l[k - 1]? with
      | none => true
      | some y => strLt y.1 x.1))) := by unfold okAt; rw [hga]; cases l[k - 1]? <;> rfl
    have hlk : lastK l (k + 1) = x.1 := by show (match l[k]? with | some y => y.1 | none => ⟨#[]⟩) = x.1; rw [hga]
    have c1 := name_ok x.1
    have c2 := name_ok x.2
    generalize nameB x.1 = q1 at hx c1
    generalize nameB x.2 = q2 at hx c2
    conv => whnf
    repeat ((first | refine And.intro rfl ?_ | refine kA1 ?_ _ | refine kA2 ?_ _ | refine k_row gmA ?_ | refine k_cell gmA ?_ | refine e_row gmA rfl ?_ | refine k_el gmA (by omega) ?_ | refine k_some gmA ?_ | refine f_set _ rfl ?_ | refine kA8 ?_); conv => whnf)
    refine call_closed c1 ?_
    conv => whnf
    cases q1 <;> conv => whnf
    · replace bad := bad hx
      exact at_end []
    refine call_closed c2 ?_
    conv => whnf
    cases q2 <;> conv => whnf
    · replace bad := bad hx
      exact at_end []
    cases k with
    | zero =>
      conv => whnf
      refine w_as ((0 + 1 : Nat) : Int) (by omega) (by omega) ?_
      conv => whnf
      exact at_head [] [] _ ⟨by omega, by rw [hlk], rfl, good hx⟩
    | succ j =>
      have hgb := List.getElem?_eq_getElem (show j < l.length by omega)
      generalize l[j]'(show j < l.length by omega) = y at hgb
      rw [show j + 1 - 1 = j from rfl, hgb, decide_eq_false (show ¬ j + 1 = 0 by omega)] at hx
      simp only [Bool.true_and, Bool.false_or] at hx
      have hly : lastK l (j + 1) = y.1 := by show (match l[j]? with | some y => y.1 | none => ⟨#[]⟩) = y.1; rw [hgb]
      generalize hq3 : decide (0 < ((j + 1 : Nat) : Int)) = q3
      cases q3
      case false => have := of_decide_eq_false hq3; omega
      conv => whnf
      rw [hly, le_not]
      cases hs : strLt y.1 x.1
      · rw [hs] at hx
        conv => whnf
        replace bad := bad hx
        exact at_end []
      · rw [hs] at hx
        conv => whnf
        refine w_as ((j + 1 + 1 : Nat) : Int) (by omega) (by omega) ?_
        conv => whnf
        exact at_head [] [] _ ⟨by omega, by rw [hlk], rfl, good hx⟩
  · conv => whnf
    exact at_head [] [] _ ⟨rfl, rfl, by omega⟩
theorem node_ok (n : Nd) : AC PR 81 [nodeA n] [] (.bool (nodeB n)) [] := by
  have hB : nodeB n = (nameB n.name && rightB n.cap && labelsB n.labels) := rfl
  have c1 := name_ok n.name
  have c2 := right_ok n.cap
  have c3 := labels_ok n.labels
  generalize nodeB n = B at hB
  generalize nameB n.name = q1 at hB c1
  generalize rightB n.cap = q2 at hB c2
  generalize labelsB n.labels = q3 at hB c3
  apply A81
  conv => whnf
  refine call_closed (c1) ?_
  conv => whnf
  cases q1 <;> conv => whnf
  · exact at_end []
  refine call_closed (c2) ?_
  conv => whnf
  cases q2 <;> conv => whnf
  · exact at_end []
  refine call_closed (c3) ?_
  conv => whnf
  cases q3 <;> exact at_end []
theorem queue_ok (n : Qu) : AC PR 82 [quA n] [] (.bool (queueB n)) [] := by
  have hB : queueB n = (nameB n.name && rightB n.quota) := rfl
  have c1 := name_ok n.name
  have c2 := right_ok n.quota
  generalize queueB n = B at hB
  generalize nameB n.name = q1 at hB c1
  generalize rightB n.quota = q2 at hB c2
  apply A82
  conv => whnf
  refine call_closed (c1) ?_
  conv => whnf
  cases q1 <;> conv => whnf
  · exact at_end []
  refine call_closed (c2) ?_
  conv => whnf
  cases q2 <;> exact at_end []
theorem maybe_ok (s : ByteArray) : AC PR 124 [.str s] [] (.bool (maybeB s)) [] := by
  have hB : maybeB s = (decide (s = ⟨#[]⟩) || nameB s) := rfl
  have c1 := name_ok s
  generalize maybeB s = B at hB
  generalize nameB s = q1 at hB c1
  apply A124
  conv => whnf
  generalize decide (s = ⟨#[]⟩) = q2 at hB
  cases q2 <;> conv => whnf
  case true => exact at_end []
  refine call_closed (c1) ?_
  conv => whnf
  cases q1 <;> exact at_end []
theorem task_ok (t : Tk) : AC PR 83 [tkA t] [] (.bool (taskB t)) [] := by
  have hB : taskB t = (nameB t.name && nameB t.queue && !(decide (t.prio < 0) || decide (9 < t.prio)) && rightB t.need && labelsB t.wants && maybeB t.apart && gangB t) := rfl
  have hG : gangB t = if t.gang = ⟨#[]⟩ then decide (t.size = 0) else nameB t.gang && decide (2 ≤ t.size) && decide (t.size ≤ 4) := rfl
  have hM : maybeB t.gang = (decide (t.gang = ⟨#[]⟩) || nameB t.gang) := rfl
  have c1 := name_ok t.name
  have c2 := name_ok t.queue
  have c3 := right_ok t.need
  have c4 := labels_ok t.wants
  have c5 := maybe_ok t.apart
  have c6 := maybe_ok t.gang
  generalize taskB t = B at hB
  generalize gangB t = G at hB hG
  generalize nameB t.name = q1 at hB c1
  generalize nameB t.queue = q2 at hB c2
  generalize rightB t.need = q3 at hB c3
  generalize labelsB t.wants = q4 at hB c4
  generalize maybeB t.apart = q5 at hB c5
  generalize maybeB t.gang = q6 at hM c6
  apply A83
  conv => whnf
  refine call_closed (c1) ?_
  conv => whnf
  cases q1 <;> conv => whnf
  · exact at_end []
  refine call_closed (c2) ?_
  conv => whnf
  cases q2 <;> conv => whnf
  · exact at_end []
  generalize decide (t.prio < 0) = p1 at hB
  cases p1 <;> conv => whnf
  case true => exact at_end []
  generalize decide (9 < t.prio) = p2 at hB
  cases p2 <;> conv => whnf
  case true => exact at_end []
  refine call_closed (c3) ?_
  conv => whnf
  cases q3 <;> conv => whnf
  · exact at_end []
  refine call_closed (c4) ?_
  conv => whnf
  cases q4 <;> conv => whnf
  · exact at_end []
  refine call_closed (c5) ?_
  conv => whnf
  cases q5 <;> conv => whnf
  · exact at_end []
  simp only [Bool.true_and, Bool.not_false, Bool.or_false] at hB
  subst hB
  by_cases hg : t.gang = ⟨#[]⟩
  · rw [if_pos hg] at hG
    rw [decide_eq_true hg] at hM
    subst hM
    refine call_closed (c6) ?_
    conv => whnf
    rw [decide_eq_true hg]
    conv => whnf
    exact at_end []
  rw [if_neg hg] at hG
  rw [decide_eq_false hg, Bool.false_or] at hM
  rw [← hM] at hG
  refine call_closed (c6) ?_
  conv => whnf
  cases q6 <;> conv => whnf
  · exact at_end []
  rw [decide_eq_false hg]
  conv => whnf
  generalize decide (2 ≤ t.size) = p4 at hG
  cases p4 <;> conv => whnf
  · exact at_end []
  exact at_end []
theorem named_ok (k : Int) : AC PR 84 [i64 k] [] (.bool (namedB k)) [] := by
  have hB : namedB k = (decide (k = 2) || decide (k = 4) || decide (k = 6) || decide (k = 7) || decide (k = 8)) := rfl
  generalize namedB k = B at hB
  apply A84
  conv => whnf
  generalize decide (k = 2) = q1 at hB
  cases q1 <;> conv => whnf
  case true => exact at_end []
  generalize decide (k = 4) = q1 at hB
  cases q1 <;> conv => whnf
  case true => exact at_end []
  generalize decide (k = 6) = q1 at hB
  cases q1 <;> conv => whnf
  case true => exact at_end []
  generalize decide (k = 7) = q1 at hB
  cases q1 <;> conv => whnf
  case true => exact at_end []
  generalize decide (k = 8) = q1 at hB
  cases q1 <;> exact at_end []
def catT (t : Tk) : ByteArray := t.name ++ t.queue ++ t.apart ++ t.gang
def nodeZ (n : Nd) : Bool := decide (n.name = ⟨#[]⟩) && (decide (n.cap.a = 0) && (decide (n.cap.b = 0) && (decide (n.cap.c = 0) && true))) && !decide (0 < ((n.labels.map lb).length : Int))
def taskZ (t : Tk) : Bool := decide (catT t = ⟨#[]⟩) && decide (t.prio = 0) && decide (t.size = 0) && (decide (t.need.a = 0) && (decide (t.need.b = 0) && (decide (t.need.c = 0) && true))) && !decide (0 < ((t.wants.map lb).length : Int))
def quZ' (q : Qu) : Bool := decide (q.name = ⟨#[]⟩) && (decide (q.quota.a = 0) && (decide (q.quota.b = 0) && (decide (q.quota.c = 0) && true)))
def bareB (o : Op') : Bool := (decide (o.kind = 1) || nodeZ o.node) && (decide (o.kind = 3) || quZ' o.queue) && (decide (o.kind = 5) || taskZ o.task) && (namedB o.kind || decide (o.name = ⟨#[]⟩))
theorem at_cat {a b : ByteArray} {k : AV → Prop} (h : (a.size : Int) + b.size ≤ 1000000000) (hk : k (.str (a ++ b))) : CatK a b k := ⟨by omega, hk⟩
structure Sized (t : Tk) : Prop where
  s : (t.name.size : Int) + t.queue.size + t.apart.size + t.gang.size ≤ 1000000000
theorem bare_ok (o : Op') (hz : Sized o.task) : AC PR 80 [opA o] [] (.bool (bareB o)) [] := by
  obtain ⟨hz⟩ := hz
  obtain ⟨kind, node, queue, task, name⟩ := o
  have hB : bareB ⟨kind, node, queue, task, name⟩ = ((decide (kind = 1) || (decide (node.name = ⟨#[]⟩) && (decide (node.cap.a = 0) && (decide (node.cap.b = 0) && (decide (node.cap.c = 0) && true))) && !decide (0 < ((node.labels.map lb).length : Int)))) &&
    (decide (kind = 3) || (decide (queue.name = ⟨#[]⟩) && (decide (queue.quota.a = 0) && (decide (queue.quota.b = 0) && (decide (queue.quota.c = 0) && true))))) &&
    (decide (kind = 5) || (decide (task.name ++ task.queue ++ task.apart ++ task.gang = ⟨#[]⟩) && decide (task.prio = 0) && decide (task.size = 0) && (decide (task.need.a = 0) && (decide (task.need.b = 0) && (decide (task.need.c = 0) && true))) && !decide (0 < ((task.wants.map lb).length : Int)))) &&
    (namedB kind || decide (name = ⟨#[]⟩))) := rfl
  have c1 := named_ok kind
  generalize bareB ⟨kind, node, queue, task, name⟩ = B at hB
  generalize namedB kind = N at hB c1
  simp only at hz
  have z1 : (task.name ++ task.queue).size = task.name.size + task.queue.size := ByteArray.size_append ..
  have z2 : (task.name ++ task.queue ++ task.apart).size = (task.name ++ task.queue).size + task.apart.size := ByteArray.size_append ..
  apply A80
  conv => whnf
  repeat ((first | refine And.intro rfl ?_ | refine kA1 ?_ _ | refine kA2 ?_ _ | refine k_row gmA ?_ | refine k_cell gmA ?_ | refine e_row gmA rfl ?_ | refine k_el gmA (by omega) ?_ | refine k_some gmA ?_ | refine f_set _ rfl ?_ | refine kA8 ?_); conv => whnf)
  generalize decide (kind = 1) = q1 at hB
  cases q1 <;> conv => whnf
  · generalize decide (node.name = ⟨#[]⟩) = q2 at hB
    cases q2 <;> conv => whnf
    · exact at_end []
    generalize (decide (node.cap.a = 0) && (decide (node.cap.b = 0) && (decide (node.cap.c = 0) && true))) = q3 at hB
    cases q3 <;> conv => whnf
    · exact at_end []
    generalize decide (0 < ((node.labels.map lb).length : Int)) = q4 at hB
    cases q4 <;> conv => whnf
    case true => exact at_end []
    generalize decide (kind = 3) = q5 at hB
    cases q5 <;> conv => whnf
    · generalize (decide (queue.name = ⟨#[]⟩) && (decide (queue.quota.a = 0) && (decide (queue.quota.b = 0) && (decide (queue.quota.c = 0) && true)))) = q6 at hB
      cases q6 <;> conv => whnf
      · exact at_end []
      generalize decide (kind = 5) = q7 at hB
      cases q7 <;> conv => whnf
      · refine at_cat (a := task.name) (b := task.queue) (by omega) ?_
        conv => whnf
        refine at_cat (a := task.name ++ task.queue) (b := task.apart) (by omega) ?_
        conv => whnf
        refine at_cat (a := task.name ++ task.queue ++ task.apart) (b := task.gang) (by omega) ?_
        conv => whnf
        generalize decide (task.name ++ task.queue ++ task.apart ++ task.gang = ⟨#[]⟩) = q8 at hB
        cases q8 <;> conv => whnf
        · exact at_end []
        generalize decide (task.prio = 0) = q9 at hB
        cases q9 <;> conv => whnf
        · exact at_end []
        generalize decide (task.size = 0) = q10 at hB
        cases q10 <;> conv => whnf
        · exact at_end []
        generalize (decide (task.need.a = 0) && (decide (task.need.b = 0) && (decide (task.need.c = 0) && true))) = q11 at hB
        cases q11 <;> conv => whnf
        · exact at_end []
        generalize decide (0 < ((task.wants.map lb).length : Int)) = q12 at hB
        cases q12 <;> conv => whnf
        case true => exact at_end []
        refine call_closed c1 ?_
        conv => whnf
        cases N <;> conv => whnf
        · generalize decide (name = ⟨#[]⟩) = q13 at hB
          cases q13 <;> exact at_end []
        · exact at_end []
      · refine call_closed c1 ?_
        conv => whnf
        cases N <;> conv => whnf
        · generalize decide (name = ⟨#[]⟩) = q13 at hB
          cases q13 <;> exact at_end []
        · exact at_end []
    · generalize decide (kind = 5) = q7 at hB
      cases q7 <;> conv => whnf
      · refine at_cat (a := task.name) (b := task.queue) (by omega) ?_
        conv => whnf
        refine at_cat (a := task.name ++ task.queue) (b := task.apart) (by omega) ?_
        conv => whnf
        refine at_cat (a := task.name ++ task.queue ++ task.apart) (b := task.gang) (by omega) ?_
        conv => whnf
        generalize decide (task.name ++ task.queue ++ task.apart ++ task.gang = ⟨#[]⟩) = q8 at hB
        cases q8 <;> conv => whnf
        · exact at_end []
        generalize decide (task.prio = 0) = q9 at hB
        cases q9 <;> conv => whnf
        · exact at_end []
        generalize decide (task.size = 0) = q10 at hB
        cases q10 <;> conv => whnf
        · exact at_end []
        generalize (decide (task.need.a = 0) && (decide (task.need.b = 0) && (decide (task.need.c = 0) && true))) = q11 at hB
        cases q11 <;> conv => whnf
        · exact at_end []
        generalize decide (0 < ((task.wants.map lb).length : Int)) = q12 at hB
        cases q12 <;> conv => whnf
        case true => exact at_end []
        refine call_closed c1 ?_
        conv => whnf
        cases N <;> conv => whnf
        · generalize decide (name = ⟨#[]⟩) = q13 at hB
          cases q13 <;> exact at_end []
        · exact at_end []
      · refine call_closed c1 ?_
        conv => whnf
        cases N <;> conv => whnf
        · generalize decide (name = ⟨#[]⟩) = q13 at hB
          cases q13 <;> exact at_end []
        · exact at_end []
  · generalize decide (kind = 3) = q5 at hB
    cases q5 <;> conv => whnf
    · generalize (decide (queue.name = ⟨#[]⟩) && (decide (queue.quota.a = 0) && (decide (queue.quota.b = 0) && (decide (queue.quota.c = 0) && true)))) = q6 at hB
      cases q6 <;> conv => whnf
      · exact at_end []
      generalize decide (kind = 5) = q7 at hB
      cases q7 <;> conv => whnf
      · refine at_cat (a := task.name) (b := task.queue) (by omega) ?_
        conv => whnf
        refine at_cat (a := task.name ++ task.queue) (b := task.apart) (by omega) ?_
        conv => whnf
        refine at_cat (a := task.name ++ task.queue ++ task.apart) (b := task.gang) (by omega) ?_
        conv => whnf
        generalize decide (task.name ++ task.queue ++ task.apart ++ task.gang = ⟨#[]⟩) = q8 at hB
        cases q8 <;> conv => whnf
        · exact at_end []
        generalize decide (task.prio = 0) = q9 at hB
        cases q9 <;> conv => whnf
        · exact at_end []
        generalize decide (task.size = 0) = q10 at hB
        cases q10 <;> conv => whnf
        · exact at_end []
        generalize (decide (task.need.a = 0) && (decide (task.need.b = 0) && (decide (task.need.c = 0) && true))) = q11 at hB
        cases q11 <;> conv => whnf
        · exact at_end []
        generalize decide (0 < ((task.wants.map lb).length : Int)) = q12 at hB
        cases q12 <;> conv => whnf
        case true => exact at_end []
        refine call_closed c1 ?_
        conv => whnf
        cases N <;> conv => whnf
        · generalize decide (name = ⟨#[]⟩) = q13 at hB
          cases q13 <;> exact at_end []
        · exact at_end []
      · refine call_closed c1 ?_
        conv => whnf
        cases N <;> conv => whnf
        · generalize decide (name = ⟨#[]⟩) = q13 at hB
          cases q13 <;> exact at_end []
        · exact at_end []
    · generalize decide (kind = 5) = q7 at hB
      cases q7 <;> conv => whnf
      · refine at_cat (a := task.name) (b := task.queue) (by omega) ?_
        conv => whnf
        refine at_cat (a := task.name ++ task.queue) (b := task.apart) (by omega) ?_
        conv => whnf
        refine at_cat (a := task.name ++ task.queue ++ task.apart) (b := task.gang) (by omega) ?_
        conv => whnf
        generalize decide (task.name ++ task.queue ++ task.apart ++ task.gang = ⟨#[]⟩) = q8 at hB
        cases q8 <;> conv => whnf
        · exact at_end []
        generalize decide (task.prio = 0) = q9 at hB
        cases q9 <;> conv => whnf
        · exact at_end []
        generalize decide (task.size = 0) = q10 at hB
        cases q10 <;> conv => whnf
        · exact at_end []
        generalize (decide (task.need.a = 0) && (decide (task.need.b = 0) && (decide (task.need.c = 0) && true))) = q11 at hB
        cases q11 <;> conv => whnf
        · exact at_end []
        generalize decide (0 < ((task.wants.map lb).length : Int)) = q12 at hB
        cases q12 <;> conv => whnf
        case true => exact at_end []
        refine call_closed c1 ?_
        conv => whnf
        cases N <;> conv => whnf
        · generalize decide (name = ⟨#[]⟩) = q13 at hB
          cases q13 <;> exact at_end []
        · exact at_end []
      · refine call_closed c1 ?_
        conv => whnf
        cases N <;> conv => whnf
        · generalize decide (name = ⟨#[]⟩) = q13 at hB
          cases q13 <;> exact at_end []
        · exact at_end []
def pOpR (o : Op') : Bool := bareB o && (if o.kind = 1 then nodeB o.node else if o.kind = 3 then queueB o.queue else if o.kind = 5 then taskB o.task else if o.kind = 9 then true else namedB o.kind && nameB o.name)
theorem popRight_ok (o : Op') (hz : Sized o.task) : AC PR 43 [opA o] [] (.bool (pOpR o)) [] := by
  have hB : pOpR o = (bareB o && (if o.kind = 1 then nodeB o.node else if o.kind = 3 then queueB o.queue else if o.kind = 5 then taskB o.task else if o.kind = 9 then true else namedB o.kind && nameB o.name)) := rfl
  have c0 := bare_ok o hz
  have c1 := node_ok o.node
  have c2 := queue_ok o.queue
  have c3 := task_ok o.task
  have c4 := named_ok o.kind
  have c5 := name_ok o.name
  generalize pOpR o = B at hB
  generalize bareB o = q0 at hB c0
  generalize nodeB o.node = q1 at hB c1
  generalize queueB o.queue = q2 at hB c2
  generalize taskB o.task = q3 at hB c3
  generalize namedB o.kind = q4 at hB c4
  generalize nameB o.name = q5 at hB c5
  apply A43
  conv => whnf
  refine call_closed (c0) ?_
  conv => whnf
  cases q0 <;> conv => whnf
  · exact at_end []
  rw [Bool.true_and] at hB
  generalize h1 : decide (o.kind = 1) = p1
  cases p1 <;> conv => whnf
  case true =>
    rw [if_pos (of_decide_eq_true h1)] at hB
    refine call_closed (c1) ?_
    conv => whnf
    exact at_end []
  rw [if_neg (of_decide_eq_false h1)] at hB
  generalize h3 : decide (o.kind = 3) = p1
  cases p1 <;> conv => whnf
  case true =>
    rw [if_pos (of_decide_eq_true h3)] at hB
    refine call_closed (c2) ?_
    conv => whnf
    exact at_end []
  rw [if_neg (of_decide_eq_false h3)] at hB
  generalize h5 : decide (o.kind = 5) = p1
  cases p1 <;> conv => whnf
  case true =>
    rw [if_pos (of_decide_eq_true h5)] at hB
    refine call_closed (c3) ?_
    conv => whnf
    exact at_end []
  rw [if_neg (of_decide_eq_false h5)] at hB
  generalize h9 : decide (o.kind = 9) = p1
  cases p1 <;> conv => whnf
  case true =>
    rw [if_pos (of_decide_eq_true h9)] at hB
    exact at_end []
  rw [if_neg (of_decide_eq_false h9)] at hB
  refine call_closed (c4) ?_
  conv => whnf
  cases q4 <;> conv => whnf
  · exact at_end []
  refine call_closed (c5) ?_
  conv => whnf
  exact at_end []
theorem empty_iff (a : ByteArray) : a = ⟨#[]⟩ ↔ a.size = 0 := by
  constructor
  · rintro rfl; rfl
  · intro h
    cases a with
    | mk d =>
      have : d = #[] := Array.size_eq_zero_iff.1 h
      rw [this]
theorem cat_empty (a b : ByteArray) : decide (a ++ b = ⟨#[]⟩) = (decide (a = ⟨#[]⟩) && decide (b = ⟨#[]⟩)) := by
  rw [Bool.eq_iff_iff]
  simp only [Bool.and_eq_true, decide_eq_true_eq, empty_iff, ByteArray.size_append]
  omega
theorem len_z (l : List Lb) : (!decide (0 < ((l.map lb).length : Int))) = decide (l = []) := by
  cases l with
  | nil => rfl
  | cons a l =>
    have : (0 : Int) < (((a :: l).map lb).length : Int) := by simp
    rw [decide_eq_true this]; simp
theorem nodeZ_eq (n : Nd) : nodeZ n = nodeEq n ndZ := by
  unfold nodeZ nodeEq rsEq
  rw [len_z]; rfl
theorem taskZ_eq (t : Tk) : taskZ t = taskEq t tkZ := by
  unfold taskZ taskEq rsEq catT
  rw [len_z, cat_empty, cat_empty, cat_empty]
  rw [Bool.eq_iff_iff]
  simp only [Bool.and_eq_true, Bool.and_true, decide_eq_true_eq, show tkZ.name = ⟨#[]⟩ from rfl, show tkZ.queue = ⟨#[]⟩ from rfl, show tkZ.prio = 0 from rfl, show tkZ.need = ⟨0, 0, 0⟩ from rfl, show tkZ.wants = [] from rfl, show tkZ.apart = ⟨#[]⟩ from rfl, show tkZ.gang = ⟨#[]⟩ from rfl, show tkZ.size = 0 from rfl]
  constructor
  · rintro ⟨⟨⟨⟨⟨⟨⟨a, b⟩, c⟩, d⟩, e⟩, f⟩, g⟩, h⟩; exact ⟨⟨⟨⟨⟨⟨⟨a, b⟩, e⟩, g⟩, h⟩, c⟩, d⟩, f⟩
  · rintro ⟨⟨⟨⟨⟨⟨⟨a, b⟩, e⟩, g⟩, h⟩, c⟩, d⟩, f⟩; exact ⟨⟨⟨⟨⟨⟨⟨a, b⟩, c⟩, d⟩, e⟩, f⟩, g⟩, h⟩
theorem namedB_cases (k : Int) : namedB k = true ↔ k = 2 ∨ k = 4 ∨ k = 6 ∨ k = 7 ∨ k = 8 := by
  unfold namedB
  simp only [Bool.or_eq_true, decide_eq_true_eq, or_assoc]
theorem pOpR_eq (o : Op') : pOpR o = opR o := by
  unfold pOpR opR bareB
  rw [nodeZ_eq, taskZ_eq, show quZ' o.queue = quEq o.queue quZ from rfl]
  by_cases hk : o.kind < 1 ∨ 9 < o.kind
  · have hn : namedB o.kind = false := by
      cases h : namedB o.kind
      · rfl
      · rw [namedB_cases] at h; omega
    have e : (decide (o.kind < 1) || decide (9 < o.kind)) = true := by simpa using hk
    rw [e, if_neg (by omega), if_neg (by omega), if_neg (by omega), if_neg (by omega), hn]
    simp
  · have e : (decide (o.kind < 1) || decide (9 < o.kind)) = false := by
      rw [Bool.or_eq_false_iff]
      exact ⟨decide_eq_false (by omega), decide_eq_false (by omega)⟩
    rw [e, Bool.not_false, Bool.true_and]
    congr 1
    by_cases h1 : o.kind = 1
    · rw [if_pos h1, if_pos h1]
    by_cases h3 : o.kind = 3
    · rw [if_neg h1, if_pos h3, if_neg h1, if_pos h3]
    by_cases h5 : o.kind = 5
    · rw [if_neg h1, if_neg h3, if_pos h5, if_neg h1, if_neg h3, if_pos h5]
    by_cases h9 : o.kind = 9
    · rw [if_neg h1, if_neg h3, if_neg h5, if_pos h9, if_neg h1, if_neg h3, if_neg h5, if_pos h9]
    rw [if_neg h1, if_neg h3, if_neg h5, if_neg h9, if_neg h1, if_neg h3, if_neg h5, if_neg h9]
    have : namedB o.kind = true := by rw [namedB_cases]; omega
    rw [this, Bool.true_and]
theorem opRight_ok (o : Op') (hz : Sized o.task) : AC PR 43 [opA o] [] (.bool (opR o)) [] := by
  rw [← pOpR_eq]; exact popRight_ok o hz
end Go.Am.Pt
end
