/- Part of the proof: what functions of the program compute, walked. No conditions. -/
import Derived.Test.YtejbmdnhchoilaaGreatP00
set_option linter.unusedVariables false
set_option linter.unusedSimpArgs false
set_option maxRecDepth 100000
section
open Go Go.Am Go.Proofs
namespace Go.Am.Pt
def lastK(l:List Lb)(k:Nat):ByteArray:=
 match k with
 |0=>⟨#[]⟩
 |j+1=>match l[j]? with
  |some y=>y.1
  |none=>⟨#[]⟩
theorem labels_ok(l:List Lb):AC PR 123 [lbs l] [] (.bool (labelsB l)) []:=by
 have hm:(l.map lb).length=l.length:=List.length_map ..
 have hB:labelsB l=(decide (l.length≤4) && (List.range l.length).all (okAt l)):=rfl
 generalize labelsB l=B at hB
 apply A123
 conv=>whnf
 generalize hq:decide (4<((l.map lb).length:Int))=q
 cases q
 case true=>
  have h1:4<l.length:=by have:=of_decide_eq_true hq;omega
  rw[decide_eq_false (show¬l.length≤4 by omega)]at hB
  subst hB
  conv=>whnf
  exact at_end []
 have h4:l.length≤4:=by have:=of_decide_eq_false hq;omega
 rw[decide_eq_true h4,Bool.true_and]at hB
 conv=>whnf
 refine loop_to l.length (fun k e H=>e=[(3, .str (lastK l k)),(9,lbs l),(10,i64 (l.map lb).length),(11,i64 k)]∧H=[]∧∀j,j<k→okAt l j=true) ?_ ?_
 ·rintro k e H hk ⟨rfl,rfl,ht⟩
  conv=>whnf
  generalize hq:decide ((k:Int)<((l.map lb).length:Int))=q
  cases q
  case false=>
   have hk2:k=l.length:=by have:=of_decide_eq_false hq;omega
   have h1:(List.range l.length).all (okAt l)=true:=List.all_eq_true.2 fun j hj=>ht j (by have:=List.mem_range.1 hj;omega)
   rw[h1]at hB
   conv=>whnf
   exact at_end []
  have hk2:k<l.length:=by have:=of_decide_eq_true hq;omega
  have good:okAt l k=true→∀j,j<k+1→okAt l j=true:=fun h j hj=>by
   by_cases e:j=k
   ·subst e;exact h
   ·exact ht j (by omega)
  have bad:okAt l k=false→B=false:=fun h=>by rw[hB];exact all_range_false hk2 h
  have hga:=List.getElem?_eq_getElem hk2
  generalize l[k]=x at hga
  have hx:okAt l k=(nameB x.1&&nameB x.2&& (decide (k=0) || (match l[k-1]? with
   |none=>true
   |some y=>strLt y.1 x.1))):=by unfold okAt;rw[hga]<;>cases l[k-1]? <;>rfl
  have hlk:lastK l (k+1)=x.1:=by show(match l[k]? with|some y=>y.1|none=>⟨#[]⟩)=x.1;rw[hga]
  have c1:=name_ok x.1
  have c2:=name_ok x.2
  generalize nameB x.1=q1 at hx c1
  generalize nameB x.2=q2 at hx c2
  conv=>whnf
  refine tA ?_
  refine call_closed c1 ?_
  conv=>whnf
  cases q1<;>conv=>whnf
  ·replace bad:=bad hx
   exact at_end []
  refine call_closed c2 ?_
  conv=>whnf
  cases q2<;>conv=>whnf
  ·replace bad:=bad hx
   exact at_end []
  cases k with
  |zero=>
   conv=>whnf
   refine w_as ((0+1:Nat):Int) (by omega) (by omega) ?_
   conv=>whnf
   exact at_head [] [] _ ⟨by omega,by rw[hlk],rfl,good hx⟩
  |succ j=>
   have hgb:=List.getElem?_eq_getElem (show j<l.length by omega)
   generalize l[j]'(show j<l.length by omega)=y at hgb
   rw[show j+1-1=j from rfl,hgb,decide_eq_false (show¬j+1=0 by omega)]at hx
   simp only[Bool.true_and,Bool.false_or]at hx
   have hly:lastK l (j+1)=y.1:=by show(match l[j]? with|some y=>y.1|none=>⟨#[]⟩)=y.1;rw[hgb]
   generalize hq3:decide (0<((j+1:Nat):Int))=q3
   cases q3
   case false=>have:=of_decide_eq_false hq3;omega
   conv=>whnf
   rw[hly,le_not]
   cases hs:strLt y.1 x.1
   ·rw[hs]at hx
    conv=>whnf
    replace bad:=bad hx
    exact at_end []
   ·rw[hs]at hx
    conv=>whnf
    refine w_as ((j+1+1:Nat):Int) (by omega) (by omega) ?_
    conv=>whnf
    exact at_head [] [] _ ⟨by omega,by rw[hlk],rfl,good hx⟩
 ·conv=>whnf
  exact at_head [] [] _ ⟨rfl,rfl,by omega⟩
theorem node_ok(n:Nd):AC PR 81 [nodeA n] [] (.bool (nodeB n)) []:=by
 have hB:nodeB n=(nameB n.name&&rightB n.cap&&labelsB n.labels):=rfl
 have c1:=name_ok n.name
 have c2:=right_ok n.cap
 have c3:=labels_ok n.labels
 generalize nodeB n=B at hB
 generalize nameB n.name=q1 at hB c1
 generalize rightB n.cap=q2 at hB c2
 generalize labelsB n.labels=q3 at hB c3
 apply A81
 conv=>whnf
 refine call_closed (c1) ?_
 conv=>whnf
 cases q1<;>conv=>whnf
 ·exact at_end []
 refine call_closed (c2) ?_
 conv=>whnf
 cases q2<;>conv=>whnf
 ·exact at_end []
 refine call_closed (c3) ?_
 conv=>whnf
 cases q3<;>exact at_end []
theorem queue_ok(n:Qu):AC PR 82 [quA n] [] (.bool (queueB n)) []:=by
 have hB:queueB n=(nameB n.name&&rightB n.quota):=rfl
 have c1:=name_ok n.name
 have c2:=right_ok n.quota
 generalize queueB n=B at hB
 generalize nameB n.name=q1 at hB c1
 generalize rightB n.quota=q2 at hB c2
 apply A82
 conv=>whnf
 refine call_closed (c1) ?_
 conv=>whnf
 cases q1<;>conv=>whnf
 ·exact at_end []
 refine call_closed (c2) ?_
 conv=>whnf
 cases q2<;>exact at_end []
theorem maybe_ok(s:ByteArray):AC PR 124 [.str s] [] (.bool (maybeB s)) []:=by
 have hB:maybeB s=(decide (s=⟨#[]⟩) ||nameB s):=rfl
 have c1:=name_ok s
 generalize maybeB s=B at hB
 generalize nameB s=q1 at hB c1
 apply A124
 conv=>whnf
 generalize decide (s=⟨#[]⟩)=q2 at hB
 cases q2<;>conv=>whnf
 case true=>exact at_end []
 refine call_closed (c1) ?_
 conv=>whnf
 cases q1<;>exact at_end []
theorem task_ok(t:Tk):AC PR 83 [tkA t] [] (.bool (taskB t)) []:=by
 have hB:taskB t=(nameB t.name&&nameB t.queue&& !(decide (t.prio<0) ||decide (9<t.prio)) &&rightB t.need&&labelsB t.wants&&maybeB t.apart&&gangB t):=rfl
 have hG:gangB t=if t.gang=⟨#[]⟩then decide (t.size=0)else nameB t.gang&&decide (2≤t.size) &&decide (t.size≤4):=rfl
 have hM:maybeB t.gang=(decide (t.gang=⟨#[]⟩) ||nameB t.gang):=rfl
 have c1:=name_ok t.name
 have c2:=name_ok t.queue
 have c3:=right_ok t.need
 have c4:=labels_ok t.wants
 have c5:=maybe_ok t.apart
 have c6:=maybe_ok t.gang
 generalize taskB t=B at hB
 generalize gangB t=G at hB hG
 generalize nameB t.name=q1 at hB c1
 generalize nameB t.queue=q2 at hB c2
 generalize rightB t.need=q3 at hB c3
 generalize labelsB t.wants=q4 at hB c4
 generalize maybeB t.apart=q5 at hB c5
 generalize maybeB t.gang=q6 at hM c6
 apply A83
 conv=>whnf
 refine call_closed (c1) ?_
 conv=>whnf
 cases q1<;>conv=>whnf
 ·exact at_end []
 refine call_closed (c2) ?_
 conv=>whnf
 cases q2<;>conv=>whnf
 ·exact at_end []
 generalize decide (t.prio<0)=p1 at hB
 cases p1<;>conv=>whnf
 case true=>exact at_end []
 generalize decide (9<t.prio)=p2 at hB
 cases p2<;>conv=>whnf
 case true=>exact at_end []
 refine call_closed (c3) ?_
 conv=>whnf
 cases q3<;>conv=>whnf
 ·exact at_end []
 refine call_closed (c4) ?_
 conv=>whnf
 cases q4<;>conv=>whnf
 ·exact at_end []
 refine call_closed (c5) ?_
 conv=>whnf
 cases q5<;>conv=>whnf
 ·exact at_end []
 simp only[Bool.true_and,Bool.not_false,Bool.or_false]at hB
 subst hB
 by_cases hg:t.gang=⟨#[]⟩
 ·rw[if_pos hg]at hG
  rw[decide_eq_true hg]at hM
  subst hM
  refine call_closed (c6) ?_
  conv=>whnf
  rw[decide_eq_true hg]
  conv=>whnf
  exact at_end []
 rw[if_neg hg]at hG
 rw[decide_eq_false hg,Bool.false_or]at hM
 rw[←hM]at hG
 refine call_closed (c6) ?_
 conv=>whnf
 cases q6<;>conv=>whnf
 ·exact at_end []
 rw[decide_eq_false hg]
 conv=>whnf
 generalize decide (2≤t.size)=p4 at hG
 cases p4<;>conv=>whnf
 ·exact at_end []
 exact at_end []
theorem named_ok(k:Int):AC PR 84 [i64 k] [] (.bool (namedB k)) []:=by
 have hB:namedB k=(decide (k=2) ||decide (k=4) ||decide (k=6) ||decide (k=7) ||decide (k=8)):=rfl
 generalize namedB k=B at hB
 apply A84
 conv=>whnf
 generalize decide (k=2)=q1 at hB
 cases q1<;>conv=>whnf
 case true=>exact at_end []
 generalize decide (k=4)=q1 at hB
 cases q1<;>conv=>whnf
 case true=>exact at_end []
 generalize decide (k=6)=q1 at hB
 cases q1<;>conv=>whnf
 case true=>exact at_end []
 generalize decide (k=7)=q1 at hB
 cases q1<;>conv=>whnf
 case true=>exact at_end []
 generalize decide (k=8)=q1 at hB
 cases q1<;>exact at_end []
def catT(t:Tk):ByteArray:=t.name++t.queue++t.apart++t.gang
def nodeZ(n:Nd):Bool:=decide (n.name=⟨#[]⟩) && (decide (n.cap.a=0) && (decide (n.cap.b=0) && (decide (n.cap.c=0) &&true))) && !decide (0<((n.labels.map lb).length:Int))
def taskZ(t:Tk):Bool:=decide (catT t=⟨#[]⟩) &&decide (t.prio=0) &&decide (t.size=0) && (decide (t.need.a=0) && (decide (t.need.b=0) && (decide (t.need.c=0) &&true))) && !decide (0<((t.wants.map lb).length:Int))
def quZ'(q:Qu):Bool:=decide (q.name=⟨#[]⟩) && (decide (q.quota.a=0) && (decide (q.quota.b=0) && (decide (q.quota.c=0) &&true)))
def bareB(o:Op'):Bool:=(decide (o.kind=1) ||nodeZ o.node) && (decide (o.kind=3) ||quZ' o.queue) && (decide (o.kind=5) ||taskZ o.task) && (namedB o.kind||decide (o.name=⟨#[]⟩))
theorem at_cat {a b:ByteArray}{k:AV→Prop}(h:(a.size:Int)+b.size≤1000000000)(hk:k (.str (a++b))):CatK a b k:=⟨by omega,hk⟩
structure Sized(t:Tk):Prop where
 s:(t.name.size:Int)+t.queue.size+t.apart.size+t.gang.size≤1000000000
theorem bare_ok(o:Op')(hz:Sized o.task):AC PR 80 [opA o] [] (.bool (bareB o)) []:=by
 obtain⟨hz⟩:=hz
 obtain⟨kind,node,queue,task,name⟩:=o
 have hB:bareB ⟨kind,node,queue,task,name⟩=((decide (kind=1) || (decide (node.name=⟨#[]⟩) && (decide (node.cap.a=0) && (decide (node.cap.b=0) && (decide (node.cap.c=0) &&true))) && !decide (0<((node.labels.map lb).length:Int)))) &&
  (decide (kind=3) || (decide (queue.name=⟨#[]⟩) && (decide (queue.quota.a=0) && (decide (queue.quota.b=0) && (decide (queue.quota.c=0) &&true))))) &&
  (decide (kind=5) || (decide (task.name++task.queue++task.apart++task.gang=⟨#[]⟩) &&decide (task.prio=0) &&decide (task.size=0) && (decide (task.need.a=0) && (decide (task.need.b=0) && (decide (task.need.c=0) &&true))) && !decide (0<((task.wants.map lb).length:Int)))) &&
  (namedB kind||decide (name=⟨#[]⟩))):=rfl
 have c1:=named_ok kind
 generalize bareB ⟨kind,node,queue,task,name⟩=B at hB
 generalize namedB kind=N at hB c1
 simp only at hz
 have z1:(task.name++task.queue).size=task.name.size+task.queue.size:=ByteArray.size_append ..
 have z2:(task.name++task.queue++task.apart).size=(task.name++task.queue).size+task.apart.size:=ByteArray.size_append ..
 apply A80
 conv=>whnf
 refine tA ?_
 generalize decide (kind=1)=q1 at hB
 cases q1<;>conv=>whnf
 ·generalize decide (node.name=⟨#[]⟩)=q2 at hB
  cases q2<;>conv=>whnf
  ·exact at_end []
  generalize(decide (node.cap.a=0) && (decide (node.cap.b=0) && (decide (node.cap.c=0) &&true)))=q3 at hB
  cases q3<;>conv=>whnf
  ·exact at_end []
  generalize decide (0<((node.labels.map lb).length:Int))=q4 at hB
  cases q4<;>conv=>whnf
  case true=>exact at_end []
  generalize decide (kind=3)=q5 at hB
  cases q5<;>conv=>whnf
  ·generalize(decide (queue.name=⟨#[]⟩) && (decide (queue.quota.a=0) && (decide (queue.quota.b=0) && (decide (queue.quota.c=0) &&true))))=q6 at hB
   cases q6<;>conv=>whnf
   ·exact at_end []
   generalize decide (kind=5)=q7 at hB
   cases q7<;>conv=>whnf
   ·refine at_cat (a:=task.name) (b:=task.queue) (by omega) ?_
    conv=>whnf
    refine at_cat (a:=task.name++task.queue) (b:=task.apart) (by omega) ?_
    conv=>whnf
    refine at_cat (a:=task.name++task.queue++task.apart) (b:=task.gang) (by omega) ?_
    conv=>whnf
    generalize decide (task.name++task.queue++task.apart++task.gang=⟨#[]⟩)=q8 at hB
    cases q8<;>conv=>whnf
    ·exact at_end []
    generalize decide (task.prio=0)=q9 at hB
    cases q9<;>conv=>whnf
    ·exact at_end []
    generalize decide (task.size=0)=q10 at hB
    cases q10<;>conv=>whnf
    ·exact at_end []
    generalize(decide (task.need.a=0) && (decide (task.need.b=0) && (decide (task.need.c=0) &&true)))=q11 at hB
    cases q11<;>conv=>whnf
    ·exact at_end []
    generalize decide (0<((task.wants.map lb).length:Int))=q12 at hB
    cases q12<;>conv=>whnf
    case true=>exact at_end []
    refine call_closed c1 ?_
    conv=>whnf
    cases N<;>conv=>whnf
    ·generalize decide (name=⟨#[]⟩)=q13 at hB
     cases q13<;>exact at_end []
    ·exact at_end []
   ·refine call_closed c1 ?_
    conv=>whnf
    cases N<;>conv=>whnf
    ·generalize decide (name=⟨#[]⟩)=q13 at hB
     cases q13<;>exact at_end []
    ·exact at_end []
  ·generalize decide (kind=5)=q7 at hB
   cases q7<;>conv=>whnf
   ·refine at_cat (a:=task.name) (b:=task.queue) (by omega) ?_
    conv=>whnf
    refine at_cat (a:=task.name++task.queue) (b:=task.apart) (by omega) ?_
    conv=>whnf
    refine at_cat (a:=task.name++task.queue++task.apart) (b:=task.gang) (by omega) ?_
    conv=>whnf
    generalize decide (task.name++task.queue++task.apart++task.gang=⟨#[]⟩)=q8 at hB
    cases q8<;>conv=>whnf
    ·exact at_end []
    generalize decide (task.prio=0)=q9 at hB
    cases q9<;>conv=>whnf
    ·exact at_end []
    generalize decide (task.size=0)=q10 at hB
    cases q10<;>conv=>whnf
    ·exact at_end []
    generalize(decide (task.need.a=0) && (decide (task.need.b=0) && (decide (task.need.c=0) &&true)))=q11 at hB
    cases q11<;>conv=>whnf
    ·exact at_end []
    generalize decide (0<((task.wants.map lb).length:Int))=q12 at hB
    cases q12<;>conv=>whnf
    case true=>exact at_end []
    refine call_closed c1 ?_
    conv=>whnf
    cases N<;>conv=>whnf
    ·generalize decide (name=⟨#[]⟩)=q13 at hB
     cases q13<;>exact at_end []
    ·exact at_end []
   ·refine call_closed c1 ?_
    conv=>whnf
    cases N<;>conv=>whnf
    ·generalize decide (name=⟨#[]⟩)=q13 at hB
     cases q13<;>exact at_end []
    ·exact at_end []
 ·generalize decide (kind=3)=q5 at hB
  cases q5<;>conv=>whnf
  ·generalize(decide (queue.name=⟨#[]⟩) && (decide (queue.quota.a=0) && (decide (queue.quota.b=0) && (decide (queue.quota.c=0) &&true))))=q6 at hB
   cases q6<;>conv=>whnf
   ·exact at_end []
   generalize decide (kind=5)=q7 at hB
   cases q7<;>conv=>whnf
   ·refine at_cat (a:=task.name) (b:=task.queue) (by omega) ?_
    conv=>whnf
    refine at_cat (a:=task.name++task.queue) (b:=task.apart) (by omega) ?_
    conv=>whnf
    refine at_cat (a:=task.name++task.queue++task.apart) (b:=task.gang) (by omega) ?_
    conv=>whnf
    generalize decide (task.name++task.queue++task.apart++task.gang=⟨#[]⟩)=q8 at hB
    cases q8<;>conv=>whnf
    ·exact at_end []
    generalize decide (task.prio=0)=q9 at hB
    cases q9<;>conv=>whnf
    ·exact at_end []
    generalize decide (task.size=0)=q10 at hB
    cases q10<;>conv=>whnf
    ·exact at_end []
    generalize(decide (task.need.a=0) && (decide (task.need.b=0) && (decide (task.need.c=0) &&true)))=q11 at hB
    cases q11<;>conv=>whnf
    ·exact at_end []
    generalize decide (0<((task.wants.map lb).length:Int))=q12 at hB
    cases q12<;>conv=>whnf
    case true=>exact at_end []
    refine call_closed c1 ?_
    conv=>whnf
    cases N<;>conv=>whnf
    ·generalize decide (name=⟨#[]⟩)=q13 at hB
     cases q13<;>exact at_end []
    ·exact at_end []
   ·refine call_closed c1 ?_
    conv=>whnf
    cases N<;>conv=>whnf
    ·generalize decide (name=⟨#[]⟩)=q13 at hB
     cases q13<;>exact at_end []
    ·exact at_end []
  ·generalize decide (kind=5)=q7 at hB
   cases q7<;>conv=>whnf
   ·refine at_cat (a:=task.name) (b:=task.queue) (by omega) ?_
    conv=>whnf
    refine at_cat (a:=task.name++task.queue) (b:=task.apart) (by omega) ?_
    conv=>whnf
    refine at_cat (a:=task.name++task.queue++task.apart) (b:=task.gang) (by omega) ?_
    conv=>whnf
    generalize decide (task.name++task.queue++task.apart++task.gang=⟨#[]⟩)=q8 at hB
    cases q8<;>conv=>whnf
    ·exact at_end []
    generalize decide (task.prio=0)=q9 at hB
    cases q9<;>conv=>whnf
    ·exact at_end []
    generalize decide (task.size=0)=q10 at hB
    cases q10<;>conv=>whnf
    ·exact at_end []
    generalize(decide (task.need.a=0) && (decide (task.need.b=0) && (decide (task.need.c=0) &&true)))=q11 at hB
    cases q11<;>conv=>whnf
    ·exact at_end []
    generalize decide (0<((task.wants.map lb).length:Int))=q12 at hB
    cases q12<;>conv=>whnf
    case true=>exact at_end []
    refine call_closed c1 ?_
    conv=>whnf
    cases N<;>conv=>whnf
    ·generalize decide (name=⟨#[]⟩)=q13 at hB
     cases q13<;>exact at_end []
    ·exact at_end []
   ·refine call_closed c1 ?_
    conv=>whnf
    cases N<;>conv=>whnf
    ·generalize decide (name=⟨#[]⟩)=q13 at hB
     cases q13<;>exact at_end []
    ·exact at_end []
def pOpR(o:Op'):Bool:=bareB o&& (if o.kind=1 then nodeB o.node else if o.kind=3 then queueB o.queue else if o.kind=5 then taskB o.task else if o.kind=9 then true else namedB o.kind&&nameB o.name)
theorem popRight_ok(o:Op')(hz:Sized o.task):AC PR 43 [opA o] [] (.bool (pOpR o)) []:=by
 have hB:pOpR o=(bareB o&& (if o.kind=1 then nodeB o.node else if o.kind=3 then queueB o.queue else if o.kind=5 then taskB o.task else if o.kind=9 then true else namedB o.kind&&nameB o.name)):=rfl
 have c0:=bare_ok o hz
 have c1:=node_ok o.node
 have c2:=queue_ok o.queue
 have c3:=task_ok o.task
 have c4:=named_ok o.kind
 have c5:=name_ok o.name
 generalize pOpR o=B at hB
 generalize bareB o=q0 at hB c0
 generalize nodeB o.node=q1 at hB c1
 generalize queueB o.queue=q2 at hB c2
 generalize taskB o.task=q3 at hB c3
 generalize namedB o.kind=q4 at hB c4
 generalize nameB o.name=q5 at hB c5
 apply A43
 conv=>whnf
 refine call_closed (c0) ?_
 conv=>whnf
 cases q0<;>conv=>whnf
 ·exact at_end []
 rw[Bool.true_and]at hB
 generalize h1:decide (o.kind=1)=p1
 cases p1<;>conv=>whnf
 case true=>
  rw[if_pos (of_decide_eq_true h1)]at hB
  refine call_closed (c1) ?_
  conv=>whnf
  exact at_end []
 rw[if_neg (of_decide_eq_false h1)]at hB
 generalize h3:decide (o.kind=3)=p1
 cases p1<;>conv=>whnf
 case true=>
  rw[if_pos (of_decide_eq_true h3)]at hB
  refine call_closed (c2) ?_
  conv=>whnf
  exact at_end []
 rw[if_neg (of_decide_eq_false h3)]at hB
 generalize h5:decide (o.kind=5)=p1
 cases p1<;>conv=>whnf
 case true=>
  rw[if_pos (of_decide_eq_true h5)]at hB
  refine call_closed (c3) ?_
  conv=>whnf
  exact at_end []
 rw[if_neg (of_decide_eq_false h5)]at hB
 generalize h9:decide (o.kind=9)=p1
 cases p1<;>conv=>whnf
 case true=>
  rw[if_pos (of_decide_eq_true h9)]at hB
  exact at_end []
 rw[if_neg (of_decide_eq_false h9)]at hB
 refine call_closed (c4) ?_
 conv=>whnf
 cases q4<;>conv=>whnf
 ·exact at_end []
 refine call_closed (c5) ?_
 conv=>whnf
 exact at_end []
theorem empty_iff(a:ByteArray):a=⟨#[]⟩ ↔a.size=0:=by
 constructor
 ·rintro rfl;rfl
 ·intro h
  cases a with
  |mk d=>
   have:d= #[]:=Array.size_eq_zero_iff.1 h
   rw[this]
theorem cat_empty(a b:ByteArray):decide (a++b=⟨#[]⟩)=(decide (a=⟨#[]⟩) &&decide (b=⟨#[]⟩)):=by
 rw[Bool.eq_iff_iff]
 simp only[Bool.and_eq_true,decide_eq_true_eq,empty_iff,ByteArray.size_append]
 omega
theorem len_z(l:List Lb):(!decide (0<((l.map lb).length:Int)))=decide (l=[]):=by
 cases l with
 |nil=>rfl
 |cons a l=>
  have:(0:Int)<(((a::l).map lb).length:Int):=by simp
  rw[decide_eq_true this];simp
theorem nodeZ_eq(n:Nd):nodeZ n=nodeEq n ndZ:=by
 unfold nodeZ nodeEq rsEq
 rw[len_z];rfl
theorem taskZ_eq(t:Tk):taskZ t=taskEq t tkZ:=by
 unfold taskZ taskEq rsEq catT
 rw[len_z,cat_empty,cat_empty,cat_empty]
 rw[Bool.eq_iff_iff]
 simp only[Bool.and_eq_true,Bool.and_true,decide_eq_true_eq,show tkZ.name=⟨#[]⟩from rfl,show tkZ.queue=⟨#[]⟩from rfl,show tkZ.prio=0 from rfl,show tkZ.need=⟨0,0,0⟩from rfl,show tkZ.wants=[]from rfl,show tkZ.apart=⟨#[]⟩from rfl,show tkZ.gang=⟨#[]⟩from rfl,show tkZ.size=0 from rfl]
 constructor
 ·rintro⟨⟨⟨⟨⟨⟨⟨a,b⟩,c⟩,d⟩,e⟩,f⟩,g⟩,h⟩;exact⟨⟨⟨⟨⟨⟨⟨a,b⟩,e⟩,g⟩,h⟩,c⟩,d⟩,f⟩
 ·rintro⟨⟨⟨⟨⟨⟨⟨a,b⟩,e⟩,g⟩,h⟩,c⟩,d⟩,f⟩;exact⟨⟨⟨⟨⟨⟨⟨a,b⟩,c⟩,d⟩,e⟩,f⟩,g⟩,h⟩
theorem namedB_cases(k:Int):namedB k=true↔k=2∨k=4∨k=6∨k=7∨k=8:=by
 unfold namedB
 simp only[Bool.or_eq_true,decide_eq_true_eq,or_assoc]
theorem pOpR_eq(o:Op'):pOpR o=opR o:=by
 unfold pOpR opR bareB
 rw[nodeZ_eq,taskZ_eq,show quZ' o.queue=quEq o.queue quZ from rfl]
 by_cases hk:o.kind<1∨9<o.kind
 ·have hn:namedB o.kind=false:=by
   cases h:namedB o.kind
   ·rfl
   ·rw[namedB_cases]at h;omega
  have e:(decide (o.kind<1) ||decide (9<o.kind))=true:=by simpa using hk
  rw[e,if_neg (by omega),if_neg (by omega),if_neg (by omega),if_neg (by omega),hn]
  simp
 ·have e:(decide (o.kind<1) ||decide (9<o.kind))=false:=by
   rw[Bool.or_eq_false_iff]
   exact⟨decide_eq_false (by omega),decide_eq_false (by omega)⟩
  rw[e,Bool.not_false,Bool.true_and]
  congr 1
  by_cases h1:o.kind=1
  ·rw[if_pos h1,if_pos h1]
  by_cases h3:o.kind=3
  ·rw[if_neg h1,if_pos h3,if_neg h1,if_pos h3]
  by_cases h5:o.kind=5
  ·rw[if_neg h1,if_neg h3,if_pos h5,if_neg h1,if_neg h3,if_pos h5]
  by_cases h9:o.kind=9
  ·rw[if_neg h1,if_neg h3,if_neg h5,if_pos h9,if_neg h1,if_neg h3,if_neg h5,if_pos h9]
  rw[if_neg h1,if_neg h3,if_neg h5,if_neg h9,if_neg h1,if_neg h3,if_neg h5,if_neg h9]
  have:namedB o.kind=true:=by rw[namedB_cases];omega
  rw[this,Bool.true_and]
theorem opRight_ok(o:Op')(hz:Sized o.task):AC PR 43 [opA o] [] (.bool (opR o)) []:=by
 rw[←pOpR_eq];exact popRight_ok o hz
abbrev mcs(l:List Mc):AV:= .lst 7 (l.map mcA) none
abbrev qus(l:List Qu):AV:= .lst 4 (l.map quR) none
abbrev jbs(l:List Jb):AV:= .lst 13 (l.map jbA) none
def idxB {α:Type}(p:α→Bool)(l:List α):Int:=match l.findIdx? p with
 |some i=>i
 |none=> -1
theorem idxB_none {α:Type}{p:α→Bool}{l:List α}(h:∀j y,j<l.length→l[j]? =some y→p y=false):idxB p l= -1:=by
 have:l.findIdx? p=none:=by
  rw[List.findIdx?_eq_none_iff]
  intro y hy
  obtain⟨j,hj,rfl⟩:=List.getElem_of_mem hy
  exact h j _ hj (List.getElem?_eq_getElem hj)
 rw[idxB,this]
theorem idxB_some {α:Type}{p:α→Bool}{l:List α}{k:Nat}{y:α}(hk:l[k]? =some y)(hp:p y=true)(h:∀j y,j<k→l[j]? =some y→p y=false):idxB p l=k:=by
 obtain⟨hlt,e⟩:=List.getElem?_eq_some_iff.1 hk
 have:l.findIdx? p=some k:=by
  rw[List.findIdx?_eq_some_iff_getElem]
  refine⟨hlt,by rw[e];exact hp,fun j hj=> ?_⟩
  rw[h j _ hj (List.getElem?_eq_getElem (by omega))];simp
 rw[idxB,this]
theorem is_job_ok(s:ByteArray)(x):AC PR 137 [jbA x, .ptr 0 0 0] [some (.rows 9 1 [.str s])] (.bool ((fun j:Jb=>decide (j.task.name=s)) x)) [some (.rows 9 1 [.str s])]:=by
 apply A137
 conv=>whnf
 exact at_end [some 0]
theorem idx_job_ok(l)(s:ByteArray)(hl:(l.length:Int)≤1000000):AC PR 136 [.lst 13 (l.map jbA) none, .fn (.func 137) [] [.ptr 0 0 0]] [some (.rows 9 1 [.str s])] (i64 (idxB (fun j:Jb=>decide (j.task.name=s)) l)) [some (.rows 9 1 [.str s])]:=by
 have hm:(l.map jbA).length=l.length:=List.length_map ..
 have hp:∀x,((fun j:Jb=>decide (j.task.name=s)) x)=((fun j:Jb=>decide (j.task.name=s)) x):=fun _=>rfl
 generalize hr:idxB (fun j:Jb=>decide (j.task.name=s)) l=r
 have cc:=is_job_ok s
 generalize(fun j:Jb=>decide (j.task.name=s))=p at hr cc hp
 apply A136
 conv=>whnf
 refine loop_to l.length (fun k e H=>(∀j y,j<k→l[j]? =some y→p y=false)∧e=[(0, .lst 13 (l.map jbA) none),(1, .fn (.func 137) [] [.ptr 0 0 0]),(7,i64 (l.map jbA).length),(8,i64 k)]∧H=[some (.rows 9 1 [.str s])]) ?_ ?_
 ·rintro k e H hk ⟨hn,rfl,rfl⟩
  conv=>whnf
  generalize hq:decide ((k:Int)<((l.map jbA).length:Int))=q
  cases q
  case false=>
   have hk2:k=l.length:=by have:=of_decide_eq_false hq;omega
   subst hk2
   have:=hr.symm.trans (idxB_none hn)
   subst this
   conv=>whnf
   exact at_end [some 0]
  have hk2:k<l.length:=by have:=of_decide_eq_true hq;omega
  have hga:=List.getElem?_eq_getElem hk2
  generalize l[k]=y at hga
  have c1:=cc y
  generalize hq1:p y=q1 at c1
  conv=>whnf
  refine tA ?_
  refine callv_fr [0] [] [some (.rows 9 1 [.str s])] c1 ?_
  conv=>whnf
  cases q1<;>conv=>whnf
  ·refine w_as ((k+1:Nat):Int) (by omega) (by omega) ?_
   conv=>whnf
   exact at_head [some 0] _ [(0, .lst 13 (l.map jbA) none),(1, .fn (.func 137) [] [.ptr 0 0 0]),(7,i64 (l.map jbA).length),(8,i64 (k+1:Nat))] ⟨by omega,fun j z hj hz=>by
    by_cases e:j=k
    ·subst e;rw[hga]at hz;cases hz;exact hq1
    ·exact hn j z (by omega) hz,rfl,rfl⟩
  ·have:=hr.symm.trans (idxB_some hga hq1 hn)
   subst this
   exact at_end [some 0]
 ·conv=>whnf
  exact at_head [some 0] _ [(0, .lst 13 (l.map jbA) none),(1, .fn (.func 137) [] [.ptr 0 0 0]),(7,i64 (l.map jbA).length),(8,i64 (0:Nat))] ⟨by omega,rfl,rfl⟩
theorem is_mc_ok(s:ByteArray)(x):AC PR 131 [mcA x, .ptr 0 0 0] [some (.rows 9 1 [.str s])] (.bool ((fun m:Mc=>decide (m.node.name=s)) x)) [some (.rows 9 1 [.str s])]:=by
 apply A131
 conv=>whnf
 exact at_end [some 0]
theorem idx_mc_ok(l)(s:ByteArray)(hl:(l.length:Int)≤1000000):AC PR 130 [.lst 7 (l.map mcA) none, .fn (.func 131) [] [.ptr 0 0 0]] [some (.rows 9 1 [.str s])] (i64 (idxB (fun m:Mc=>decide (m.node.name=s)) l)) [some (.rows 9 1 [.str s])]:=by
 have hm:(l.map mcA).length=l.length:=List.length_map ..
 have hp:∀x,((fun m:Mc=>decide (m.node.name=s)) x)=((fun m:Mc=>decide (m.node.name=s)) x):=fun _=>rfl
 generalize hr:idxB (fun m:Mc=>decide (m.node.name=s)) l=r
 have cc:=is_mc_ok s
 generalize(fun m:Mc=>decide (m.node.name=s))=p at hr cc hp
 apply A130
 conv=>whnf
 refine loop_to l.length (fun k e H=>(∀j y,j<k→l[j]? =some y→p y=false)∧e=[(0, .lst 7 (l.map mcA) none),(1, .fn (.func 131) [] [.ptr 0 0 0]),(7,i64 (l.map mcA).length),(8,i64 k)]∧H=[some (.rows 9 1 [.str s])]) ?_ ?_
 ·rintro k e H hk ⟨hn,rfl,rfl⟩
  conv=>whnf
  generalize hq:decide ((k:Int)<((l.map mcA).length:Int))=q
  cases q
  case false=>
   have hk2:k=l.length:=by have:=of_decide_eq_false hq;omega
   subst hk2
   have:=hr.symm.trans (idxB_none hn)
   subst this
   conv=>whnf
   exact at_end [some 0]
  have hk2:k<l.length:=by have:=of_decide_eq_true hq;omega
  have hga:=List.getElem?_eq_getElem hk2
  generalize l[k]=y at hga
  have c1:=cc y
  generalize hq1:p y=q1 at c1
  conv=>whnf
  refine tA ?_
  refine callv_fr [0] [] [some (.rows 9 1 [.str s])] c1 ?_
  conv=>whnf
  cases q1<;>conv=>whnf
  ·refine w_as ((k+1:Nat):Int) (by omega) (by omega) ?_
   conv=>whnf
   exact at_head [some 0] _ [(0, .lst 7 (l.map mcA) none),(1, .fn (.func 131) [] [.ptr 0 0 0]),(7,i64 (l.map mcA).length),(8,i64 (k+1:Nat))] ⟨by omega,fun j z hj hz=>by
    by_cases e:j=k
    ·subst e;rw[hga]at hz;cases hz;exact hq1
    ·exact hn j z (by omega) hz,rfl,rfl⟩
  ·have:=hr.symm.trans (idxB_some hga hq1 hn)
   subst this
   exact at_end [some 0]
 ·conv=>whnf
  exact at_head [some 0] _ [(0, .lst 7 (l.map mcA) none),(1, .fn (.func 131) [] [.ptr 0 0 0]),(7,i64 (l.map mcA).length),(8,i64 (0:Nat))] ⟨by omega,rfl,rfl⟩
theorem is_qu_ok(s:ByteArray)(x):AC PR 135 [quR x, .ptr 0 0 0] [some (.rows 9 1 [.str s])] (.bool ((fun q:Qu=>decide (q.name=s)) x)) [some (.rows 9 1 [.str s])]:=by
 apply A135
 conv=>whnf
 exact at_end [some 0]
theorem idx_qu_ok(l)(s:ByteArray)(hl:(l.length:Int)≤1000000):AC PR 134 [.lst 4 (l.map quR) none, .fn (.func 135) [] [.ptr 0 0 0]] [some (.rows 9 1 [.str s])] (i64 (idxB (fun q:Qu=>decide (q.name=s)) l)) [some (.rows 9 1 [.str s])]:=by
 have hm:(l.map quR).length=l.length:=List.length_map ..
 have hp:∀x,((fun q:Qu=>decide (q.name=s)) x)=((fun q:Qu=>decide (q.name=s)) x):=fun _=>rfl
 generalize hr:idxB (fun q:Qu=>decide (q.name=s)) l=r
 have cc:=is_qu_ok s
 generalize(fun q:Qu=>decide (q.name=s))=p at hr cc hp
 apply A134
 conv=>whnf
 refine loop_to l.length (fun k e H=>(∀j y,j<k→l[j]? =some y→p y=false)∧e=[(0, .lst 4 (l.map quR) none),(1, .fn (.func 135) [] [.ptr 0 0 0]),(7,i64 (l.map quR).length),(8,i64 k)]∧H=[some (.rows 9 1 [.str s])]) ?_ ?_
 ·rintro k e H hk ⟨hn,rfl,rfl⟩
  conv=>whnf
  generalize hq:decide ((k:Int)<((l.map quR).length:Int))=q
  cases q
  case false=>
   have hk2:k=l.length:=by have:=of_decide_eq_false hq;omega
   subst hk2
   have:=hr.symm.trans (idxB_none hn)
   subst this
   conv=>whnf
   exact at_end [some 0]
  have hk2:k<l.length:=by have:=of_decide_eq_true hq;omega
  have hga:=List.getElem?_eq_getElem hk2
  generalize l[k]=y at hga
  have c1:=cc y
  generalize hq1:p y=q1 at c1
  conv=>whnf
  refine tA ?_
  refine callv_fr [0] [] [some (.rows 9 1 [.str s])] c1 ?_
  conv=>whnf
  cases q1<;>conv=>whnf
  ·refine w_as ((k+1:Nat):Int) (by omega) (by omega) ?_
   conv=>whnf
   exact at_head [some 0] _ [(0, .lst 4 (l.map quR) none),(1, .fn (.func 135) [] [.ptr 0 0 0]),(7,i64 (l.map quR).length),(8,i64 (k+1:Nat))] ⟨by omega,fun j z hj hz=>by
    by_cases e:j=k
    ·subst e;rw[hga]at hz;cases hz;exact hq1
    ·exact hn j z (by omega) hz,rfl,rfl⟩
  ·have:=hr.symm.trans (idxB_some hga hq1 hn)
   subst this
   exact at_end [some 0]
 ·conv=>whnf
  exact at_head [some 0] _ [(0, .lst 4 (l.map quR) none),(1, .fn (.func 135) [] [.ptr 0 0 0]),(7,i64 (l.map quR).length),(8,i64 (0:Nat))] ⟨by omega,rfl,rfl⟩
def findJ(l:List Jb)(s:ByteArray):Int:=idxB (fun j:Jb=>decide (j.task.name=s)) l
def machF(l:List Mc)(s:ByteArray):Int:=idxB (fun m:Mc=>decide (m.node.name=s)) l
def quF(l:List Qu)(s:ByteArray):Int:=idxB (fun q:Qu=>decide (q.name=s)) l
theorem find_ok(l:List Jb)(s:ByteArray)(hl:(l.length:Int)≤1000000):AC PR 100 [jbs l, .str s] [] (i64 (findJ l s)) []:=by
 have c1:=idx_job_ok l s hl
 rw[show idxB (fun j:Jb=>decide (j.task.name=s)) l=findJ l s from rfl]at c1
 generalize findJ l s=r at c1
 apply A100
 conv=>whnf
 refine call_fr [0] [] [some (.rows 9 1 [.str s])] c1 ?_
 conv=>whnf
 exact at_end []
theorem machine_ok(st:St)(s:ByteArray)(hl:(st.machines.length:Int)≤1000000):AC PR 90 [stA st, .str s] [] (i64 (machF st.machines s)) []:=by
 have c1:=idx_mc_ok st.machines s hl
 rw[show idxB (fun m:Mc=>decide (m.node.name=s)) st.machines=machF st.machines s from rfl]at c1
 generalize machF st.machines s=r at c1
 apply A90
 conv=>whnf
 refine call_fr [1] [] [some (.rows 9 1 [.str s])] c1 ?_
 conv=>whnf
 exact at_end []
theorem queueF_ok(st:St)(s:ByteArray)(hl:(st.queues.length:Int)≤1000000):AC PR 96 [stA st, .str s] [] (i64 (quF st.queues s)) []:=by
 have c1:=idx_qu_ok st.queues s hl
 rw[show idxB (fun q:Qu=>decide (q.name=s)) st.queues=quF st.queues s from rfl]at c1
 generalize quF st.queues s=r at c1
 apply A96
 conv=>whnf
 refine call_fr [1] [] [some (.rows 9 1 [.str s])] c1 ?_
 conv=>whnf
 exact at_end []
theorem rfits_ok(a b:Rs):AC PR 68 [rsA a,rsA b] [] (.bool (fitsB a b)) []:=by
 have hB:fitsB a b=(!decide (b.a<a.a) && !decide (b.b<a.b) && !decide (b.c<a.c)):=rfl
 have le_nlt:∀x y:Int,decide (x≤y)= !decide (y<x):=fun x y=>by
  by_cases h:x≤y
  ·rw[decide_eq_true h,decide_eq_false (by omega)];rfl
  ·rw[decide_eq_false h,decide_eq_true (by omega)];rfl
 generalize fitsB a b=B at hB
 obtain⟨a0,a1,a2⟩:=a
 obtain⟨b0,b1,b2⟩:=b
 simp only at hB
 rw[←le_nlt,←le_nlt,←le_nlt]at hB
 apply A68
 conv=>whnf
 generalize decide (a0≤b0)=q at hB
 cases q<;>conv=>whnf
 ·exact at_end []
 generalize decide (a1≤b1)=q at hB
 cases q<;>conv=>whnf
 ·exact at_end []
 generalize decide (a2≤b2)=q at hB
 cases q<;>exact at_end []
theorem radd_ok(a b:Rs):AC PR 141 [rsA a,rsA b] [] (.tuple [rsA (addF a b).1,i64 (addF a b).2]) []:=by
 have c1:=rright_ok a
 have c2:=rright_ok b
 have c3:=rright_ok (addR a b 1)
 unfold addF bothF
 cases h1:rightB a
 ·rw[h1]at c1
  apply A141
  conv=>whnf
  refine call_closed (c1) ?_
  conv=>whnf
  exact at_end []
 cases h2:rightB b
 ·rw[h1]at c1
  rw[h2]at c2
  apply A141
  conv=>whnf
  refine call_closed (c1) ?_
  conv=>whnf
  refine call_closed (c2) ?_
  conv=>whnf
  exact at_end []
 rw[h1]at c1
 rw[h2]at c2
 rw[rightB_iff]at h1 h2
 obtain⟨a0,a1,a2⟩:=a
 obtain⟨b0,b1,b2⟩:=b
 simp only at h1 h2
 have e0:a0+b0=a0+1*b0:=by omega
 have e1:a1+b1=a1+1*b1:=by omega
 have e2:a2+b2=a2+1*b2:=by omega
 generalize hR:rightB (addR ⟨a0,a1,a2⟩ ⟨b0,b1,b2⟩ 1)=R at c3
 apply A141
 conv=>whnf
 refine call_closed (c1) ?_
 conv=>whnf
 refine call_closed (c2) ?_
 conv=>whnf
 refine loop_un 4 ?_
 conv=>whnf
 refine tN ?_
 refine w_as (a0+1*b0) e0 (by omega) ?_
 conv=>whnf
 refine tN ?_
 refine w_as (a1+1*b1) e1 (by omega) ?_
 conv=>whnf
 refine tN ?_
 refine w_as (a2+1*b2) e2 (by omega) ?_
 conv=>whnf
 refine tN ?_
 refine call_closed (c3) ?_
 conv=>whnf
 cases R<;>exact at_end []
theorem rsub_ok(a b:Rs):AC PR 112 [rsA a,rsA b] [] (.tuple [rsA (subF a b).1,i64 (subF a b).2]) []:=by
 have c1:=rright_ok a
 have c2:=rright_ok b
 have c3:=rright_ok (addR a b (-1))
 unfold subF bothF
 cases h1:rightB a
 ·rw[h1]at c1
  apply A112
  conv=>whnf
  refine call_closed (c1) ?_
  conv=>whnf
  exact at_end []
 cases h2:rightB b
 ·rw[h1]at c1
  rw[h2]at c2
  apply A112
  conv=>whnf
  refine call_closed (c1) ?_
  conv=>whnf
  refine call_closed (c2) ?_
  conv=>whnf
  exact at_end []
 rw[h1]at c1
 rw[h2]at c2
 rw[rightB_iff]at h1 h2
 obtain⟨a0,a1,a2⟩:=a
 obtain⟨b0,b1,b2⟩:=b
 simp only at h1 h2
 have e0:a0-b0=a0+ (-1) *b0:=by omega
 have e1:a1-b1=a1+ (-1) *b1:=by omega
 have e2:a2-b2=a2+ (-1) *b2:=by omega
 generalize hR:rightB (addR ⟨a0,a1,a2⟩ ⟨b0,b1,b2⟩ (-1))=R at c3
 apply A112
 conv=>whnf
 refine call_closed (c1) ?_
 conv=>whnf
 refine call_closed (c2) ?_
 conv=>whnf
 refine loop_un 4 ?_
 conv=>whnf
 refine tN ?_
 refine w_as (a0+ (-1) *b0) e0 (by omega) ?_
 conv=>whnf
 refine tN ?_
 refine w_as (a1+ (-1) *b1) e1 (by omega) ?_
 conv=>whnf
 refine tN ?_
 refine w_as (a2+ (-1) *b2) e2 (by omega) ?_
 conv=>whnf
 refine tN ?_
 refine call_closed (c3) ?_
 conv=>whnf
 cases R<;>exact at_end []
theorem rsum_ok(l:List Rs)(hl:(l.length:Int)≤1000000):AC PR 111 [rss l] [] (.tuple [rsA (sumF l).1,i64 (sumF l).2]) []:=by
 have hm:(l.map rsA).length=l.length:=List.length_map ..
 unfold sumF
 generalize ht:sumG l ⟨0,0,0⟩=t
 apply A111
 conv=>whnf
 refine loop_to l.length (fun k e H=>∃o:Rs,sumG (l.drop k) o=t∧e=[(0,rss l),(2, .ptr 0 0 0),(4, .ptr 1 0 0),(10,i64 (l.map rsA).length),(11,i64 k)]∧H=[some (.rows 40 3 [.agg [i64 0,i64 0,i64 0]]),some (.rows 40 3 [.agg [i64 o.a,i64 o.b,i64 o.c]])]) ?_ ?_
 ·rintro k e H hk ⟨o,ho,rfl,rfl⟩
  conv=>whnf
  generalize hq:decide ((k:Int)<((l.map rsA).length:Int))=q
  cases q
  case false=>
   have hk2:k=l.length:=by have:=of_decide_eq_false hq;omega
   subst hk2
   rw[List.drop_length]at ho
   subst ho
   conv=>whnf
   exact at_end []
  have hk2:k<l.length:=by have:=of_decide_eq_true hq;omega
  have hga:=List.getElem?_eq_getElem hk2
  rw[List.drop_eq_getElem_cons hk2]at ho
  generalize l[k]=x at hga ho
  simp only[sumG]at ho
  have c1:=radd_ok o x
  generalize addF o x=y at ho c1
  conv=>whnf
  refine tA ?_
  refine tB ?_
  refine call_closed c1 ?_
  conv=>whnf
  refine tB ?_
  generalize hq1:decide (y.2=0)=q1
  cases q1<;>conv=>whnf
  ·rw[if_neg (of_decide_eq_false hq1)]at ho
   subst ho
   exact at_end []
  rw[if_pos (of_decide_eq_true hq1)]at ho
  refine w_as ((k+1:Nat):Int) (by omega) (by omega) ?_
  conv=>whnf
  exact at_head [some 0,some 1] _ [(0,rss l),(2, .ptr 0 0 0),(4, .ptr 1 0 0),(10,i64 (l.map rsA).length),(11,i64 (k+1:Nat))] ⟨by omega,y.1,ho,rfl,rfl⟩
 ·conv=>whnf
  exact at_head [some 0,some 1] _ [(0,rss l),(2, .ptr 0 0 0),(4, .ptr 1 0 0),(10,i64 (l.map rsA).length),(11,i64 (0:Nat))] ⟨⟨0,0,0⟩,by simpa using ht,rfl,rfl⟩
def needs(p:Jb→Bool)(l:List Jb):List Rs:=(l.filter p).map (·.task.need)
theorem needs_len(p:Jb→Bool)(l:List Jb):(needs p l).length≤l.length:=by
 unfold needs;rw[List.length_map];exact List.length_filter_le ..
theorem needs_take {p:Jb→Bool}{l:List Jb}{k:Nat}{j:Jb}(h:l[k]? =some j):needs p (l.take (k+1))=if p j=true then needs p (l.take k)++ [j.task.need]else needs p (l.take k):=by
 unfold needs
 rw[List.take_add_one,h,List.filter_append]
 by_cases hp:p j=true
 ·simp[hp]
 ·simp[hp]
def usedF(l:List Jb)(s:ByteArray):Rs×Int:=sumF (needs (fun j=>decide (j.task.queue=s)) l)
def freeF(m:Mc)(l:List Jb):Rs×Int:=
 if(sumF (needs (fun j=>decide (j.node=m.node.name)) l)).2=0 then subF m.node.cap (sumF (needs (fun j=>decide (j.node=m.node.name)) l)).1 else(⟨0,0,0⟩,(sumF (needs (fun j=>decide (j.node=m.node.name)) l)).2)
theorem used_ok(l:List Jb)(s:ByteArray)(hl:(l.length:Int)≤1000000):AC PR 23 [jbs l, .str s] [] (.tuple [rsA (usedF l s).1,i64 (usedF l s).2]) []:=by
 have hm:(l.map jbA).length=l.length:=List.length_map ..
 have hnl:=needs_len (fun j:Jb=>decide (j.task.queue=s)) l
 have c2:=sum_ok (needs (fun j=>decide (j.task.queue=s)) l) (by omega)
 have hu:usedF l s=sumF (needs (fun j=>decide (j.task.queue=s)) l):=rfl
 rw[←hu]at c2
 generalize usedF l s=u at c2
 clear hu
 apply A23
 conv=>whnf
 refine loop_to l.length (fun k e H=>∃N,N=needs (fun j=>decide (j.task.queue=s)) (l.take k)∧e=[(1, .str s),(4, .ptr 0 0 0),(6, .slc 1 0 N.length none),(9,jbs l),(10,i64 (l.map jbA).length),(11,i64 k)]∧H=[some (.rows 40 3 [.agg [i64 0,i64 0,i64 0]]),some (.rows 40 3 (N.map rsA))]) ?_ ?_
 ·rintro k e H hk ⟨N,hN,rfl,rfl⟩
  conv=>whnf
  generalize hq:decide ((k:Int)<((l.map jbA).length:Int))=q
  cases q
  case false=>
   have hk2:k=l.length:=by have:=of_decide_eq_false hq;omega
   rw[hk2,List.take_length]at hN
   subst hN
   conv=>whnf
   refine call_fr [] [1] [] c2 ?_
   conv=>whnf
   exact at_end []
  have hk2:k<l.length:=by have:=of_decide_eq_true hq;omega
  have hga:=List.getElem?_eq_getElem hk2
  generalize l[k]=x at hga
  have hN2:=needs_take (p:=fun j=>decide (j.task.queue=s)) hga
  rw[←hN]at hN2
  have hNl:N.length≤k:=by
   rw[hN];refine Nat.le_trans (needs_len _ _) ?_
   rw[List.length_take];omega
  conv=>whnf
  refine tA ?_
  generalize hq1:decide (x.task.queue=s)=q1 at hN2
  cases q1<;>conv=>whnf
  ·rw[if_neg (by decide)]at hN2
   refine w_as ((k+1:Nat):Int) (by omega) (by omega) ?_
   conv=>whnf
   exact at_head [some 0,some 1] _ [(1, .str s),(4, .ptr 0 0 0),(6, .slc 1 0 N.length none),(9,jbs l),(10,i64 (l.map jbA).length),(11,i64 (k+1:Nat))] ⟨by omega,N,hN2.symm,rfl,rfl⟩
  ·rw[if_pos rfl]at hN2
   refine tA ?_
   refine app_map (f:=rsA) (l:=N) (new:=[x.task.need]) rfl rfl (Nat.le_refl _) (by simp[roomBound];omega) (fun _=>forceS_any ?_) (fun h=>absurd h (Nat.lt_irrefl _))
   conv=>whnf
   refine w_as ((k+1:Nat):Int) (by omega) (by omega) ?_
   conv=>whnf
   rw[show N.length+ [x.task.need].length=(N++ [x.task.need]).length by simp]
   exact at_head [some 0,some 4] [some (.rows 40 3 [.agg [i64 0,i64 0,i64 0]]),some (.rows 40 3 ((N++ [x.task.need]).map rsA))] [(1, .str s),(4, .ptr 0 0 0),(6, .slc 1 0 (N++ [x.task.need]).length none),(9,jbs l),(10,i64 (l.map jbA).length),(11,i64 (k+1:Nat))] ⟨by omega,_,hN2.symm,rfl,rfl⟩
 ·conv=>whnf
  exact at_head [some 0,none] [some (.rows 40 3 [.agg [i64 0,i64 0,i64 0]]),some (.rows 40 3 (([]:List Rs).map rsA))] [(1, .str s),(4, .ptr 0 0 0),(6, .slc 1 0 ([]:List Rs).length none),(9,jbs l),(10,i64 (l.map jbA).length),(11,i64 (0:Nat))] ⟨[],rfl,rfl,rfl⟩
theorem rused_ok(l:List Jb)(s:ByteArray)(hl:(l.length:Int)≤1000000):AC PR 67 [jbs l, .str s] [] (.tuple [rsA (usedF l s).1,i64 (usedF l s).2]) []:=by
 have hm:(l.map jbA).length=l.length:=List.length_map ..
 have hnl:=needs_len (fun j:Jb=>decide (j.task.queue=s)) l
 have c2:=rsum_ok (needs (fun j=>decide (j.task.queue=s)) l) (by omega)
 have hu:usedF l s=sumF (needs (fun j=>decide (j.task.queue=s)) l):=rfl
 rw[←hu]at c2
 generalize usedF l s=u at c2
 clear hu
 apply A67
 conv=>whnf
 refine loop_to l.length (fun k e H=>∃N,N=needs (fun j=>decide (j.task.queue=s)) (l.take k)∧e=[(0,jbs l),(1, .str s),(4, .ptr 0 0 0),(6, .slc 1 0 N.length none),(9,i64 (l.map jbA).length),(10,i64 k)]∧H=[some (.rows 40 3 [.agg [i64 0,i64 0,i64 0]]),some (.rows 40 3 (N.map rsA))]) ?_ ?_
 ·rintro k e H hk ⟨N,hN,rfl,rfl⟩
  conv=>whnf
  generalize hq:decide ((k:Int)<((l.map jbA).length:Int))=q
  cases q
  case false=>
   have hk2:k=l.length:=by have:=of_decide_eq_false hq;omega
   rw[hk2,List.take_length]at hN
   subst hN
   conv=>whnf
   refine call_fr [] [1] [] c2 ?_
   conv=>whnf
   exact at_end []
  have hk2:k<l.length:=by have:=of_decide_eq_true hq;omega
  have hga:=List.getElem?_eq_getElem hk2
  generalize l[k]=x at hga
  have hN2:=needs_take (p:=fun j=>decide (j.task.queue=s)) hga
  rw[←hN]at hN2
  have hNl:N.length≤k:=by
   rw[hN];refine Nat.le_trans (needs_len _ _) ?_
   rw[List.length_take];omega
  conv=>whnf
  refine tA ?_
  generalize hq1:decide (x.task.queue=s)=q1 at hN2
  cases q1<;>conv=>whnf
  ·rw[if_neg (by decide)]at hN2
   refine w_as ((k+1:Nat):Int) (by omega) (by omega) ?_
   conv=>whnf
   exact at_head [some 0,some 1] _ [(0,jbs l),(1, .str s),(4, .ptr 0 0 0),(6, .slc 1 0 N.length none),(9,i64 (l.map jbA).length),(10,i64 (k+1:Nat))] ⟨by omega,N,hN2.symm,rfl,rfl⟩
  ·rw[if_pos rfl]at hN2
   refine tA ?_
   refine app_map (f:=rsA) (l:=N) (new:=[x.task.need]) rfl rfl (Nat.le_refl _) (by simp[roomBound];omega) (fun _=>forceS_any ?_) (fun h=>absurd h (Nat.lt_irrefl _))
   conv=>whnf
   refine w_as ((k+1:Nat):Int) (by omega) (by omega) ?_
   conv=>whnf
   rw[show N.length+ [x.task.need].length=(N++ [x.task.need]).length by simp]
   exact at_head [some 0,some 3] [some (.rows 40 3 [.agg [i64 0,i64 0,i64 0]]),some (.rows 40 3 ((N++ [x.task.need]).map rsA))] [(0,jbs l),(1, .str s),(4, .ptr 0 0 0),(6, .slc 1 0 (N++ [x.task.need]).length none),(9,i64 (l.map jbA).length),(10,i64 (k+1:Nat))] ⟨by omega,_,hN2.symm,rfl,rfl⟩
 ·conv=>whnf
  exact at_head [some 0,none] [some (.rows 40 3 [.agg [i64 0,i64 0,i64 0]]),some (.rows 40 3 (([]:List Rs).map rsA))] [(0,jbs l),(1, .str s),(4, .ptr 0 0 0),(6, .slc 1 0 ([]:List Rs).length none),(9,i64 (l.map jbA).length),(10,i64 (0:Nat))] ⟨[],rfl,rfl,rfl⟩
theorem free_ok(m:Mc)(l:List Jb)(hl:(l.length:Int)≤1000000):AC PR 22 [mcA m,jbs l] [] (.tuple [rsA (freeF m l).1,i64 (freeF m l).2]) []:=by
 have hm:(l.map jbA).length=l.length:=List.length_map ..
 have hnl:=needs_len (fun j:Jb=>decide (j.node=m.node.name)) l
 have c2:=sum_ok (needs (fun j=>decide (j.node=m.node.name)) l) (by omega)
 have hu:freeF m l=if(sumF (needs (fun j=>decide (j.node=m.node.name)) l)).2=0 then subF m.node.cap (sumF (needs (fun j=>decide (j.node=m.node.name)) l)).1 else(⟨0,0,0⟩,(sumF (needs (fun j=>decide (j.node=m.node.name)) l)).2):=rfl
 generalize sumF (needs (fun j=>decide (j.node=m.node.name)) l)=u at c2 hu
 have c3:=sub_ok m.node.cap u.1
 generalize subF m.node.cap u.1=y at c3 hu
 apply A22
 conv=>whnf
 refine loop_to l.length (fun k e H=>∃N,N=needs (fun j=>decide (j.node=m.node.name)) (l.take k)∧e=[(2, .ptr 0 0 0),(4, .ptr 1 0 0),(6, .slc 2 0 N.length none),(11,jbs l),(12,i64 (l.map jbA).length),(13,i64 k)]∧H=[some (.rows 57 7 [mcA m]),some (.rows 40 3 [.agg [i64 0,i64 0,i64 0]]),some (.rows 40 3 (N.map rsA))]) ?_ ?_
 ·rintro k e H hk ⟨N,hN,rfl,rfl⟩
  conv=>whnf
  generalize hq:decide ((k:Int)<((l.map jbA).length:Int))=q
  cases q
  case false=>
   have hk2:k=l.length:=by have:=of_decide_eq_false hq;omega
   rw[hk2,List.take_length]at hN
   subst hN
   conv=>whnf
   refine call_fr [] [2] [] c2 ?_
   conv=>whnf
   generalize hq2:decide (u.2=0)=q2
   cases q2<;>conv=>whnf
   ·rw[if_neg (of_decide_eq_false hq2)]at hu
    rw[hu]
    exact at_end []
   rw[if_pos (of_decide_eq_true hq2)]at hu
   rw[hu]
   refine call_closed c3 ?_
   conv=>whnf
   exact at_end []
  have hk2:k<l.length:=by have:=of_decide_eq_true hq;omega
  have hga:=List.getElem?_eq_getElem hk2
  generalize l[k]=x at hga
  have hN2:=needs_take (p:=fun j=>decide (j.node=m.node.name)) hga
  rw[←hN]at hN2
  have hNl:N.length≤k:=by
   rw[hN];refine Nat.le_trans (needs_len _ _) ?_
   rw[List.length_take];omega
  conv=>whnf
  refine tA ?_
  generalize hq1:decide (x.node=m.node.name)=q1 at hN2
  cases q1<;>conv=>whnf
  ·rw[if_neg (by decide)]at hN2
   refine w_as ((k+1:Nat):Int) (by omega) (by omega) ?_
   conv=>whnf
   exact at_head [some 0,some 1,some 2] _ [(2, .ptr 0 0 0),(4, .ptr 1 0 0),(6, .slc 2 0 N.length none),(11,jbs l),(12,i64 (l.map jbA).length),(13,i64 (k+1:Nat))] ⟨by omega,N,hN2.symm,rfl,rfl⟩
  ·rw[if_pos rfl]at hN2
   refine tA ?_
   refine app_map (f:=rsA) (l:=N) (new:=[x.task.need]) rfl rfl (Nat.le_refl _) (by simp[roomBound];omega) (fun _=>forceS_any ?_) (fun h=>absurd h (Nat.lt_irrefl _))
   conv=>whnf
   refine w_as ((k+1:Nat):Int) (by omega) (by omega) ?_
   conv=>whnf
   rw[show N.length+ [x.task.need].length=(N++ [x.task.need]).length by simp]
   exact at_head [some 0,some 1,some 5] [some (.rows 57 7 [mcA m]),some (.rows 40 3 [.agg [i64 0,i64 0,i64 0]]),some (.rows 40 3 ((N++ [x.task.need]).map rsA))] [(2, .ptr 0 0 0),(4, .ptr 1 0 0),(6, .slc 2 0 (N++ [x.task.need]).length none),(11,jbs l),(12,i64 (l.map jbA).length),(13,i64 (k+1:Nat))] ⟨by omega,_,hN2.symm,rfl,rfl⟩
 ·conv=>whnf
  exact at_head [some 0,some 1,none] [some (.rows 57 7 [mcA m]),some (.rows 40 3 [.agg [i64 0,i64 0,i64 0]]),some (.rows 40 3 (([]:List Rs).map rsA))] [(2, .ptr 0 0 0),(4, .ptr 1 0 0),(6, .slc 2 0 ([]:List Rs).length none),(11,jbs l),(12,i64 (l.map jbA).length),(13,i64 (0:Nat))] ⟨[],rfl,rfl,rfl⟩
theorem rfree_ok(m:Mc)(l:List Jb)(hl:(l.length:Int)≤1000000):AC PR 65 [mcA m,jbs l] [] (.tuple [rsA (freeF m l).1,i64 (freeF m l).2]) []:=by
 have hm:(l.map jbA).length=l.length:=List.length_map ..
 have hnl:=needs_len (fun j:Jb=>decide (j.node=m.node.name)) l
 have c2:=rsum_ok (needs (fun j=>decide (j.node=m.node.name)) l) (by omega)
 have hu:freeF m l=if(sumF (needs (fun j=>decide (j.node=m.node.name)) l)).2=0 then subF m.node.cap (sumF (needs (fun j=>decide (j.node=m.node.name)) l)).1 else(⟨0,0,0⟩,(sumF (needs (fun j=>decide (j.node=m.node.name)) l)).2):=rfl
 generalize sumF (needs (fun j=>decide (j.node=m.node.name)) l)=u at c2 hu
 have c3:=rsub_ok m.node.cap u.1
 generalize subF m.node.cap u.1=y at c3 hu
 apply A65
 conv=>whnf
 refine loop_to l.length (fun k e H=>∃N,N=needs (fun j=>decide (j.node=m.node.name)) (l.take k)∧e=[(1,jbs l),(2, .ptr 0 0 0),(4, .ptr 1 0 0),(6, .slc 2 0 N.length none),(11,i64 (l.map jbA).length),(12,i64 k)]∧H=[some (.rows 57 7 [mcA m]),some (.rows 40 3 [.agg [i64 0,i64 0,i64 0]]),some (.rows 40 3 (N.map rsA))]) ?_ ?_
 ·rintro k e H hk ⟨N,hN,rfl,rfl⟩
  conv=>whnf
  generalize hq:decide ((k:Int)<((l.map jbA).length:Int))=q
  cases q
  case false=>
   have hk2:k=l.length:=by have:=of_decide_eq_false hq;omega
   rw[hk2,List.take_length]at hN
   subst hN
   conv=>whnf
   refine call_fr [] [2] [] c2 ?_
   conv=>whnf
   generalize hq2:decide (u.2=0)=q2
   cases q2<;>conv=>whnf
   ·rw[if_neg (of_decide_eq_false hq2)]at hu
    rw[hu]
    exact at_end []
   rw[if_pos (of_decide_eq_true hq2)]at hu
   rw[hu]
   refine call_closed c3 ?_
   conv=>whnf
   exact at_end []
  have hk2:k<l.length:=by have:=of_decide_eq_true hq;omega
  have hga:=List.getElem?_eq_getElem hk2
  generalize l[k]=x at hga
  have hN2:=needs_take (p:=fun j=>decide (j.node=m.node.name)) hga
  rw[←hN]at hN2
  have hNl:N.length≤k:=by
   rw[hN];refine Nat.le_trans (needs_len _ _) ?_
   rw[List.length_take];omega
  conv=>whnf
  refine tA ?_
  generalize hq1:decide (x.node=m.node.name)=q1 at hN2
  cases q1<;>conv=>whnf
  ·rw[if_neg (by decide)]at hN2
   refine w_as ((k+1:Nat):Int) (by omega) (by omega) ?_
   conv=>whnf
   exact at_head [some 0,some 1,some 2] _ [(1,jbs l),(2, .ptr 0 0 0),(4, .ptr 1 0 0),(6, .slc 2 0 N.length none),(11,i64 (l.map jbA).length),(12,i64 (k+1:Nat))] ⟨by omega,N,hN2.symm,rfl,rfl⟩
  ·rw[if_pos rfl]at hN2
   refine tA ?_
   refine app_map (f:=rsA) (l:=N) (new:=[x.task.need]) rfl rfl (Nat.le_refl _) (by simp[roomBound];omega) (fun _=>forceS_any ?_) (fun h=>absurd h (Nat.lt_irrefl _))
   conv=>whnf
   refine w_as ((k+1:Nat):Int) (by omega) (by omega) ?_
   conv=>whnf
   rw[show N.length+ [x.task.need].length=(N++ [x.task.need]).length by simp]
   exact at_head [some 0,some 1,some 4] [some (.rows 57 7 [mcA m]),some (.rows 40 3 [.agg [i64 0,i64 0,i64 0]]),some (.rows 40 3 ((N++ [x.task.need]).map rsA))] [(1,jbs l),(2, .ptr 0 0 0),(4, .ptr 1 0 0),(6, .slc 2 0 (N++ [x.task.need]).length none),(11,i64 (l.map jbA).length),(12,i64 (k+1:Nat))] ⟨by omega,_,hN2.symm,rfl,rfl⟩
 ·conv=>whnf
  exact at_head [some 0,some 1,none] [some (.rows 57 7 [mcA m]),some (.rows 40 3 [.agg [i64 0,i64 0,i64 0]]),some (.rows 40 3 (([]:List Rs).map rsA))] [(1,jbs l),(2, .ptr 0 0 0),(4, .ptr 1 0 0),(6, .slc 2 0 ([]:List Rs).length none),(11,i64 (l.map jbA).length),(12,i64 (0:Nat))] ⟨[],rfl,rfl,rfl⟩
end Go.Am.Pt
end
