/- Part of the proof: plain data, the machine and its soundness. No conditions. -/
import Derived.Test.YtejbmdnhchoilaaGreatM12
set_option linter.unusedVariables false
set_option linter.unusedSimpArgs false
set_option maxRecDepth 100000
section
namespace Go.Am
open Go
def depsOf(o:Oper):List Nat:=(o.after.toList.filter (Region.binds .any)).map (·.on)
def maskOf(l:List Nat):Nat:=l.foldl (fun m i=>m ||| 1 <<< i) 0
def ancOf(ops:List Oper):List Nat:=ops.foldl (fun acc o=>acc++ [(depsOf o).foldl (fun m j=>m ||| 1 <<< j ||| acc.getD j 0) 0]) []
def AX.slot:AX→List Nat
 | .t n=> [n]
 | .c _=> []
def readsOf(o:AOper):List Nat:=o.op.args.flatMap AX.slot++ (match o.guard with|some (t,_)=> [t] |none=> [])
def namesOf(o:AOper):Nat:=maskOf (readsOf o++o.dst.toList)
def dstOf(o:AOper):Nat:=maskOf o.dst.toList
def pickNext(A:List Nat)(ks:List OK)(n done:Nat):Option Nat:=
 let ready:=(List.range n).filter fun i=> !done.testBit i&& ((A.getD i 0) &&& done == A.getD i 0)
 match ready.find? fun i=>(ks.getD i .p)== .p|| (ks.getD i .p)== .r with
 |some i=>some i
 |none=>match ready.find? fun i=>(ks.getD i .p)== .c with
  |some i=>some i
  |none=>ready.head?
def orderGo(A:List Nat)(ks:List OK)(n:Nat):Nat→Nat→List Nat→List Nat
 |0,_,acc=>acc.reverse
 |fuel+1,done,acc=>match pickNext A ks n done with
  |some i=>orderGo A ks n fuel (done ||| 1 <<< i) (i::acc)
  |none=>acc.reverse
def layOut(A:List Nat)(aos:List AOper)(π:List Nat)(ca:Bool):List AOper:=
 π.zipIdx.map fun(i,p)=>
  let o:=aos.getD i default
  match okind o.op with
  | .c=> {o with bel:=ca,rc:=(π.take p).filterMap fun j=>
    let r:=aos.getD j default
    if(okind r.op == .r&& !(A.getD i 0).testBit j)=true then r.dst.map (fun d=>(r.op,d))else none}
  | .a=> {o with bel:=ca}
  |_=>o
def isMake:AOp→Bool
 | .make _ _ _ _ _ _| .bslice _ _ _ _ _| .s2b _ _=>true
 |_=>false
def ownRead(A:List Nat)(ix:Nat→Nat)(ao:Nat→AOper)(p q:Nat):Bool:=
 match(ao q).op with
 | .b2s (.t d)=>(List.range q).any fun e=>decide (p<e) &&isMake (ao e).op&& (ao e).guard.isNone&& ((ao e).dst == some d) && (A.getD (ix q) 0).testBit (ix e) &&
   (List.range q).all fun m=>(m == e|| !((ao m).dst == some d)) && (!decide (e<m) || !(okind (ao m).op == .c))
 |_=>false
def pairOK(A:List Nat)(ix:Nat→Nat)(ao:Nat→AOper)(ca:Bool)(p q:Nat):Bool:=
 let k (p:Nat):OK:=okind (ao p).op
 (A.getD (ix q) 0).testBit (ix p) ||
  (namesOf (ao p) &&& dstOf (ao q)== 0&&dstOf (ao p) &&& namesOf (ao q)== 0&&
  !(k q == .c&& (k p == .c||k p == .a)) && (!(k q == .r&&k p == .c) ||ownRead A ix ao p q) &&
  (!(k p == .c&&k q == .a) ||ca) &&
  (!(k p == .r&&k q == .c) || ((ao p).dst.isSome&&dstOf (ao p) &&& maskOf (readsOf (ao p))== 0&&
   (List.range q).all fun m=> !decide (p<m) || (namesOf (ao p) &&& dstOf (ao m)== 0))))
def constOK(o:AOper):Bool:= !(aTag o.op == 1) && (!(okind o.op == .r) ||o.op.args.all fun| .c v=>(tgt v).isNone| .t _=>true)
def drawCheck(ops:List Oper)(A:List Nat)(aos:List AOper)(π:List Nat)(ca:Bool):Bool:=
 let n:=ops.length
 let ix (p:Nat):Nat:=π.getD p 0
 let ao (p:Nat):AOper:=aos.getD (ix p) default
 π.length == n&& (List.range n).all (fun i=>π.contains i) &&π.all (fun i=>decide (i<n)) &&decide π.Nodup&&aos.all constOK&&
 ((List.range n).all fun q=>(List.range n).all fun p=> !(A.getD (ix q) 0).testBit (ix p) ||decide (p<q)) &&
 ((ops.zipIdx).all fun(o,i)=>(depsOf o).all (fun j=>decide (j<i)) &&A.getD i 0 ==(depsOf o).foldl (fun m j=>m ||| 1 <<< j ||| A.getD j 0) 0) &&
 ((List.range n).all fun q=>(List.range q).all fun p=>pairOK A ix ao ca p q)
def compileDraw(P:Program)(ops:Array Oper):Option (List AOper):=
 (ops.toList.mapM (compileOper P ops)).bind fun aos=>
  let A:=ancOf ops.toList
  let n:=ops.size
  let π:=orderGo A (aos.map fun o=>okind o.op) n n 0 []
  if drawCheck ops.toList A aos π false then some (layOut A aos π false)
  else if drawCheck ops.toList A aos π true then some (layOut A aos π true)else none
theorem maskGo(l:List Nat)(m t:Nat):(l.foldl (fun m i=>m ||| 1 <<< i) m).testBit t=(m.testBit t||l.contains t):=by
 induction l generalizing m with
 |nil=>simp
 |cons i l ih=>
  rw[List.foldl_cons,ih,Nat.testBit_or,Nat.one_shiftLeft,Nat.testBit_two_pow,List.contains_cons,Bool.or_assoc]
  congr 2
  by_cases h:i=t
  ·subst h;simp
  ·simp[h,Ne.symm h]
theorem mask_mem {l:List Nat}{t:Nat}:(maskOf l).testBit t=true↔t∈l:=by
 unfold maskOf;rw[maskGo];simp
theorem and_none {a b t:Nat}(h:a &&& b=0)(ha:a.testBit t=true):b.testBit t=false:=by
 have:=congrArg (·.testBit t) h
 simpa[Nat.testBit_and,ha]using this
theorem ancGo(A:List Nat)(l:List Nat)(m t:Nat):(l.foldl (fun m j=>m ||| 1 <<< j ||| A.getD j 0) m).testBit t=true↔m.testBit t=true∨∃j∈l,j=t∨(A.getD j 0).testBit t=true:=by
 induction l generalizing m with
 |nil=>simp
 |cons i l ih=>
  rw[List.foldl_cons,ih,Nat.testBit_or,Nat.testBit_or,Nat.one_shiftLeft,Nat.testBit_two_pow]
  simp only[Bool.or_eq_true,decide_eq_true_eq,List.mem_cons,exists_eq_or_imp,or_assoc]
structure DC(ops:List Oper)(A:List Nat)(ix:Nat→Nat)(ao:Nat→AOper)(ca:Bool):Prop where
 all:∀i,i<ops.length→∃p,p<ops.length∧ix p=i
 nd:∀p q,p<ops.length→q<ops.length→ix p=ix q→p=q
 lt:∀p,p<ops.length→ix p<ops.length
 const:∀p,p<ops.length→constOK (ao p)=true
 anc:∀q p,q<ops.length→p<ops.length→(A.getD (ix q) 0).testBit (ix p)=true→p<q
 dep:∀i o,ops[i]? =some o→∀j∈depsOf o,j<i
 step:∀i o,ops[i]? =some o→∀t,(A.getD i 0).testBit t=true→t∈depsOf o∨∃j∈depsOf o,(A.getD j 0).testBit t=true
 pair:∀q p,q<ops.length→p<q→pairOK A ix ao ca p q=true
theorem drawCheck_spec {ops:List Oper}{A:List Nat}{aos:List AOper}{π:List Nat}{ca:Bool}(h:drawCheck ops A aos π ca=true)(hl:aos.length=ops.length):
  π.length=ops.length∧DC ops A (fun p=>π.getD p 0) (fun p=>aos.getD (π.getD p 0) default) ca:=by
 unfold drawCheck at h
 simp only[Bool.and_eq_true,beq_iff_eq,List.all_eq_true,List.mem_range,decide_eq_true_eq,List.contains_iff_mem,Bool.or_eq_true,Bool.not_eq_true']at h
 obtain⟨⟨⟨⟨⟨⟨⟨h1,h2⟩,h3⟩,h4⟩,h5⟩,h6⟩,h7⟩,h8⟩:=h
 have get:∀p (hp:p<π.length),π.getD p 0=π[p]:=fun p hp=>by simp[List.getD_eq_getElem?_getD,hp]
 refine⟨h1,⟨fun i hi=> ?_,fun p q hp hq he=> ?_,fun p hp=> ?_,fun p hp=> ?_,fun q p hq hp ha=> ?_,fun i o ho=> ?_,fun i o ho t ht=> ?_,fun q p hq hp=>h8 q hq p hp⟩⟩
 ·obtain⟨p,hp,e⟩:=List.getElem_of_mem (h2 i hi)
  exact⟨p,by omega,by rw[get p hp];exact e⟩
 ·rw[get p (by omega),get q (by omega)]at he
  exact(List.getElem_inj h4).1 he
 ·rw[get p (by omega)]
  exact h3 _ (List.getElem_mem _)
 ·have hlt:π.getD p 0<ops.length:=by rw[get p (by omega)];exact h3 _ (List.getElem_mem _)
  refine h5 _ ?_
  rw[List.getD_eq_getElem?_getD,List.getElem?_eq_getElem (by omega)]
  exact List.getElem_mem _
 ·rcases h6 q hq p hp with h|h
  ·rw[ha]at h;cases h
  ·exact h
 ·exact(h7 (o,i) (List.mem_zipIdx_iff_getElem?.2 ho)).1
 ·rw[(h7 (o,i) (List.mem_zipIdx_iff_getElem?.2 ho)).2,ancGo]at ht
  simp only[Nat.zero_testBit,Bool.false_eq_true,false_or]at ht
  obtain⟨j,hj,rfl|ht⟩:=ht
  ·exact .inl hj
  ·exact .inr ⟨j,hj,ht⟩
section
variable {A:List Nat} {ix:Nat→Nat} {ao:Nat→AOper} {ca:Bool} {p q:Nat}
theorem names_mem {o:AOper}{t:Nat}:(namesOf o).testBit t=true↔t∈readsOf o∨o.dst=some t:=by
 unfold namesOf;rw[mask_mem];cases h:o.dst<;>simp[eq_comm]
theorem dst_mem {o:AOper}{t:Nat}:(dstOf o).testBit t=true↔o.dst=some t:=by
 unfold dstOf;rw[mask_mem];cases h:o.dst<;>simp[eq_comm]
structure OwnRead(A:List Nat)(ix:Nat→Nat)(ao:Nat→AOper)(p q d e:Nat):Prop where
 op:(ao q).op= .b2s (.t d)
 pe:p<e
 eq:e<q
 made:isMake (ao e).op=true
 gd:(ao e).guard=none
 dst:(ao e).dst=some d
 anc:(A.getD (ix q) 0).testBit (ix e)=true
 one:∀m,m<q→m≠e→(ao m).dst≠some d
 noc:∀m,e<m→m<q→okind (ao m).op≠ .c
theorem ownRead_spec(h:ownRead A ix ao p q=true):∃d e,OwnRead A ix ao p q d e:=by
 unfold ownRead at h
 split at h
 ·rename_i d hop
  simp only[List.any_eq_true,List.mem_range,Bool.and_eq_true,decide_eq_true_eq,Option.isNone_iff_eq_none,beq_iff_eq,List.all_eq_true,Bool.or_eq_true,Bool.not_eq_true',decide_eq_false_iff_not,beq_eq_false_iff_ne]at h
  obtain⟨e,he,⟨⟨⟨⟨h1,h2⟩,h3⟩,h4⟩,h5⟩,h6⟩:=h
  exact⟨d,e,hop,h1,he,h2,h3,h4,h5,fun m hm hne=>(h6 m hm).1.resolve_left hne,fun m h1 hm=>(h6 m hm).2.resolve_left fun h=>h h1⟩
 ·cases h
structure Apart(A:List Nat)(ix:Nat→Nat)(ao:Nat→AOper)(ca:Bool)(p q:Nat):Prop where
 t1:∀t,t∈readsOf (ao p)∨(ao p).dst=some t→(ao q).dst≠some t
 t2:∀t,(ao p).dst=some t→¬ (t∈readsOf (ao q)∨(ao q).dst=some t)
 c:okind (ao q).op= .c→okind (ao p).op≠ .c∧okind (ao p).op≠ .a
 r:okind (ao q).op= .r→okind (ao p).op= .c→∃d e,OwnRead A ix ao p q d e
 a:okind (ao p).op= .c→okind (ao q).op= .a→ca=true
 rr:okind (ao p).op= .r→okind (ao q).op= .c→(∃d,(ao p).dst=some d∧d∉readsOf (ao p))∧∀m,p<m→m<q→∀t,t∈readsOf (ao p)∨(ao p).dst=some t→(ao m).dst≠some t
theorem pair_spec(h:pairOK A ix ao ca p q=true):(A.getD (ix q) 0).testBit (ix p)=true∨Apart A ix ao ca p q:=by
 unfold pairOK at h
 simp only[Bool.or_eq_true]at h
 rcases h with h|h
 ·exact .inl h
 refine .inr ?_
 simp only[Bool.and_eq_true,beq_iff_eq,Bool.not_eq_true',Bool.and_eq_false_iff,Bool.or_eq_false_iff,Bool.or_eq_true,List.all_eq_true,List.mem_range,decide_eq_false_iff_not,Option.isNone_iff_eq_none,beq_eq_false_iff_ne]at h
 obtain⟨⟨⟨⟨⟨h1,h2⟩,h3⟩,h4⟩,h5⟩,h6⟩:=h
 refine⟨fun t ht hq=> ?_,fun t ht hq=> ?_,fun hc=> ?_,fun hr hc=> ?_,fun hc ha=> ?_,fun hr hc=> ?_⟩
 ·have:=and_none h1 (names_mem.2 ht);rw[dst_mem.2 hq]at this;cases this
 ·have:=and_none h2 (dst_mem.2 ht);rw[names_mem.2 hq]at this;cases this
 ·exact h3.resolve_left (fun h=>h hc)
 ·rcases h4 with(h|h) |h
  ·exact absurd hr h
  ·exact absurd hc h
  ·exact ownRead_spec h
 ·rcases h5 with(h|h) |h
  ·exact absurd hc h
  ·exact absurd ha h
  ·exact h
 ·rcases h6 with(h|h) | ⟨⟨g2,g3⟩,g4⟩
  ·exact absurd hr h
  ·exact absurd hc h
  ·refine⟨?_,fun m hm hmq t ht hd=> ?_⟩
   ·obtain⟨d,hd⟩:=Option.isSome_iff_exists.1 g2
    refine⟨d,hd,fun hm=> ?_⟩
    have:=and_none g3 (dst_mem.2 hd)
    rw[mask_mem.2 hm]at this;cases this
   ·rcases g4 m hmq with h|h
    ·exact h hm
    ·have:=and_none h (names_mem.2 ht);rw[dst_mem.2 hd]at this;cases this
end
end Go.Am
end
