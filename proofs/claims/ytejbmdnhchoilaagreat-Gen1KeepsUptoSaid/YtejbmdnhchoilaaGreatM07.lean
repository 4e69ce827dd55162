/- Part of the proof: plain data, the machine and its soundness. No conditions. -/
import Derived.MapKept
import Derived.Test.YtejbmdnhchoilaaGreatM06
set_option linter.unusedVariables false
set_option linter.unusedSimpArgs false
set_option maxRecDepth 100000
section
namespace Go.Am
open Go
section
variable {P:Program}
theorem ba_beq(a b:ByteArray):(a == b)=decide (a=b):=by
 cases a with|mk x=>cases b with|mk y=>
 show(x == y)=_
 rw[Bool.eq_iff_iff]
 simp
theorem run_ck {kt:TypeId}(hk:P.underlying kt=some .string)(b:Bool)(s:ByteArray)(w:World):(Instr.checkKey b 10000 kt (.string s)).run P w= .ok () w:=by
 unfold Instr.checkKey
 simp[run_underlying hk]
theorem step_writeM {Z φ H w} (hR:Rel Z φ H w) {id:Nat} {es:List (AV×AV)} (hid:H[id]? =some (some (.amap es))) (w':World) (es':List (AV×AV)) (ents:Array MapEntry) (clock:Nat)
  (hb:w'.heap[(φ id).b]? =some (.map ents clock)) (hsz:ents.size=es'.length) (hr:∀ (i:Nat) (e:MapEntry) (p:AV×AV),ents[i]? =some e→es'[i]? =some p→VR (cx Z φ H w) p.1 e.key∧VR (cx Z φ H w) p.2 e.val∧e.born<clock)
  (hbo:∀ (i j:Nat) (e f:MapEntry),ents[i]? =some e→ents[j]? =some f→e.born=f.born→i=j)
  (hsame:∀b,b≠(φ id).b→w'.heap[b]? =w.heap[b]?) (hs:w'.heap.size=w.heap.size) (hdr:w.drawn≤w'.drawn) (hos:w'.os=w.os) (htp:w'.tape=w.tape) (hout:w'.output=w.output):
  Step Z φ H w φ (H.set id (some (.amap es'))) w':=by
 have hC:(φ id).C≠0:=(hR.obj id _ hid).1
 have hown:∀b,owns φ (H.set id (some (.amap es'))) b→owns φ H b:=by
  rintro b ⟨i,o,ho,r⟩
  rcases get_set_cases ho with⟨rfl,_⟩ | ⟨_,ho⟩
  ·exact⟨i,_,hid,r⟩
  ·exact⟨i,o,ho,r⟩
 have hle:(cx Z φ H w).le (cx Z φ (H.set id (some (.amap es'))) w'):=
  ⟨fun i hi=>by show i<(H.set id _).length;rw[List.length_set];exact hi,fun _ _=>rfl,by simp[hs],fun b _ hn h=>hn (h.imp (hown b) _root_.id),fun b _ hn=>hsame b fun e=>hn (.inl ⟨id,_,hid,hC,e.symm⟩)⟩
 refine⟨hle,hos,htp,hout,hdr,fun b hb=>hsame b fun e=>(hR.res b hb).2 ⟨id,_,hid,hC,e.symm⟩, ?_, ?_,fun b hb=>⟨by rw[hs];exact(hR.res b hb).1,fun h=>(hR.res b hb).2 (hown b h)⟩⟩
 ·intro i o ho
  rcases get_set_cases ho with⟨rfl,he⟩ | ⟨hne,ho⟩
  ·injection he with he
   subst he
   exact⟨hC,ents,clock,hb,hsz,fun i e p h1 h2=>⟨(hr i e p h1 h2).1.mono hle,(hr i e p h1 h2).2.1.mono hle,(hr i e p h1 h2).2.2⟩,hbo⟩
  ·exact OR.keep hle (live_lt ho) (fun hCi=>hsame _ fun e=>hne (hR.inj i id o _ ho hid hCi hC e)) (hR.obj i o ho)
 ·intro i j o p hi hj
  rcases get_set_cases hi with⟨ei,_⟩ | ⟨_,hi2⟩<;>rcases get_set_cases hj with⟨ej,_⟩ | ⟨_,hj2⟩
  ·exact fun _ _ _=>ei.trans ej.symm
  ·subst ei;exact hR.inj _ j _ p hid hj2
  ·subst ej;exact hR.inj i _ o _ hi2 hid
  ·exact hR.inj i j o p hi2 hj2
def OpRuns(P:Program)(o:Oper)(ρ:Operand→Value)(w:World)(v:Value)(w':World):Prop:=
 (execOp ρ o).run P w= .ok (.value v) w'∨((execOp ρ o).run P w= .ok .skip w'∧v=undef)
theorem lkA_find(s:ByteArray)(c:Cx):∀ (es:List (AV×AV)) (ents:List MapEntry) (n:Nat) (r:Option Nat),ents.length=es.length→
  (∀ (i:Nat) (e:MapEntry) (p:AV×AV),ents[i]? =some e→es[i]? =some p→VR c p.1 e.key)→lkA s es n=some r→
  match r with
  |none=>Instr.findNow .string (.string s) ents n=some none
  |some i=>∃u,Instr.findNow .string (.string s) ents n=some (some (i,u))∧n≤i∧i-n<es.length∧(ents[i-n]?).map (·.key)=some (.string s)
 | [],[],n,r,_,_,h=>by
  simp only[lkA,Option.some.injEq]at h
  subst h;rfl
 | [],_::_,_,_,h,_,_=>by simp at h
 |_::_,[],_,_,h,_,_=>by simp at h
 | (k,v)::l,e::es,n,r,h,hr,hk=>by
  cases k<;>simp only[lkA]at hk<;>try cases hk
  rename_i k
  have h0:=hr 0 e (.str k,v) rfl rfl
  have hek:e.key= .string k:=by
   generalize e.key=q at h0
   cases h0;rfl
  split at hk
  ·rename_i hs
   subst hs
   cases hk
   exact⟨e.val,by simp[Instr.findNow,Instr.sameNow,hek,ba_beq],Nat.le_refl _,by simp,by simp[hek]⟩
  ·rename_i hs
   have hf:Instr.findNow .string (.string s) (e::es) n=Instr.findNow .string (.string s) es (n+1):=by
    simp[Instr.findNow,Instr.sameNow,hek,ba_beq,hs]
   have ih:=lkA_find s c l es (n+1) r (by simpa using h) (fun i e' p hi hp=>hr (i+1) e' p (by simpa using hi) (by simpa using hp)) hk
   cases r with
   |none=>simp only at ih ⊢;rw[hf];exact ih
   |some i=>
    simp only at ih⊢
    obtain⟨u,h1,h3,h5,h4⟩:=ih
    refine⟨u,by rw[hf];exact h1,by omega,by simp;omega, ?_⟩
    rw[show i-n=(i- (n+1))+1 by omega,List.getElem?_cons_succ]
    exact h4
theorem mapset_sound {Z φ H w} (hR:Rel Z φ H w) {o:Oper} {t kt et:TypeId} {M K V:Operand} {m x v:AV} {ρ:Operand→Value} (ho:o.op= .mapUpdate t M K V) (hu:P.underlying t=some (.map kt et)) (hkt:P.underlying kt=some .string)
  (hm:VR (cx Z φ H w) m (ρ M)) (hx:VR (cx Z φ H w) x (ρ K)) (hw:VR (cx Z φ H w) v (ρ V)) {H':AHeap} (h:aMapSet H m x v=some H'):
  ∃w',OpRuns P o ρ w undef w'∧Step Z φ H w φ H' w':=by
 unfold aMapSet at h
 split at h
 ·rename_i id s
  split at h
  ·rename_i es hH
   simp only[Option.map_eq_some_iff]at h
   obtain⟨r,hr0,rfl⟩:=h
   generalize hX:ρ M=u at hm
   generalize hI:ρ K=q at hx
   generalize hV:ρ V=val at hw
   cases hx
   cases hm with
   |map _ hd=>
   obtain⟨hC,ents,clock,hb,hsz,hr,hbo⟩:=hR.obj id _ hH
   have hb':w.heap[(φ id).b]? =some (.map ents clock):=hb
   have hlt:(φ id).b<w.heap.size:=heap_lt hb'
   have hf:=lkA_find s (cx Z φ H w) es ents.toList 0 r (by simpa using hsz) (fun i e p he hp=>(hr i e p (by simpa using he) hp).1) hr0
   have hck:=run_ck (P:=P) hkt false s w
   have hg:Sem.run P (Sem.getObj (φ id).b Sem.pure) w= .ok (.map ents clock) w:=by simp[Sem.run,hb']
   have hset:∀o:Obj,Sem.run P (Sem.setObj (φ id).b o (Sem.pure ())) w= .ok () {w with heap:=w.heap.setIfInBounds (φ id).b o}:=fun o=>by simp[Sem.run,hb']
   cases r with
   |none=>
    simp only at hf⊢
    have h1:(Instr.findKey kt (.string s) ents.toList).run P w= .ok none w:=Go.MapKept.run_findKey hkt hf
    have hrun:(Instr.mapUpdate t (.map (some (φ id).b)) (.string s) val).run P w= .ok () {w with heap:=w.heap.setIfInBounds (φ id).b (.map (ents.push {key:= .string s,val:=val,born:=clock}) (clock+1))}:=by
     unfold Instr.mapUpdate
     simp[run_underlying hu,getObj,setObj,hg,hset,hck,h1,Result.andThen]
    have hst:=step_writeM hR hH {w with heap:=w.heap.setIfInBounds (φ id).b (.map (ents.push {key:= .string s,val:=val,born:=clock}) (clock+1))} (es++ [(.str s,v)]) (ents.push {key:= .string s,val:=val,born:=clock}) (clock+1)
     (by simp[hlt]) (by simp[hsz]) (fun i e p h1 h2=>by
      rw[Array.getElem?_push]at h1
      rw[List.getElem?_append]at h2
      split at h1
      ·rename_i e1
       cases h1
       rw[if_neg (by omega)]at h2
       have:p=(.str s,v):=by
        have e2:i-es.length=0:=by omega
        rw[e2]at h2;simpa using h2.symm
       subst this
       exact⟨.str _,hw,by simp⟩
      ·rename_i e1
       have hi:i<ents.size:=(Array.getElem?_eq_some_iff.1 h1).1
       rw[if_pos (by omega)]at h2
       obtain⟨r1,r2,r3⟩:=hr i e p h1 h2
       exact⟨r1,r2,by omega⟩) (fun i j e g h1 h2 h3=>by
      have lt:∀ (i:Nat) (e:MapEntry),ents[i]? =some e→e.born<clock:=fun i e h=>by
       have hi:i<ents.size:=(Array.getElem?_eq_some_iff.1 h).1
       exact(hr i e _ h (List.getElem?_eq_getElem (by omega))).2.2
      rw[Array.getElem?_push]at h1 h2
      split at h1<;>split at h2
      ·omega
      ·cases h1;have:=lt _ _ h2;simp at h3;omega
      ·cases h2;have:=lt _ _ h1;simp at h3;omega
      ·exact hbo i j e g h1 h2 h3) (fun b hne=>by simp[Ne.symm hne]) (by simp) (Nat.le_refl _) rfl rfl rfl
    exact⟨_, .inr ⟨by simp only[execOp,ho,hX,hI,hV,Sem.run_bind,hrun];rfl,rfl⟩,hst⟩
   |some i0=>
    simp only at hf⊢
    obtain⟨u0,hf1,hf3,hf5,hf4⟩:=hf
    rw[Nat.sub_zero]at hf4 hf5
    have h1:(Instr.findKey kt (.string s) ents.toList).run P w= .ok (some (i0,u0)) w:=Go.MapKept.run_findKey hkt hf1
    have hkey:(ents[i0]'(by omega)).key= .string s:=by
     rw[Array.getElem?_toList,Array.getElem?_eq_getElem (by omega)]at hf4
     simpa using hf4
    have hsame:Instr.sameBits 10000 (.string s) (.string s)=true:=by
     unfold Instr.sameBits
     rw[ba_beq];simp
    have hrun:(Instr.mapUpdate t (.map (some (φ id).b)) (.string s) val).run P w= .ok () {w with heap:=w.heap.setIfInBounds (φ id).b (.map (ents.modify i0 fun e=> {e with key:= .string s,val:=val}) clock)}:=by
     have hke:((ents[i0]?).map (·.key)).getD (.string s)= .string s:=by
      rw[Array.getElem?_eq_getElem (by omega)];simp[hkey]
     unfold Instr.mapUpdate
     simp[run_underlying hu,getObj,setObj,hg,hset,hck,h1,Result.andThen,Instr.keyThatStays,hke,hsame]
    have hst:=step_writeM hR hH {w with heap:=w.heap.setIfInBounds (φ id).b (.map (ents.modify i0 fun e=> {e with key:= .string s,val:=val}) clock)} (es.set i0 (.str s,v)) (ents.modify i0 fun e=> {e with key:= .string s,val:=val}) clock
     (by simp[hlt]) (by simp[hsz]) (fun i e p h1 h2=>by
      rw[Array.getElem?_modify]at h1
      rw[List.getElem?_set]at h2
      split at h1
      ·rename_i e1
       subst e1
       rw[if_pos rfl,if_pos hf5]at h2
       rw[Array.getElem?_eq_getElem (by omega)]at h1
       simp only[Option.map_some,Option.some.injEq]at h1 h2
       subst h1 h2
       refine⟨.str _,hw, ?_⟩
       exact(hr i0 (ents[i0]'(by omega)) _ (by simp) (List.getElem?_eq_getElem hf5)).2.2
      ·rename_i e1
       rw[if_neg e1]at h2
       exact hr i e p h1 h2) (fun i j e g h1 h2 h3=>by
      have born:∀ (i:Nat) (e:MapEntry),(ents.modify i0 fun e=> {e with key:= .string s,val:=val})[i]? =some e→∃e0,ents[i]? =some e0∧e0.born=e.born:=fun i e h=>by
       rw[Array.getElem?_modify]at h
       split at h
       ·rename_i e1
        subst e1
        cases hq:ents[i0]? with
        |none=>rw[hq]at h;cases h
        |some e0=>rw[hq]at h;simp only[Option.map_some,Option.some.injEq]at h;subst h;exact⟨e0,rfl,rfl⟩
       ·exact⟨e,h,rfl⟩
      obtain⟨e0,k1,k2⟩:=born i e h1
      obtain⟨g0,k3,k4⟩:=born j g h2
      exact hbo i j e0 g0 k1 k3 (by omega)) (fun b hne=>by simp[Ne.symm hne]) (by simp) (Nat.le_refl _) rfl rfl rfl
    exact⟨_, .inr ⟨by simp only[execOp,ho,hX,hI,hV,Sem.run_bind,hrun];rfl,rfl⟩,hst⟩
  ·cases h
 ·cases h
end
end Go.Am
end
