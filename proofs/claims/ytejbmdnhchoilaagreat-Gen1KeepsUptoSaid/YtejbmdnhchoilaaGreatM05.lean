/- Part of the proof: plain data, the machine and its soundness. No conditions. -/
import Derived.Test.YtejbmdnhchoilaaGreatM04
set_option linter.unusedVariables false
set_option linter.unusedSimpArgs false
set_option maxRecDepth 100000
section
namespace Go.Am
open Go
section
variable {P:Program}
theorem rowsAt_flat {c:Cx}{rows:List AV}{sz:Nat}(hsz:∀r∈rows,r.cells.length=sz){xs:List Value}(h:CellsR c (rows.flatMap AV.cells) xs)(rest:Array Value):RowsAt c sz rows (xs.toArray++rest):=by
 intro i j r x v hi hj hv
 have hrl:=hsz r (List.mem_of_getElem? hi)
 have hjl:=(List.getElem?_eq_some_iff.1 hj).1
 have hil:=(List.getElem?_eq_some_iff.1 hi).1
 have hlen:xs.length=rows.length*sz:=by rw[←h.1,flat_len hsz]
 have hlt:i*sz+j<rows.length*sz:=idx_lt hil (by omega)
 refine h.2 (i*sz+j) x v ?_ ?_
 ·rw[flat_get hsz i j r hi (by omega),hj]
 ·rw[Array.getElem?_append_left (by simp;omega)]at hv
  simpa using hv
theorem fresh_sound {Z φ H w} (hR:Rel Z φ H w) (t:TypeId) {sz:Nat} {rows:List AV} {xs:List Value} (h:CellsR (cx Z φ H w) (rows.flatMap AV.cells) xs) (h1:∀u∈xs,u.oneCell'=true) (hsz:∀r∈rows,r.cells.length=sz) (h0:0<sz)
  {C:Nat} (hC:rows.length≤C) (hC0:C≠0) {rest:Array Value} (hrest:rest.size=(C-rows.length) *sz) (hr1:∀u∈rest.toList,u.oneCell'=true) (fr:Nat×Nat) (hfr:frOK fr (C*sz)):
  Step Z φ H w (upd φ H.length ⟨w.heap.size,sz,C⟩) (aFresh t sz rows H).2 (w.alloc (.cells (xs.toArray++rest) t fr))∧
   VR (cx Z (upd φ H.length ⟨w.heap.size,sz,C⟩) (aFresh t sz rows H).2 (w.alloc (.cells (xs.toArray++rest) t fr))) (aFresh t sz rows H).1 (.slice (some ⟨w.heap.size,0,none⟩) rows.length C):=by
 have hlen:xs.length=rows.length*sz:=by rw[←h.1,flat_len hsz]
 have harr:(xs.toArray++rest).size=C*sz:=by
  simp only[Array.size_append,List.size_toArray,hrest,hlen,←Nat.add_mul]
  congr 1;omega
 refine⟨step_alloc hR t sz rows _ C h0 hC hsz harr fr (by rw[harr];exact hfr) (fun u hu=> ?_) (rowsAt_flat hsz h rest), .slc _ _ _ _ _ _ (by simp[aFresh]) (fun x hx=>by cases hx) (fun _=>by simp) (by simp) hC (fun _=>by simp)⟩
 simp only[Array.toList_append,List.mem_append]at hu
 rcases hu with hu|hu
 ·exact h1 u (by simpa using hu)
 ·exact hr1 u hu
theorem virtual_sound {Z φ H w}(hR:Rel Z φ H w)(t:TypeId){sz:Nat}(h0:0<sz)(a:Option Addr):Step Z φ H w (upd φ H.length ⟨0,sz,0⟩) (aFresh t sz [] H).2 w∧VR (cx Z (upd φ H.length ⟨0,sz,0⟩) (aFresh t sz [] H).2 w) (aFresh t sz [] H).1 (.slice a 0 0):=
 ⟨step_virtual hR t sz h0, .slc _ _ _ _ _ _ (by simp[aFresh]) (fun x hx=>by cases hx) (fun _=>by simp) (by simp) (Nat.le_refl _) (fun h=>absurd rfl h)⟩
theorem zeroCells_one {z:Array Value}{zs:List AV}(hz:z.toList.mapM cv1=some zs)(n:Nat):∀u∈(Builtin.zeroCells z n).toList,u.oneCell'=true:=by
 obtain⟨c1,c2⟩:=cv1_cells (c:=⟨fun _=>⟨0,0,0⟩,fun _=>False,fun _=>False,default⟩) hz
 have hc:=zero_cells hz
 intro u hu
 simp only[Builtin.zeroCells,Array.toList_map,List.mem_map,Array.mem_toList_iff,Array.mem_range]at hu
 obtain⟨i,hi,rfl⟩:=hu
 have hpos:0<z.size:=by rcases Nat.eq_zero_or_pos z.size with h|h<;>first| (simp[h]at hi;done) |exact h
 have hlt:i % z.size<z.size:=Nat.mod_lt _ hpos
 have hlt':i % z.size<zs.length:=by rw[c1];simpa using hlt
 rw[getElem!_pos z _ hlt]
 exact(c2 (i % z.size) zs[i % z.size] _ (by simp) (by simp[hlt])).oneCell (List.all_eq_true.1 hc _ (by simp))
theorem grownCap_le(w:World)(need old:Nat)(e:TypeId):need≤grownCap w need old e:=Nat.le_add_right _ _
theorem grow_sound {Z φ H w} (hR:Rel Z φ H w) {t t' ty e:TypeId} {i:TypeInfo} (ht:P.underlying t=some (.slice e)) (hi:P.info? e=some i) {zs:List AV} (hz:zeroT P e=some zs) (hzl:zs.length=i.size) (h0:0<i.size)
  {old new:List AV} {os vs:List Value} {y:Value} (ho:CellsR (cx Z φ H w) (old.flatMap AV.cells) os) (ho1:∀u∈os,u.oneCell'=true) (hos:∀r∈old,r.cells.length=i.size) (hn:CellsR (cx Z φ H w) (new.flatMap AV.cells) vs) (hok:okRows i.size new)
  (hsrc:Src P i.size t' y new.length vs w) {a:Option Addr} {cap:Nat} (hfirst:(Builtin.firstCells i.size old.length (.slice a old.length cap)).run P w.drew= .ok os.toArray w.drew) (hcap:cap<old.length+new.length)
  (hroom:(old.length+new.length) *i.bytes≤roomBound) (hb:0<i.bytes):
  ∃v φ' w',(Builtin.append_ #[t,t'] ty #[.slice a old.length cap,y]).run P w= .ok v w'∧Step Z φ H w φ' (aFresh e i.size (old++new) H).2 w'∧VR (cx Z φ' (aFresh e i.size (old++new) H).2 w') (aFresh e i.size (old++new) H).1 v:=by
 obtain⟨i',z,hi',hzv,hm⟩:=zero_of hz
 rw[hi]at hi';cases hi'
 have h63:((old.length+new.length:Nat):Int)≤9223372036854775807:=by
  have:old.length+new.length≤(old.length+new.length) *i.bytes:=Nat.le_mul_of_pos_right _ hb
  unfold roomBound at hroom;omega
 have hrun:=run_append_grow_src (P:=P) w t t' ty e i z ht hi hzv a old.length cap os hfirst y new.length vs hsrc hcap h63 (growslice_fits hcap hroom)
 have hst:=step_drew hR
 have hall:CellsR (cx Z φ H w.drew) ((old++new).flatMap AV.cells) (os++vs):=by
  rw[List.flatMap_append]
  refine⟨by rw[List.length_append,List.length_append,ho.1,hn.1],fun j x u hx hu=> ?_⟩
  rw[List.getElem?_append]at hx hu
  rw[←ho.1]at hu
  split at hx
  ·rename_i hlt;rw[if_pos hlt]at hu;exact(ho.2 j x u hx hu).mono hst.le
  ·rename_i hlt;rw[if_neg hlt]at hu;exact(hn.2 _ x u hx hu).mono hst.le
 have hg:=grownCap_le w (old.length+new.length) cap e
 have hzs:z.cells.size=i.size:=by
  have:=(mapM_some_get hm).1
  simp at this;omega
 obtain⟨f1,f2⟩:=fresh_sound hst.rel e hall (fun u hu=>by
   rcases List.mem_append.1 hu with hu|hu
   ·exact ho1 u hu
   ·exact hsrc.one u hu) (fun r hr=>by
   rcases List.mem_append.1 hr with hr|hr
   ·exact hos r hr
   ·exact(hok r hr).1) h0 (C:=grownCap w (old.length+new.length) cap e) (by simpa using hg) (by omega) (rest:=Builtin.zeroCells z.cells (grownCap w (old.length+new.length) cap e- (old.length+new.length)))
   (by rw[size_zeroCells,hzs,List.length_append]) (zeroCells_one hm _) (0,0) (frOK0 _)
 refine⟨_,_,_,hrun,hst.trans f1, ?_⟩
 rw[List.length_append]at f2
 exact f2
theorem append_room0(w:World)(t tx ty e:TypeId)(i:TypeInfo)(ht:P.underlying t=some (.slice e))(hi:P.info? e=some i)(base:Option Addr)(sLen sCap:Nat)(hle:sLen≤sCap)(x:Value)(hs:Src P i.size tx x 0 [] w):
  (Builtin.append_ #[t,tx] ty #[.slice base sLen sCap,x]).run P w= .ok (.slice base sLen sCap) w:=by
 rcases hs.kind with⟨e',hk⟩ |hk<;>cases base<;>simp[Builtin.append_,run_underlying ht,run_underlying hk,sizeOf,typeInfo,hi,hs.len,hle,hs.cells,storeCells]
theorem rows_written {Z φ H w} (hR:Rel Z φ H w) {id:Nat} {t sz rs} (hl:H[id]? =some (some (.rows t sz rs))) (hC:(φ id).C≠0) {new:List AV} {vs:List Value} (hn:CellsR (cx Z φ H w) (new.flatMap AV.cells) vs) (hsz:∀r∈new,r.cells.length=sz) (h1:∀u∈vs,u.oneCell'=true)
  {p:Nat} (hp:p≤rs.length) (hfit:p+new.length≤(φ id).C):
  Step Z φ H w φ (H.set id (some (.rows t sz (rs.take p++new++rs.drop (p+new.length))))) (w.setCells (φ id).b (p*sz) vs)∧w.there (φ id).b (p*sz) vs.length:=by
 obtain⟨q1,q2,q3,q4,q5⟩:=hR.obj id _ hl
 obtain⟨arr,fr,k1,k2,k5,k3,k4⟩:=q5 hC
 rw[show(cx Z φ H w).φ=φ from rfl]at q1 q3 k1 k2
 have hlen:vs.length=new.length*sz:=by rw[←hn.1,flat_len hsz]
 have hin:p*sz+vs.length≤arr.size:=by rw[k2,hlen,←Nat.add_mul];exact Nat.mul_le_mul_right _ hfit
 obtain⟨arr',r1,r2,r3,r4,r5⟩:=setCells_spec (φ id).b t fr vs (p*sz) w arr k1 hin
 have hall:∀r∈rs.take p++new++rs.drop (p+new.length),r.cells.length=sz:=fun r hr=>by
  simp only[List.append_assoc,List.mem_append]at hr
  rcases hr with hr|hr|hr
  ·exact q4 r (List.mem_of_mem_take hr)
  ·exact hsz r hr
  ·exact q4 r (List.mem_of_mem_drop hr)
 refine⟨step_write hR hl _ _ arr' hC ?_ hall r1 (by rw[r2,k2]) (by rw[r2];exact k5) ?_ ?_ (fun b hb=>setCells_ne _ b hb _ _ _) (setCells_size _ _ _ _) (setCells_dr _ _ _ _) (setCells_rest _ _ _ _).1 (setCells_rest _ _ _ _).2.1 (setCells_rest _ _ _ _).2.2, ?_⟩
 ·simp only[List.length_append,List.length_take,List.length_drop];omega
 ·intro u hu
  rcases r5 u hu with hu|hu
  ·exact k3 u hu
  ·exact h1 u hu
 ·intro i j r x u hi hj hu
  have hjl:j<sz:=by have:=(List.getElem?_eq_some_iff.1 hj).1;have:=hall r (List.mem_of_getElem? hi);omega
  rw[List.append_assoc,List.getElem?_append]at hi
  have hmin:min p rs.length=p:=by omega
  simp only[List.length_take,hmin]at hi
  by_cases c1:i<p
  ·rw[if_pos c1,List.getElem?_take,if_pos c1]at hi
   refine k4 i j r x u hi hj ?_
   rw[←r3 _ (.inl (idx_lt c1 hjl))];exact hu
  ·rw[if_neg c1,List.getElem?_append]at hi
   by_cases c2:i-p<new.length
   ·rw[if_pos c2]at hi
    refine hn.2 ((i-p) *sz+j) x u (by rw[flat_get hsz _ _ r hi hjl,hj]) ?_
    have hlt:(i-p) *sz+j<vs.length:=by rw[hlen];exact idx_lt c2 hjl
    have:=r4 _ hlt
    rw[←this,←Nat.add_assoc,←Nat.add_mul,show p+ (i-p)=i by omega]
    exact hu
   ·rw[if_neg c2,List.getElem?_drop]at hi
    refine k4 i j r x u (by rw[←hi];congr 1;omega) hj ?_
    rw[←r3 _ (.inr ?_)]
    ·exact hu
    ·rw[hlen,←Nat.add_mul]
     exact Nat.le_trans (Nat.mul_le_mul_right sz (by omega:p+new.length≤i)) (Nat.le_add_right _ _)
 ·intro j hj
  have hlt:p*sz+j<arr.size:=by omega
  refine⟨by rw[cell_of_row w _ _ arr t fr k1];simp[hlt], ?_⟩
  have:=k5 _ hlt
  simp only[World.frozen?,k1]
  obtain⟨lo,hi'⟩:=fr
  simp only at this⊢
  rw[Bool.and_eq_false_iff]
  by_cases hlo:lo≤p*sz+j
  ·right;simp;omega
  ·left;simp;omega
set_option maxHeartbeats 2000000 in
theorem append_sound {Z φ H w} (hR:Rel Z φ H w) {x y:AV} {u v:Value} (hx:VR (cx Z φ H w) x u) (hy:VR (cx Z φ H w) y v) {str:Bool} {t t' ty e:TypeId} {i:TypeInfo} {zs:List AV} (ht:P.underlying t=some (.slice e)) (hi:P.info? e=some i) (hz:zeroT P e=some zs) (hzl:zs.length=i.size)
  (h0:0<i.size) (hb:0<i.bytes) (hk:if str then P.underlying t'=some .string∧i.size=1 else∃e,P.underlying t'=some (.slice e)) {K:AV→AHeap→Prop} (h:aAppend str e i.size i.bytes x y H K):
  ∃r H',K r H'∧∃v' φ' w',(Builtin.append_ #[t,t'] ty #[u,v]).run P w= .ok v' w'∧Step Z φ H w φ' H' w'∧VR (cx Z φ' H' w') r v':=by
 obtain⟨new,hnew,hok,h⟩:=h
 obtain⟨vs,hvs,hsrc⟩:=src_sound hR hy hnew hok h0 hk
 have hncells:∀r∈new,r.cells.length=i.size:=fun r hr=>(hok r hr).1
 have tight:∀ (old:List AV) (os:List Value) (a:Option Addr) (cap:Nat),u= .slice a old.length cap→cap=old.length→CellsR (cx Z φ H w) (old.flatMap AV.cells) os→(∀u∈os,u.oneCell'=true)→(∀r∈old,r.cells.length=i.size)→
   (Builtin.firstCells i.size old.length (.slice a old.length cap)).run P w.drew= .ok os.toArray w.drew→(old.length+new.length) *i.bytes≤roomBound→¬ (new=[]∧old≠[])→
   ∃v' φ' w',(Builtin.append_ #[t,t'] ty #[u,v]).run P w= .ok v' w'∧Step Z φ H w φ' (aFresh e i.size (old++new) H).2 w'∧VR (cx Z φ' (aFresh e i.size (old++new) H).2 w') (aFresh e i.size (old++new) H).1 v':=by
  intro old os a cap hu hcap ho ho1 hos hfirst hroom hne
  by_cases hnil:new=[]
  ·have hold:old=[]:=Classical.byContradiction fun hc=>hne ⟨hnil,hc⟩
   subst hnil hold
   subst hu
   simp only[List.length_nil]at hcap
   subst hcap
   obtain rfl:vs=[]:=by have:=hvs.1;simpa using this.symm
   obtain⟨s1,s2⟩:=virtual_sound hR e h0 a
   exact⟨_,_,w,append_room0 w t t' ty e i ht hi a 0 0 (Nat.le_refl _) v hsrc,s1,s2⟩
  ·subst hu
   have hpos:0<new.length:=by cases new<;>simp at hnil⊢
   exact grow_sound hR ht hi hz hzl h0 ho ho1 hos hvs hok hsrc hfirst (by omega) hroom hb
 cases x<;>simp only at h<;>try exact h.elim
 ·cases hx
  obtain⟨hroom,h⟩:=h
  refine⟨_,_,h, ?_⟩
  have:=tight [] [] none 0 rfl rfl ⟨rfl,fun i a x h=>by simp at h⟩ (by simp) (by simp) (run_firstCells_none w.drew _ _ _ _) (by simpa using hroom) (by simp)
  simpa using this
 ·rename_i id o n cp
  obtain⟨rs,hl,hroom,hon,h⟩:=h
  obtain⟨q1,q2,q3,q4,q5⟩:=hR.obj id _ hl
  rw[show(cx Z φ H w).φ=φ from rfl]at q1 q3
  have hxv:=hx
  cases hx with
  |slc _ _ _ _ a cap hid hcp hf hiC hm ha=>
  rw[show(cx Z φ H w).φ=φ from rfl]at hf hiC ha
  have hroomapp:(hC:(φ id).C≠0)→o+n+new.length≤(φ id).C→n+new.length≤cap→a=some ⟨(φ id).b,o*i.size,none⟩→
    (Builtin.append_ #[t,t'] ty #[.slice a n cap,v]).run P w= .ok (.slice a (n+new.length) cap) (w.setCells (φ id).b ((o+n) *i.size) vs)∧
    Step Z φ H w φ (H.set id (some (.rows e i.size (rs.take (o+n)++new++rs.drop (o+n+new.length))))) (w.setCells (φ id).b ((o+n) *i.size) vs):=by
   intro hC hfit hcapn ha'
   obtain⟨s1,s2⟩:=rows_written hR hl hC hvs hncells hsrc.one hon hfit
   refine⟨?_,s1⟩
   subst ha'
   have:=run_append_room_src (P:=P) w t t' ty e i ht hi (φ id).b (o*i.size) n cap v new.length vs hsrc hcapn (fun j hj=>by rw[←Nat.add_mul];exact(s2 j hj).1) (fun j hj=>by rw[←Nat.add_mul];exact(s2 j hj).2)
   rw[this,←Nat.add_mul]
  have hview:∃os,CellsR (cx Z φ H w) (((rs.drop o).take n).flatMap AV.cells) os∧(∀u∈os,u.oneCell'=true)∧(Builtin.firstCells i.size n (.slice a n cap)).run P w.drew= .ok os.toArray w.drew:=by
   by_cases hn0:n=0
   ·subst hn0
    refine⟨[],by simp[CellsR],by simp, ?_⟩
    cases a with
    |none=>exact run_firstCells_none _ _ _ _ _
    |some a=>exact run_firstCells_some w.drew i.size 0 a 0 cap [] (by simp) (fun j v h=>by simp at h)
   ·obtain rfl:=ha (by omega)
    obtain⟨arr,fr,k1,k2,k5,k3,k4⟩:=q5 (by show(φ id).C≠0;omega)
    rw[show(cx Z φ H w).φ=φ from rfl]at k1 k2
    have hcl:∀r∈(rs.drop o).take n,r.cells.length=i.size:=fun r hr=>q4 r (List.mem_of_mem_drop (List.mem_of_mem_take hr))
    have hlen:((rs.drop o).take n).length=n:=by simp;omega
    refine⟨(arr.extract (o*i.size) (o*i.size+n*i.size)).toList,⟨?_, ?_⟩, ?_, ?_⟩
    ·rw[flat_len hcl,hlen]
     have:o*i.size+n*i.size≤arr.size:=by rw[k2,←Nat.add_mul];exact Nat.mul_le_mul_right _ (by omega)
     simp;omega
    ·intro j x u hx hu
     have hlt:j<n*i.size:=by have:=(List.getElem?_eq_some_iff.1 hx).1;rwa [flat_len hcl,hlen]at this
     have hq:=div_lt hlt
     have hmod:j % i.size<i.size:=Nat.mod_lt _ h0
     have hj:j=j/i.size*i.size+j % i.size:=by rw[Nat.mul_comm];exact(Nat.div_add_mod j i.size).symm
     have hql:j/i.size<((rs.drop o).take n).length:=by rw[hlen];exact hq
     have hrow:((rs.drop o).take n)[j/i.size]? =some ((rs.drop o).take n)[j/i.size]:=List.getElem?_eq_getElem hql
     rw[hj,flat_get hcl _ _ _ hrow hmod]at hx
     have hrow':=hrow
     rw[List.getElem?_take,if_pos hq,List.getElem?_drop]at hrow'
     refine k4 (o+j/i.size) (j % i.size) _ x u hrow' hx ?_
     simp only[Array.getElem?_toList,Array.getElem?_extract]at hu
     split at hu
     ·rw[Nat.add_mul,Nat.add_assoc,←hj];exact hu
     ·cases hu
    ·intro u hu
     obtain⟨j,hj,rfl⟩:=List.getElem_of_mem hu
     exact k3 _ (by simp)
    ·refine run_firstCells_some w.drew i.size n _ n cap _ ?_ (fun j v hv=> ?_)
     ·have:o*i.size+n*i.size≤arr.size:=by rw[k2,←Nat.add_mul];exact Nat.mul_le_mul_right _ (by omega)
      simp;omega
     ·rw[Addr.add_mid,q1]
      have:=World.rangeAt_of_block (w:=w) k1 (o*i.size) (n*i.size) j v hv
      simpa using this
  cases cp with
  |none=>
   simp only at h
   have hfull:=hf rfl
   split at h
   ·rename_i hcond
    obtain⟨rfl,hn⟩:=hcond
    refine⟨_,_,h, ?_⟩
    rw[Nat.zero_add]at hfull
    by_cases hfit:n+new.length≤cap
    ·by_cases hC:(φ id).C=0
     ·have hnl:new.length=0:=by omega
      obtain rfl:new=[]:=List.length_eq_zero_iff.1 hnl
      obtain rfl:vs=[]:=by have:=hvs.1;simpa using this.symm
      obtain rfl:n=0:=by omega
      have hst:=step_rename hR hl
      obtain rfl:rs=[]:=List.length_eq_zero_iff.1 hn.symm
      refine⟨_,_,w,append_room0 w t t' ty e i ht hi a 0 cap (by omega) v hsrc,by simpa using hst, ?_⟩
      refine .slc _ _ _ _ _ _ (by simp) (fun x hx=>by cases hx) (fun _=>by simp[hfull]) (by simp[hfull]) (by simp) (fun hne=>by omega)
     ·obtain⟨r1,s1⟩:=hroomapp hC (by omega) hfit (by have:=ha (by omega);rw[this,q1])
      have hid':(H.set id (some (.rows e i.size (rs.take (0+n)++new++rs.drop (0+n+new.length)))))[id]? =some (some (.rows e i.size (rs.take (0+n)++new++rs.drop (0+n+new.length)))):=List.getElem?_set_self (live_lt hl)
      have s2:=step_rename s1.rel hid'
      have e1:rs.take (0+n)++new++rs.drop (0+n+new.length)=rs++new:=by
       rw[Nat.zero_add,hn,List.take_length,List.drop_of_length_le (by omega),List.append_nil]
      rw[e1,List.set_set,List.length_set]at s2
      rw[e1]at s1
      have s3:=s1.trans s2
      refine⟨_,_,_,r1,s3, ?_⟩
      exact .slc _ _ _ _ _ _ (by simp) (fun x hx=>by cases hx) (fun _=>by simp[hfull]) (by simp[hfull]) hfit (fun hne=>by simp[ha hne])
    ·
     obtain⟨os,o1,o2,o3⟩:=hview
     have e1:(rs.drop 0).take n=rs:=by rw[List.drop_zero,hn,List.take_length]
     rw[e1]at o1
     subst hn
     obtain⟨v',φ',w',g1,g2,g3⟩:=grow_sound hR (ty:=ty) ht hi hz hzl h0 o1 o2 q4 hvs hok hsrc o3 (by omega) hroom hb
     have g4:=step_drop g2.rel (H.set id none++ [some (.rows e i.size (rs++new))]) (by simp[aFresh]) (fun j o hj=>by
      rcases get_snoc_cases hj with⟨hlt,hj⟩ | ⟨rfl,hj⟩
      ·rcases get_set_cases hj with⟨_,hj⟩ | ⟨_,hj⟩
       ·cases hj
       ·simp only[aFresh];rw[List.getElem?_append_left (by simpa using hlt)];exact hj
      ·simp only[aFresh];rw[←hj,List.length_set];simp)
     refine⟨v',φ',w',g1,g2.trans g4, ?_⟩
     have:=g3.mono g4.le
     simp only[aFresh,List.length_append]at this
     exact this
   ·rename_i hcond
    obtain⟨hfit,h⟩:=h
    refine⟨_,_,h, ?_⟩
    by_cases hC:(φ id).C=0
    ·have hnl:new.length=0:=by omega
     obtain rfl:new=[]:=List.length_eq_zero_iff.1 hnl
     obtain rfl:vs=[]:=by have:=hvs.1;simpa using this.symm
     have hrs:rs=[]:=List.length_eq_zero_iff.1 (by omega)
     exact absurd (by constructor;omega;rw[hrs];simp;omega) hcond
    ·by_cases hcap0:cap=0
     ·have hnl:new.length=0:=by omega
      obtain rfl:new=[]:=List.length_eq_zero_iff.1 hnl
      obtain rfl:vs=[]:=by have:=hvs.1;simpa using this.symm
      have hrun:=append_room0 (P:=P) w t t' ty e i ht hi a n cap hm v hsrc
      have hself:H.set id (some (.rows e i.size (rs.take (o+n)++ []++rs.drop (o+n+0))))=H:=by
       simp only[List.append_nil,Nat.add_zero,List.take_append_drop]
       exact List.ext_getElem? fun j=>by
        by_cases hj:j=id
        ·subst hj;rw[List.getElem?_set_self (live_lt hl),hl]
        ·rw[List.getElem?_set_ne (Ne.symm hj)]
      simp only[List.length_nil,Nat.add_zero]at hself⊢
      rw[hself]
      exact⟨_,φ,w,hrun,Step.refl hR,hxv⟩
     ·obtain⟨r1,s1⟩:=hroomapp hC (by omega) (by omega) (by have:=ha hcap0;rw[this,q1])
      refine⟨_,_,_,r1,s1, ?_⟩
      exact .slc _ _ _ _ _ _ (by simpa using hid) (fun x hx=>by cases hx) (fun _=>hfull) hiC (by omega) ha
  |some c=>
   simp only at h
   obtain⟨hcn,h⟩:=h
   have hcapc:cap=n:=(hcp c rfl).trans hcn
   split at h
   ·rename_i hcond
    obtain⟨rfl,hne⟩:=hcond
    obtain rfl:vs=[]:=by have:=hvs.1;simpa using this.symm
    exact⟨_,_,h,_,φ,w,append_room0 w t t' ty e i ht hi a n cap hm v hsrc,Step.refl hR,hxv⟩
   ·rename_i hcond
    refine⟨_,_,h, ?_⟩
    obtain⟨os,o1,o2,o3⟩:=hview
    have hlen:((rs.drop o).take n).length=n:=by simp;omega
    refine tight ((rs.drop o).take n) os a cap (by rw[hlen]) (by rw[hlen];exact hcapc) o1 o2 (fun r hr=>q4 r (List.mem_of_mem_drop (List.mem_of_mem_take hr))) (by rw[hlen];exact o3) (by rw[hlen];exact hroom) (fun hc=>hcond ⟨hc.1,fun e0=>hc.2 (by rw[e0];simp)⟩)
 ·rename_i sz rows cp
  obtain⟨rfl,hcp',hroom,hokr,h⟩:=h
  have hxv:=hx
  obtain⟨a,n,cap,rfl,hn,hcap,os,o1,o2,o3⟩:=view_sound hR hx (sz:=i.size) (rows:=rows) (by simp[view]) hokr h0
  have hcapeq:cap=rows.length:=by
   subst hcp'
   cases hx with
   |lst0 _ _ _ _ hcp=>exact hcp _ rfl
   |lst _ _ _ _ _ _ _ _ _ _ hcp=>exact hcp _ rfl
  subst hn
  split at h
  ·rename_i hcond
   obtain⟨rfl,hne⟩:=hcond
   obtain rfl:vs=[]:=by have:=hvs.1;simpa using this.symm
   exact⟨_,_,h,_,φ,w,append_room0 w t t' ty e i ht hi a _ cap hcap v hsrc,Step.refl hR,hxv⟩
  ·rename_i hcond
   refine⟨_,_,h, ?_⟩
   refine tight rows os a cap rfl hcapeq o1 o2 (fun r hr=>(hokr r hr).1) ?_ hroom hcond
   by_cases hr:rows=[]
   ·subst hr
    obtain rfl:os=[]:=by have:=o1.1;simpa using this.symm
    cases a with
    |none=>exact run_firstCells_none _ _ _ _ _
    |some a=>exact run_firstCells_some w.drew i.size 0 a 0 cap [] (by simp) (fun j v h=>by simp at h)
   ·obtain⟨b,o,rfl,hrange⟩:=o3 hr
    exact run_firstCells_some w.drew i.size _ _ _ cap os (by rw[←o1.1,flat_len (fun r hr=>(hokr r hr).1)]) (fun j v hv=>by rw[Addr.add_mid];simpa using hrange j v hv)
end
end Go.Am
end
