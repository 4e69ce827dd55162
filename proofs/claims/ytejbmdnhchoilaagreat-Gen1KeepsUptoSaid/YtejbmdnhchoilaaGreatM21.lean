/- Part of the proof: plain data, the machine and its soundness. No conditions. -/
import Derived.Test.YtejbmdnhchoilaaGreatM20
set_option linter.unusedVariables false
set_option linter.unusedSimpArgs false
set_option maxRecDepth 100000
section
namespace Go.Am.Bd
open Go Go.Am Go.ChangeShapes Go.WideShapes Go.ChangeAt Go.RowKit
def Shp(M:Nat)(P:Program):Nat→TypeId→List AV→Prop
 |0,_,_=>False
 |k+1,t,cs=>
  match P.underlying t with
  |some .bool=>∃b,cs=[.bool b]
  |some (.int kd)=>∃n,(Lit.int kd n).wf=true∧cs=[.int kd n]
  |some .string=>∃s:ByteArray,s.size≤M∧cs=[.str s]
  |some (.slice e)=>∃rows:List (List AV),rows.length≤M∧cs=[.lst (P.cellsOf e) (rows.map (mkRow (isRowE P e))) none]∧∀r∈rows,Shp M P k e r
  |some (.struct fs)=>∃parts:List (List AV),parts.length=fs.size∧cs=parts.flatten∧∀ (i:Nat) f p,fs[i]? =some f→parts[i]? =some p→Shp M P k f.type p
  |some (.array n e)=>∃parts:List (List AV),parts.length=n∧cs=parts.flatten∧∀p∈parts,Shp M P k e p
  |_=>False
section
variable {M:Nat} {P:Program} {k:Nat} {t:TypeId} {cs:List AV}
theorem Shp.bool(hu:P.underlying t=some .bool)(h:Shp M P (k+1) t cs):∃b,cs=[.bool b]:=by simp only[Shp,hu]at h;exact h
theorem Shp.int {kd:IntKind}(hu:P.underlying t=some (.int kd))(h:Shp M P (k+1) t cs):∃n,(Lit.int kd n).wf=true∧cs=[.int kd n]:=by simp only[Shp,hu]at h;exact h
theorem Shp.str(hu:P.underlying t=some .string)(h:Shp M P (k+1) t cs):∃s:ByteArray,s.size≤M∧cs=[.str s]:=by simp only[Shp,hu]at h;exact h
theorem Shp.slice {e:TypeId}(hu:P.underlying t=some (.slice e))(h:Shp M P (k+1) t cs):∃rows:List (List AV),rows.length≤M∧cs=[.lst (P.cellsOf e) (rows.map (mkRow (isRowE P e))) none]∧∀r∈rows,Shp M P k e r:=by simp only[Shp,hu]at h;exact h
theorem Shp.struct {fs:Array Field}(hu:P.underlying t=some (.struct fs))(h:Shp M P (k+1) t cs):∃parts:List (List AV),parts.length=fs.size∧cs=parts.flatten∧∀ (i:Nat) f p,fs[i]? =some f→parts[i]? =some p→Shp M P k f.type p:=by simp only[Shp,hu]at h;exact h
end
section
variable {M:Nat} {P:Program} {H:Type} {enc:TypeId×Value→H} {w:World} {base:Nat} {spare:Nat→Bool} {held:Bool} {φ:Nat→Loc}
structure Opn(M:Nat)(P:Program)(φ:Nat→Loc)(w:World)(k:Nat)(t:TypeId)(cs:List Value)(as:List AV):Prop where
 shp:Shp M P k t as
 len:as.length=cs.length
 cell:∀a∈as,Bel 0 a∧a.isCell=true
 one:∀v∈cs,v.oneCell'=true
 vr:∀ (i:Nat) a v,as[i]? =some a→cs[i]? =some v→VR (c0 φ w) a v
theorem Opn.one1 {k t v a}(hs:Shp M P k t [a])(hb:Bel 0 a)(hc:a.isCell=true)(ho:v.oneCell'=true)(hv:VR (c0 φ w) a v):Opn M P φ w k t [v] [a]:=
 ⟨hs,rfl,by simp[hb,hc],by simp[ho],fun i a' v' h1 h2=>by cases i<;>simp at h1 h2;subst h1 h2;exact hv⟩
theorem opn_parts {k:Nat}{w:World}:∀ (fs:List Field) (o m:Nat) (cs:List Value),laidB P fs o=some m→cs.length=m→o≤m→
  (∀ (i:Nat) f,fs[i]? =some f→∃as,Opn M P φ w k f.type ((cs.drop f.offset).take (P.cellsOf f.type)) as∧as.length=P.cellsOf f.type)→
  ∃parts:List (List AV),parts.length=fs.length∧(∀ (i:Nat) f p,fs[i]? =some f→parts[i]? =some p→Shp M P k f.type p)∧parts.flatten.length=m-o∧(∀a∈parts.flatten,Bel 0 a∧a.isCell=true)∧
   (∀v∈cs.drop o,v.oneCell'=true)∧∀ (i:Nat) a v,parts.flatten[i]? =some a→cs[o+i]? =some v→VR (c0 φ w) a v
 | [],o,m,cs,hl,hc,_,_=>by
  simp[laidB]at hl;subst hl
  exact⟨[],rfl,fun i f p h=>by simp at h,by simp,fun a h=>by simp at h,fun v h=>by simp[←hc]at h,fun i a v h=>by simp at h⟩
 |f::fs,o,m,cs,hl,hc,hom,h=>by
  simp only[laidB]at hl
  split at hl
  case isFalse=>cases hl
  rename_i ho
  obtain⟨as,ha,hal⟩:=h 0 f rfl
  have hle:o+P.cellsOf f.type≤m:=by
   have:=ha.len
   rw[hal,List.length_take,List.length_drop,ho]at this
   omega
  obtain⟨parts,p1,p2,p3,p4,p5,p6⟩:=opn_parts fs (o+P.cellsOf f.type) m cs hl hc hle fun i f' hf=>h (i+1) f' (by simpa using hf)
  refine⟨as::parts,by simp[p1],fun i f' p hf hp=> ?_, ?_, ?_, ?_, ?_⟩
  ·cases i with
   |zero=>simp at hf hp;subst hf hp;exact ha.shp
   |succ i=>exact p2 i f' p (by simpa using hf) (by simpa using hp)
  ·simp only[List.flatten_cons,List.length_append,p3,hal];omega
  ·intro a hm
   rw[List.flatten_cons,List.mem_append]at hm
   rcases hm with hm|hm
   ·exact ha.cell a hm
   ·exact p4 a hm
  ·intro v hv
   have e:cs.drop o=(cs.drop o).take (P.cellsOf f.type)++ (cs.drop o).drop (P.cellsOf f.type):=(List.take_append_drop _ _).symm
   rw[e,List.mem_append,List.drop_drop]at hv
   rcases hv with hv|hv
   ·exact ha.one v (by rw[ho];exact hv)
   ·exact p5 v hv
  ·intro i a v hi hv
   rw[List.flatten_cons]at hi
   by_cases hlt:i<as.length
   ·rw[List.getElem?_append_left hlt]at hi
    refine ha.vr i a v hi ?_
    rw[List.getElem?_take,if_pos (by omega),List.getElem?_drop,ho]
    exact hv
   ·rw[List.getElem?_append_right (by omega)]at hi
    refine p6 _ a v hi ?_
    rw[←hv];congr 1;omega
theorem opn_rows {k:Nat}{w:World}(e:TypeId)(n:Nat):∀ (m o:Nat) (cs:List Value),cs.length=o+m*n→
  (∀i:Nat,i<m→∃as,Opn M P φ w k e ((cs.drop (o+i*n)).take n) as∧as.length=n)→
  ∃parts:List (List AV),parts.length=m∧(∀p∈parts,Shp M P k e p)∧parts.flatten.length=m*n∧(∀a∈parts.flatten,Bel 0 a∧a.isCell=true)∧
   (∀v∈cs.drop o,v.oneCell'=true)∧∀ (i:Nat) a v,parts.flatten[i]? =some a→cs[o+i]? =some v→VR (c0 φ w) a v
 |0,o,cs,hc,_=>⟨[],rfl,fun p h=>by simp at h,by simp,fun a h=>by simp at h,fun v h=>by rw[List.drop_eq_nil_of_le (by omega)]at h;simp at h,fun i a v h=>by simp at h⟩
 |m+1,o,cs,hc,h=>by
  obtain⟨as,ha,hal⟩:=h 0 (by omega)
  simp only[Nat.zero_mul,Nat.add_zero]at ha
  obtain⟨parts,p1,p2,p3,p4,p5,p6⟩:=opn_rows e n m (o+n) cs (by rw[hc,Nat.succ_mul];omega) fun i hi=>by
   obtain⟨as',h1,h2⟩:=h (i+1) (by omega)
   exact⟨as',by rw[show o+n+i*n=o+ (i+1) *n by rw[Nat.succ_mul];omega];exact h1,h2⟩
  refine⟨as::parts,by simp[p1],fun p hp=> ?_, ?_, ?_, ?_, ?_⟩
  ·rcases List.mem_cons.1 hp with rfl|hp
   ·exact ha.shp
   ·exact p2 p hp
  ·simp only[List.flatten_cons,List.length_append,p3,hal,Nat.succ_mul];omega
  ·intro a hm
   rw[List.flatten_cons,List.mem_append]at hm
   rcases hm with hm|hm
   ·exact ha.cell a hm
   ·exact p4 a hm
  ·intro v hv
   have e:cs.drop o=(cs.drop o).take n++ (cs.drop o).drop n:=(List.take_append_drop _ _).symm
   rw[e,List.mem_append,List.drop_drop]at hv
   rcases hv with hv|hv
   ·exact ha.one v hv
   ·exact p5 v hv
  ·intro i a v hi hv
   rw[List.flatten_cons]at hi
   by_cases hlt:i<as.length
   ·rw[List.getElem?_append_left hlt]at hi
    refine ha.vr i a v hi ?_
    rw[List.getElem?_take,if_pos (by omega),List.getElem?_drop]
    exact hv
   ·rw[List.getElem?_append_right (by omega)]at hi
    refine p6 _ a v hi ?_
    rw[←hv];congr 1;omega
structure Bulk(B:DataW H→Nat):Prop where
 str:∀l,l.length≤B (.lit (.string l))
 len:∀a b,a.length≤B (.slice a b)
 row:∀a b,∀d∈a,B d≤B (.slice a b)
 agg:∀a,∀d∈a,B d≤B (.agg a)
theorem open_trod {B:DataW H→Nat}(hBB:Bulk B):∀ (fuel k:Nat) (t:TypeId) (cs:List Value) (x:DataW H×List MemPlace),B x.1≤M→tyOK P k t=true→DataW.trod enc P w base spare held fuel t cs=some x→∃as,Opn M P φ w k t cs as
 |0,_,_,_,_,_,_,h=>by simp[DataW.trod]at h
 |fuel+1,0,_,_,_,_,h,_=>by simp[tyOK]at h
 |fuel+1,k+1,t,cs,x,hM,hk,h=>by
  simp only[tyOK]at hk
  cases hu:P.underlying t with
  |none=>simp[hu]at hk
  |some d=>
   cases d with
   |bool=>
    obtain⟨b,rfl,_⟩:=DataW.trod_bool hu h
    exact⟨[.bool b], .one1 (by simp[Shp,hu]) (by simp) rfl rfl (.bool b)⟩
   |int kd=>
    obtain⟨n,rfl,_,hw⟩:=DataW.trod_int hu h
    exact⟨[.int kd n], .one1 (by simp[Shp,hu,hw]) (by simp) rfl rfl (.int kd n)⟩
   |string=>
    obtain⟨s,rfl,rfl,_⟩:=DataW.trod_string hu h
    have hs:s.size≤M:=Nat.le_trans (hBB.str s.data.toList) hM
    exact⟨[.str s], .one1 (by simp[Shp,hu,hs]) (by simp) rfl rfl (.str s)⟩
   |struct fs=>
    simp only[hu,Bool.and_eq_true,decide_eq_true_eq,List.all_eq_true]at hk
    obtain⟨xs,n,hn,rfl,hl,hxl,hf⟩:=DataW.trod_struct hu h
    cases hn
    obtain⟨parts,p1,p2,p3,p4,p5,p6⟩:=opn_parts (M:=M) (φ:=φ) (w:=w) (k:=k) fs.toList 0 _ cs hk.1 hl (Nat.zero_le _) fun i f hfi=>by
     have hfi':fs[i]? =some f:=by simpa using hfi
     have hi:=hf i f hfi'
     have hlt:i<xs.length:=by rw[hxl];exact(Array.getElem?_eq_some_iff.1 hfi').1
     rw[List.getElem?_eq_getElem hlt]at hi
     obtain⟨as,ha⟩:=open_trod hBB fuel k f.type _ _ (Nat.le_trans (hBB.agg _ _ (List.mem_map_of_mem (List.getElem_mem hlt))) hM) (hk.2 f (List.mem_of_getElem? hfi)) hi
     refine⟨as,ha, ?_⟩
     have key:∀ (fs:List Field) (o m:Nat),laidB P fs o=some m→∀ (i:Nat) f,fs[i]? =some f→f.offset+P.cellsOf f.type≤m:=by
      intro fs
      induction fs with
      |nil=>intro o m _ i f h;simp at h
      |cons g gs ih=>
       intro o m hm i f hf
       simp only[laidB]at hm
       split at hm
       ·rename_i ho
        have mono:∀ (fs:List Field) (o m:Nat),laidB P fs o=some m→o≤m:=by
         intro fs
         induction fs with
         |nil=>intro o m h;simp[laidB]at h;omega
         |cons g gs ih=>
          intro o m h
          simp only[laidB]at h
          split at h
          ·have:=ih _ _ h;omega
          ·cases h
        cases i with
        |zero=>simp at hf;subst hf;have:=mono _ _ _ hm;omega
        |succ i=>exact ih _ _ hm i f (by simpa using hf)
       ·cases hm
     have:=key _ _ _ hk.1 i f hfi
     rw[ha.len,List.length_take,List.length_drop]
     omega
    exact⟨parts.flatten,⟨by simp only[Shp,hu];exact⟨parts,by simpa using p1,rfl,fun i f p h1 h2=>p2 i f p (by simpa using h1) h2⟩,by rw[p3,hl];rfl,p4,by simpa using p5,fun i a v h1 h2=>p6 i a v h1 (by simpa using h2)⟩⟩
   |array n e=>
    simp only[hu,Bool.and_eq_true,decide_eq_true_eq]at hk
    obtain⟨xs,m,hn,rfl,hl,hxl,hf⟩:=DataW.trod_array hu h
    cases hn
    obtain⟨parts,p1,p2,p3,p4,p5,p6⟩:=opn_rows (M:=M) (P:=P) (φ:=φ) (w:=w) (k:=k) e (P.cellsOf e) n 0 cs (by rw[hl,←hk.1];omega) fun i hi=>by
     have h1:=hf i hi
     rw[List.getElem?_eq_getElem (by omega)]at h1
     obtain⟨as,ha⟩:=open_trod hBB fuel k e _ _ (Nat.le_trans (hBB.agg _ _ (List.mem_map_of_mem (List.getElem_mem (by omega)))) hM) hk.2 h1
     refine⟨as,by rw[Nat.zero_add];exact ha, ?_⟩
     rw[ha.len,List.length_take,List.length_drop,hl,←hk.1]
     have:i*P.cellsOf e+P.cellsOf e≤n*P.cellsOf e:=by rw[←Nat.succ_mul];exact Nat.mul_le_mul_right _ hi
     omega
    exact⟨parts.flatten,⟨by simp only[Shp,hu];exact⟨parts,p1,rfl,p2⟩,by rw[p3,hl,hk.1],p4,by simpa using p5,fun i a v h1 h2=>p6 i a v h1 (by simpa using h2)⟩⟩
   |slice e=>
    simp only[hu,Bool.and_eq_true,decide_eq_true_eq,Bool.or_eq_true,beq_iff_eq]at hk
    obtain⟨⟨hpos,hke⟩,hrow⟩:=hk
    rcases DataW.trod_slice hu h with⟨rfl,_⟩ | ⟨a,len,cap,elems,rest,n,hn,rfl,rfl,hb,hlc,hcm,hel,hget,_,_⟩
    ·refine⟨[.lst (P.cellsOf e) [] none], .one1 ?_ (by simp) rfl rfl (.lst0 _ _ none 0 (by simp) (by simp))⟩
     simp only[Shp,hu]
     exact⟨[],by simp,rfl,by simp⟩
    ·cases hn
     have hlenM:len≤M:=by
      have:=hBB.len (elems.map (·.1)) (rest.map (·.1))
      simp only[List.length_map]at this
      have hM2:B (DataW.slice (elems.map (·.1)) (rest.map (·.1)))≤M:=hM
      omega
     have each:∀i,i<len→∃cs' as,w.cells? base (a.add (i*P.cellsOf e)) (P.cellsOf e)=some cs'∧Opn M P φ w k e cs' as:=by
      intro i hi
      have h1:=hget i hi
      rw[List.getElem?_eq_getElem (by omega),Option.bind_eq_some_iff]at h1
      obtain⟨cs',h1,h2⟩:=h1
      obtain⟨as,ha⟩:=open_trod hBB fuel k e _ _ (Nat.le_trans (hBB.row _ _ _ (List.mem_map_of_mem (List.getElem_mem (by omega)))) hM) hke h2
      exact⟨cs',as,h1,ha⟩
     by_cases h0:len=0
     ·subst h0
      refine⟨[.lst (P.cellsOf e) [] none], .one1 ?_ (by simp) rfl rfl (.lst0 _ _ (some a) cap (by simp) (fun _=>⟨_,rfl⟩))⟩
      simp only[Shp,hu]
      exact⟨[],by simp,rfl,by simp⟩
     ·have hs:a.spot=none:=by
       obtain⟨cs',as,h1,_⟩:=each 0 (by omega)
       obtain⟨_,hlen,hce⟩:=World.cells?_some h1
       have q0:=hce 0 hpos
       rw[List.getElem?_eq_getElem (by omega)]at q0
       have:=World.cell?_spot q0
       simpa[Addr.add]using this
      obtain⟨b,off,spot⟩:=a
      simp only at hs
      subst hs
      have addn:∀n m,((Addr.mk b off none).add n).add m=⟨b,off+n+m,none⟩:=fun n m=>by rw[Addr.add_mid,Addr.add_mid]
      have hcell:∀i cs',w.cells? base ((Addr.mk b off none).add (i*P.cellsOf e)) (P.cellsOf e)=some cs'→cs'.length=P.cellsOf e∧∀j,j<P.cellsOf e→w.cell? ⟨b,off+i*P.cellsOf e+j,none⟩=cs'[j]? :=by
       intro i cs' h1
       obtain⟨_,hlen,hce⟩:=World.cells?_some h1
       exact⟨hlen,fun j hj=>by rw[←addn];exact hce j hj⟩
      have hblk:∃arr t' fr,w.heap[b]? =some (.cells arr t' fr):=by
       obtain⟨cs',as,h1,_⟩:=each 0 (by omega)
       obtain⟨hlen,hce⟩:=hcell 0 cs' h1
       have q0:=hce 0 hpos
       rw[List.getElem?_eq_getElem (by omega)]at q0
       unfold World.cell? at q0
       split at q0
       ·rename_i arr t' fr hh;exact⟨arr,t',fr,hh⟩
       ·cases q0
      obtain⟨arr,t',fr,hh⟩:=hblk
      have hce2:∀o,w.cell? ⟨b,o,none⟩=arr[o]? :=fun o=>by simp[World.cell?,hh]
      have each':∀i,i<len→∃as,Shp M P k e as∧as.length=P.cellsOf e∧(∀a∈as,Bel 0 a∧a.isCell=true)∧∀j,j<P.cellsOf e→∃v,arr[off+i*P.cellsOf e+j]? =some v∧v.oneCell'=true∧∀a,as[j]? =some a→VR (c0 φ w) a v:=by
       intro i hi
       obtain⟨cs',as,h1,ha⟩:=each i hi
       obtain⟨hlen,hce⟩:=hcell i cs' h1
       refine⟨as,ha.shp,by rw[ha.len,hlen],ha.cell,fun j hj=> ?_⟩
       have hj':j<cs'.length:=by omega
       have q:=hce j hj
       rw[hce2,List.getElem?_eq_getElem hj']at q
       exact⟨_,q,ha.one _ (List.getElem_mem _),fun a h=>ha.vr j a _ h (List.getElem?_eq_getElem hj')⟩
      obtain⟨V,hV⟩:=choose_lt' [] each'
      have hlen:((List.range len).map V).length=len:=by simp
      have hgetV:∀ (i:Nat) r,((List.range len).map V)[i]? =some r→i<len∧r=V i:=by
       intro i r hr
       have hi:i<len:=by have:=(List.getElem?_eq_some_iff.1 hr).1;simpa using this
       rw[List.getElem?_map,List.getElem?_range hi]at hr
       exact⟨hi,by simpa using hr.symm⟩
      have hrowc:∀i,i<len→(mkRow (isRowE P e) (V i)).cells=V i:=fun i hi=>mkRow_cells (hV i hi).2.1 (by rcases hrow with h|h;exact .inl h;exact .inr h) fun a ha=>((hV i hi).2.2.1 a ha).2
      have hgetR:∀ (i:Nat) r,(((List.range len).map V).map (mkRow (isRowE P e)))[i]? =some r→i<len∧r=mkRow (isRowE P e) (V i):=by
       intro i r hr
       rw[List.getElem?_map,Option.map_eq_some_iff]at hr
       obtain⟨q,hq,rfl⟩:=hr
       obtain⟨h1,rfl⟩:=hgetV i q hq
       exact⟨h1,rfl⟩
      have hbel:∀r∈((List.range len).map V).map (mkRow (isRowE P e)),Bel 0 r∧r.cells.length=P.cellsOf e:=by
       intro r hr
       obtain⟨i,hi,hre⟩:=List.getElem_of_mem hr
       obtain⟨h1,h2⟩:=hgetR i r (by rw[List.getElem?_eq_getElem hi,hre])
       rw[h2]
       refine⟨?_,by rw[hrowc i h1];exact(hV i h1).2.1⟩
       have hc:=(hV i h1).2.2.1
       have hl2:=(hV i h1).2.1
       generalize V i=q at hc hl2⊢
       cases isRowE P e
       ·cases q with
        |nil=>simp[mkRow]
        |cons z q=>exact(hc z (by simp)).1
       ·simp only[mkRow,bel_agg];exact fun a ha=>(hc a ha).1
      refine⟨[.lst (P.cellsOf e) (((List.range len).map V).map (mkRow (isRowE P e))) none], .one1 ?_ (by simp only[bel_lst];exact fun r hr=>(hbel r hr).1) rfl rfl ?_⟩
      ·simp only[Shp,hu]
       refine⟨_,by rw[hlen];omega,rfl,fun r hr=> ?_⟩
       obtain⟨i,hi,rfl⟩:=List.getElem_of_mem hr
       obtain⟨h1,h2⟩:=hgetV i _ (List.getElem?_eq_getElem hi)
       rw[h2];exact(hV i h1).1
      ·have hl3:(((List.range len).map V).map (mkRow (isRowE P e))).length=len:=by simp
       have hmul:∀i,i<len→i*P.cellsOf e+P.cellsOf e≤len*P.cellsOf e:=fun i hi=>by rw[←Nat.succ_mul];exact Nat.mul_le_mul_right _ hi
       have:=VR.lst (c:=c0 φ w) (P.cellsOf e) (((List.range len).map V).map (mkRow (isRowE P e))) none b off cap arr t' fr (fun h=>h0 (by rw[←hl3,h];rfl)) (by simp) (by rw[hl3];exact hlc) (c0_own φ w b) hh (fun j v hj hv=> ?_)
        (fun r hr=>(hbel r hr).1) (fun r hr=>(hbel r hr).2) ?_ (fun i j r x v hi hj hv=> ?_)
       ·rw[hl3]at this;exact this
       ·rw[hl3]at hj
        have hq:=div_lt hj
        have hm:j % P.cellsOf e<P.cellsOf e:=Nat.mod_lt _ hpos
        obtain⟨v',h1,h2,_⟩:=(hV _ hq).2.2.2 _ hm
        have e1:off+j/P.cellsOf e*P.cellsOf e+j % P.cellsOf e=off+j:=by rw[Nat.add_assoc,Nat.mul_comm,Nat.div_add_mod]
        rw[e1,hv]at h1
        cases h1;exact h2
       ·rw[hl3]
        obtain⟨v',h1,_⟩:=(hV (len-1) (by omega)).2.2.2 (P.cellsOf e-1) (by omega)
        have h2:=(Array.getElem?_eq_some_iff.1 h1).1
        have h3:(len-1) *P.cellsOf e+P.cellsOf e=len*P.cellsOf e:=by rw[←Nat.succ_mul];congr 1;omega
        omega
       ·obtain⟨h1,rfl⟩:=hgetR i r hi
        rw[hrowc i h1]at hj
        have hjl:j<P.cellsOf e:=by rw[← (hV i h1).2.1];exact(List.getElem?_eq_some_iff.1 hj).1
        obtain⟨v',k1,_,k3⟩:=(hV i h1).2.2.2 j hjl
        rw[hv]at k1
        cases k1
        exact k3 x hj
   |_=>simp[hu]at hk
theorem open_arg {B:DataW H→Nat}(hBB:Bulk B){r:Reach}{b0:Nat}{t:TypeId}{v:Value}{d:DataW H}{ps:List MemPlace}(k:Nat)(hk:tyOK P k t=true)(hval:Value.okWide P w r b0 t v)(h:DataW.Trod enc P w base spare held t v d ps)(hM:B d≤M):
  ∃as,Shp M P k t as∧(∀φ,VR (c0 φ w) (mkRow (isRowE P t) as) v)∧Bel 0 (mkRow (isRowE P t) as):=by
 obtain⟨fuel,hf⟩:=h
 obtain⟨as,ha⟩:=open_trod hBB (φ:=fun _=>⟨0,0,0⟩) fuel k t _ _ hM hk hf
 have hvr:∀φ,∀ (i:Nat) a u,as[i]? =some a→v.cells.toList[i]? =some u→VR (c0 φ w) a u:=fun φ i a u h1 h2=>VR.cut (c:=c0 (fun _=>⟨0,0,0⟩) w) (d:=c0 φ w) (n:=0) (fun _ h=>absurd h (Nat.not_lt_zero _)) (fun _ h=>absurd h (Nat.not_lt_zero _)) (fun b _=>c0_own φ w b) rfl (ha.vr i a u h1 h2) (ha.cell a (List.mem_of_getElem? h1)).1
 refine⟨as,ha.shp, ?_, ?_⟩
 ·intro φ
  cases hu:isRowE P t
  ·have hc1:v.cells= #[v]:=by
    cases v<;>first|rfl|skip
    all_goals
     simp only[isRowE]at hu
     simp only[Value.okWide]at hval
     split at hu
     ·cases hu
     ·cases hu
     ·rename_i h1 h2
      revert hval
      split
      ·rename_i h3;exact absurd h3 (h1 _)
      ·rename_i h3;exact absurd h3 (h2 _ _)
      ·intro hval
       unfold Cell.okWide at hval
       revert hval
       split<;>simp_all[Cell.ok]
   obtain⟨a,ha1⟩:∃a,as=[a]:=List.length_eq_one_iff.1 (by rw[ha.len,hc1];rfl)
   subst ha1
   exact hvr φ 0 a v rfl (by rw[hc1];rfl)
  ·simp only[Value.okWide]at hval
   have hagg:∃cs,v= .agg cs:=by
    simp only[isRowE]at hu
    split at hu
    ·rename_i h3;rw[h3]at hval;obtain⟨cs,h,_⟩:=hval;exact⟨cs,h⟩
    ·rename_i h3;rw[h3]at hval;obtain⟨cs,h,_⟩:=hval;exact⟨cs,h⟩
    ·cases hu
   obtain⟨cs,rfl⟩:=hagg
   refine .agg _ _ (by simpa[Value.cells]using ha.len) fun i a x h1 h2=>hvr φ i a x h1 (by simpa[Value.cells]using h2)
 ·cases isRowE P t
  ·simp only[mkRow]
   cases as with
   |nil=>simp
   |cons a l=>exact(ha.cell a (by simp)).1
  ·simp only[mkRow,bel_agg];exact fun a h=>(ha.cell a h).1
end
end Go.Am.Bd
end
