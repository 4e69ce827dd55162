/- Part of the proof: plain data, the machine and its soundness. No conditions. -/
import Derived.Laws.BytesString
import Derived.Laws.MakeOwn
import Derived.Lib.ConvBytes
import Derived.Test.YtejbmdnhchoilaaGreatM05
set_option linter.unusedVariables false
set_option linter.unusedSimpArgs false
set_option maxRecDepth 100000
section
namespace Go.Am
open Go
section
variable {P:Program}
theorem extract_sound {c:Cx}{x r:AV}{u:Value}{i:Nat}(hx:VR c x u)(h:aExtract x i=some r)(w:World):∃v,(Instr.extract u i).run P w= .ok v w∧VR c r v:=by
 cases x<;>simp only[aExtract]at h<;>try cases h
 cases hx
 rename_i vs xs hl hx
 have hlt:=(List.getElem?_eq_some_iff.1 h).1
 have hlt':i<xs.size:=by omega
 exact⟨xs[i],by simp[Instr.extract,hlt'],hx i r _ h (by simp)⟩
theorem max_sound {c:Cx}{x y r:AV}{u v:Value}(hx:VR c x u)(hy:VR c y v)(h:aMax x y=some r)(ts:Array TypeId)(ty:TypeId)(w:World):∃z,(Builtin.max_ ts ty #[u,v]).run P w= .ok z w∧VR c r z:=by
 cases x<;>cases y<;>simp only[aMax]at h<;>cases h
 cases hx;cases hy
 exact⟨_,by simp[Builtin.max_,Builtin.max2], .int _ _⟩
theorem min_sound {c:Cx}{x y r:AV}{u v:Value}(hx:VR c x u)(hy:VR c y v)(h:aMin x y=some r)(ts:Array TypeId)(ty:TypeId)(w:World):∃z,(Builtin.min_ ts ty #[u,v]).run P w= .ok z w∧VR c r z:=by
 cases x<;>cases y<;>simp only[aMin]at h<;>cases h
 cases hx;cases hy
 exact⟨_,by simp[Builtin.min_,Builtin.min2], .int _ _⟩
theorem conv_sound {c:Cx}{k:IntKind}{x r:AV}{u:Value}(hx:VR c x u)(h:aConvI k x=some r){t t':TypeId}{k':IntKind}(ht:P.underlying t=some (.int k'))(ht':P.underlying t'=some (.int k))(w:World):
  ∃z,(convert t t' u).run P w= .ok z w∧VR c r z:=by
 cases x<;>simp only[aConvI]at h<;>cases h
 cases hx
 exact⟨_,by simp[convert,run_underlying ht,run_underlying ht',Conv.intToInt], .int _ _⟩
theorem pick_sound {c:Cx}{p q r z:AV}{o:Oper}{X Y C:Operand}(ho:o.op= .pick C X Y){ρ:Operand→Value}(hc:VR c p (ρ C))(hx:VR c q (ρ X))(hy:VR c r (ρ Y))(h:aPick p q r=some z)(w:World):∃u,(execOp ρ o).run P w= .ok (.value u) w∧VR c z u:=by
 cases p<;>simp only[aPick]at h<;>cases h
 generalize hu:ρ C=u at hc
 cases hc
 rename_i b
 cases b
 ·exact⟨ρ Y,by simp[execOp,ho,hu,asBool],hy⟩
 ·exact⟨ρ X,by simp[execOp,ho,hu,asBool],hx⟩
theorem nilck_sound {c:Cx}{x r:AV}{o:Oper}{X:Operand}(ho:o.op= .nilCheck X){ρ:Operand→Value}(hx:VR c x (ρ X))(h:aNilck x=some r)(w:World):∃z,(execOp ρ o).run P w= .ok (.value z) w∧VR c r z:=by
 cases x<;>simp only[aNilck]at h<;>cases h
 ·generalize hu:ρ X=u at hx
  cases hx
  rename_i id i k hid hC
  exact⟨_,by simp[execOp,ho,hu], .ptr _ _ _ hid hC⟩
 ·generalize hu:ρ X=u at hx
  cases hx
  rename_i row k b o' arr t fr hno hb h1 hcl hs hr
  exact⟨_,by simp[execOp,ho,hu], .eptr _ _ _ _ _ _ _ hno hb h1 hcl hs hr⟩
theorem fillR_cells {sz:Nat}:∀ {parts:List (Nat×AV)} {rows r:List AV},fillR sz rows parts=some r→(∀x∈rows,x.cells.length=sz∧x.cells.all AV.isCell=true)→r.length=rows.length∧(∀x∈r,x.cells.length=sz∧x.cells.all AV.isCell=true)
 | [],rows,r,h,hr=>by simp only[fillR]at h;cases h;exact⟨rfl,hr⟩
 | (i,v)::rest,rows,r,h,hr=>by
  simp only[fillR]at h
  split at h
  ·rename_i hc
   obtain⟨h1,h2⟩:=fillR_cells h (fun x hx=>by
    rcases List.mem_or_eq_of_mem_set hx with hx|rfl
    ·exact hr x hx
    ·exact⟨hc.1,hc.2.2⟩)
   exact⟨by simpa using h1,h2⟩
  ·cases h
theorem cellsR_set {c:Cx}{sz:Nat}{rows:List AV}{z:List Value}(h:CellsR c (rows.flatMap AV.cells) z)(hsz:∀r∈rows,r.cells.length=sz){i:Nat}(hi:i<rows.length){x:AV}{v:Value}(hx:x.cells.length=sz)(hv:CellsR c x.cells v.cells.toList):
  CellsR c ((rows.set i x).flatMap AV.cells) (z.take (i*sz)++v.cells.toList++z.drop (i*sz+v.cells.toList.length)):=by
 have e:(rows.set i x).flatMap AV.cells=(rows.flatMap AV.cells).take (i*sz)++x.cells++ (rows.flatMap AV.cells).drop (i*sz+x.cells.length):=by
  apply List.ext_getElem?
  intro q
  have hsz':∀r∈rows.set i x,r.cells.length=sz:=fun r hr=>by
   rcases List.mem_or_eq_of_mem_set hr with hr|rfl
   ·exact hsz r hr
   ·exact hx
  have hL:(rows.flatMap AV.cells).length=rows.length*sz:=flat_len hsz
  have hL':((rows.set i x).flatMap AV.cells).length=rows.length*sz:=by rw[flat_len hsz',List.length_set]
  have hbound:i*sz+sz≤rows.length*sz:=by rw[←Nat.succ_mul];exact Nat.mul_le_mul_right _ hi
  by_cases hq:q<rows.length*sz
  ·have hq':=div_lt hq
   have h0:0<sz:=by rcases Nat.eq_zero_or_pos sz with h|h<;>first| (simp[h]at hq;done) |exact h
   have hmod:q % sz<sz:=Nat.mod_lt _ h0
   have hqe:q=q/sz*sz+q % sz:=by rw[Nat.mul_comm];exact(Nat.div_add_mod q sz).symm
   have hr1:(rows.set i x)[q/sz]? =some ((rows.set i x)[q/sz]'(by simpa using hq')):=List.getElem?_eq_getElem _
   have l1:((rows.set i x).flatMap AV.cells)[q]? =((rows.set i x)[q/sz]'(by simpa using hq')).cells[q % sz]? :=by
    conv=>lhs;rw[hqe]
    exact flat_get hsz' _ _ _ hr1 hmod
   have hr2:rows[q/sz]? =some rows[q/sz]:=by simp
   have l2:(rows.flatMap AV.cells)[q]? =rows[q/sz].cells[q % sz]? :=by
    conv=>lhs;rw[hqe]
    exact flat_get hsz _ _ _ hr2 hmod
   rw[l1]
   simp only[List.getElem?_append,List.length_append,List.length_take,List.getElem?_take,List.getElem?_drop,hL,hx]
   have hmin:min (i*sz) (rows.length*sz)=i*sz:=by omega
   rw[hmin]
   rcases Nat.lt_trichotomy (q/sz) i with hlt|heq|hgt
   ·have:q<i*sz:=by rw[hqe];exact idx_lt hlt hmod
    rw[if_pos (by omega),if_pos this,if_pos this,l2,List.getElem_set_ne (by omega)]
   ·have h1:¬q<i*sz:=by rw[hqe,heq];omega
    have h2:q<i*sz+sz:=by rw[hqe,heq];omega
    rw[if_pos h2,if_neg h1]
    subst heq
    simp only[List.getElem_set_self]
    congr 1
    omega
   ·have:i*sz+sz≤q/sz*sz:=by rw[←Nat.succ_mul];exact Nat.mul_le_mul_right _ hgt
    rw[if_neg (by omega),List.getElem_set_ne (by omega),←l2]
    congr 1;omega
  ·rw[List.getElem?_eq_none (by omega),List.getElem?_eq_none (by simp only[List.length_append,List.length_take,List.length_drop,hL,hx];omega)]
 rw[e]
 have hbound:i*sz+sz≤(rows.flatMap AV.cells).length:=by rw[flat_len hsz,←Nat.succ_mul];exact Nat.mul_le_mul_right _ hi
 exact h.splice hv (i*sz) (by omega)
theorem fillR_sound {c:Cx}{sz:Nat}:∀ (l:List (Nat×AV)) (ps:List (Nat×Value)) (rows:List AV) (z:Array Value) {r:List AV},l.length=ps.length→(∀ (i:Nat) p q,l[i]? =some p→ps[i]? =some q→p.1=q.1∧VR c p.2 q.2)→
  (∀x∈rows,x.cells.length=sz∧x.cells.all AV.isCell=true)→CellsR c (rows.flatMap AV.cells) z.toList→fillR sz rows l=some r→∃z',Instr.fill (fun i=>some (i*sz,sz)) z ps=some z'∧CellsR c (r.flatMap AV.cells) z'.toList
 | [],[],rows,z,r,_,_,_,hz,h=>by simp only[fillR]at h;cases h;exact⟨z,rfl,hz⟩
 | [],_::_,_,_,_,h,_,_,_,_=>by simp at h
 |_::_,[],_,_,_,h,_,_,_,_=>by simp at h
 | (i,x)::l,(i',v)::ps,rows,z,r,hlen,hp,hrows,hz,h=>by
  obtain⟨e1,hv⟩:=hp 0 _ _ rfl rfl
  simp only at e1 hv
  subst e1
  simp only[fillR]at h
  split at h
  ·rename_i hc
   obtain⟨c1,c2,c3⟩:=hc
   have hne:=cells_ne_undef c3
   obtain⟨v1,v2⟩:=hv.cells hne
   have hbs:CellsR c x.cells v.cells.toList:=⟨by simpa using v1,fun i a x ha hx=>v2 i a x ha (by simpa using hx)⟩
   have hsz:∀r∈rows,r.cells.length=sz:=fun r hr=>(hrows r hr).1
   have hset:=cellsR_set hz hsz c2 c1 hbs
   have hzl:z.size=rows.length*sz:=by have:=hz.1;rw[flat_len hsz]at this;simpa using this.symm
   have hb:i*sz+sz≤rows.length*sz:=by rw[←Nat.succ_mul];exact Nat.mul_le_mul_right _ c2
   obtain⟨z',h1,h2⟩:=fillR_sound l ps (rows.set i x) (v.cells.zipIdx.foldl (fun cs (c,j)=>cs.setIfInBounds (i*sz+j) c) z) (by simpa using hlen) (fun j p q a b=>hp (j+1) p q a b)
    (fun y hy=>by
     rcases List.mem_or_eq_of_mem_set hy with hy|rfl
     ·exact hrows y hy
     ·exact⟨c1,c3⟩) (r:=r) (by
     rw[←Array.foldl_toList,Array.toList_zipIdx]
     have:=foldl_set v.cells.toList (i*sz) 0 z
     simp only[Nat.add_zero]at this
     rw[show(fun(cs:Array Value) (x:Value×Nat)=>match x with| (c,j)=>cs.setIfInBounds (i*sz+j) c)=(fun cs p=>cs.setIfInBounds (i*sz+p.2) p.1)from rfl,this,foldl_setIdx _ _ _ (by simp;omega)]
     exact hset) h
   refine⟨z', ?_,h2⟩
   simp only[Instr.fill]
   rw[if_neg]
   ·exact h1
   ·simp;omega
  ·cases h
theorem zero_rows {c:Cx}{z:Array Value}{zs:List AV}(hz:CellsR c zs z.toList)(n:Nat)(h0:0<z.size):CellsR c ((List.replicate n (AV.agg zs)).flatMap AV.cells) ((Array.range (n*z.size)).map (z[· % z.size]!)).toList:=by
 have hsz:∀r∈List.replicate n (AV.agg zs),r.cells.length=z.size:=fun r hr=>by
  rw[List.eq_of_mem_replicate hr];simpa[AV.cells]using hz.1
 refine⟨by rw[flat_len hsz];simp,fun q a x ha hx=> ?_⟩
 have hq:q<n*z.size:=by have:=(List.getElem?_eq_some_iff.1 ha).1;rw[flat_len hsz]at this;simpa using this
 have hmod:q % z.size<z.size:=Nat.mod_lt _ h0
 have hqe:q=q/z.size*z.size+q % z.size:=by rw[Nat.mul_comm];exact(Nat.div_add_mod q z.size).symm
 have hr:(List.replicate n (AV.agg zs))[q/z.size]? =some (AV.agg zs):=by rw[List.getElem?_replicate,if_pos (div_lt hq)]
 rw[hqe,flat_get hsz _ _ _ hr hmod]at ha
 simp[hq]at hx
 subst hx
 exact hz.2 (q % z.size) a _ ha (by rw[getElem!_pos z _ hmod];simp[hmod])
theorem first_take {Z φ H w}(hR:Rel Z φ H w){y:AV}{v:Value}(hv:VR (cx Z φ H w) y v){sz:Nat}{rows:List AV}(h:view sz H y=some rows)(hcells:∀r∈rows,r.cells.length=sz)(h0:0<sz)(n:Nat)(hn:n≤rows.length):
  ∃vs,CellsR (cx Z φ H w) ((rows.take n).flatMap AV.cells) vs∧(∀u∈vs,u.oneCell'=true)∧(Builtin.firstCells sz n v).run P w= .ok vs.toArray w∧Builtin.lenOf v=(pure rows.length:Sem Nat):=by
 obtain⟨a,m,cap,rfl,rfl,hcap,vs,h1,h2,h3⟩:=view_soundL hR.obj hv h hcells h0
 have hlen:vs.length=rows.length*sz:=by rw[←h1.1,flat_len hcells]
 have hle:n*sz≤rows.length*sz:=Nat.mul_le_mul_right _ hn
 have htk:(rows.take n).flatMap AV.cells=(rows.flatMap AV.cells).take (n*sz):=by
  have e:rows.flatMap AV.cells=(rows.take n).flatMap AV.cells++ (rows.drop n).flatMap AV.cells:=by rw[←List.flatMap_append,List.take_append_drop]
  have hl:((rows.take n).flatMap AV.cells).length=n*sz:=by rw[flat_len (fun r hr=>hcells r (List.mem_of_mem_take hr)),List.length_take];congr 1;omega
  rw[e]
  exact(List.take_left' hl).symm
 refine⟨vs.take (n*sz),⟨by rw[htk];simp[h1.1],fun i a x ha hx=> ?_⟩,fun u hu=>h2 u (List.mem_of_mem_take hu), ?_,rfl⟩
 ·rw[htk,List.getElem?_take]at ha
  rw[List.getElem?_take]at hx
  split at ha
  ·rename_i hlt
   rw[if_pos hlt]at hx
   exact h1.2 i a x ha hx
  ·cases ha
 ·by_cases hr:rows=[]
  ·subst hr
   obtain rfl:vs=[]:=by simpa using hlen
   simp only[List.length_nil]at hn
   obtain rfl:n=0:=by omega
   cases a with
   |none=>simpa using run_firstCells_none (P:=P) w sz 0 0 cap
   |some a=>simpa using run_firstCells_some (P:=P) w sz 0 a 0 cap [] (by simp) (fun j v h=>by simp at h)
  ·obtain⟨b,o,rfl,hrange⟩:=h3 hr
   exact run_firstCells_some w sz n _ _ cap _ (by simp;omega) (fun j v hv=>by
    rw[Addr.add_mid]
    rw[List.getElem?_take]at hv
    split at hv
    ·exact hrange j v hv
    ·cases hv)
theorem run_storeCells_there {w:World}{b o:Nat}{vs:List Value}(h:w.there b o vs.length)(h1:∀u∈vs,u.oneCell'=true):(storeCells ⟨b,o,none⟩ vs).run P w= .ok () (w.setCells b o vs):=by
 have:=run_storeCells_cells (P:=P) b o vs 0 w (fun j hj=>by rw[Nat.add_zero];exact(h j hj).1) (fun j hj=>by rw[Nat.add_zero];exact(h j hj).2) h1
 rwa [Nat.add_zero]at this
theorem slc_written {Z φ H w} (hR:Rel Z φ H w) {id o n:Nat} {cp:Option Nat} {u:Value} (hx:VR (cx Z φ H w) (.slc id o n cp) u) {t sz rs} (hl:H[id]? =some (some (.rows t sz rs))) (hon:o+n≤rs.length) {new:List AV} {vs:List Value} (hn:CellsR (cx Z φ H w) (new.flatMap AV.cells) vs)
  (hsz:∀r∈new,r.cells.length=sz) (h1:∀u∈vs,u.oneCell'=true) (hnn:new.length≤n):
  ∃a cap w',u= .slice a n cap∧(match a with|some a=>storeCells a vs|none=>pure ()).run P w= .ok () w'∧Step Z φ H w φ (H.set id (some (.rows t sz (rs.take o++new++rs.drop (o+new.length))))) w':=by
 cases hx with
 |slc _ _ _ _ a cap hid hcp hf hiC hm ha=>
 rw[show(cx Z φ H w).φ=φ from rfl]at hf hiC ha
 have q1:(φ id).sz=sz:=(hR.obj id _ hl).1
 by_cases hn0:cap=0
 ·have:new.length=0:=by omega
  obtain rfl:new=[]:=List.length_eq_zero_iff.1 this
  obtain rfl:vs=[]:=by have:=hn.1;simpa using this.symm
  refine⟨a,cap,w,rfl,by cases a<;>rfl, ?_⟩
  have hself:H.set id (some (.rows t sz (rs.take o++ []++rs.drop (o+ ([]:List AV).length))))=H:=by
   simp only[List.append_nil,List.length_nil,Nat.add_zero,List.take_append_drop]
   exact List.ext_getElem? fun j=>by
    by_cases hj:j=id
    ·subst hj;rw[List.getElem?_set_self (live_lt hl),hl]
    ·rw[List.getElem?_set_ne (Ne.symm hj)]
  rw[hself]
  exact Step.refl hR
 ·obtain rfl:=ha hn0
  obtain⟨s1,s2⟩:=rows_written hR hl (by omega) hn hsz h1 (p:=o) (by omega) (by omega)
  refine⟨_,cap,_,rfl, ?_,s1⟩
  rw[q1]
  exact run_storeCells_there s2 h1
theorem copy_sound {Z φ H w} (hR:Rel Z φ H w) {x y r:AV} {u v:Value} {H':AHeap} (hx:VR (cx Z φ H w) x u) (hy:VR (cx Z φ H w) y v) {t t' ty e:TypeId} {s:Nat} (ht:P.underlying t=some (.slice e)) (hs:szT P e=some s) (h0:0<s)
  (h:aCopy s x y H=some (r,H')):∃v' w',(Builtin.copy_ #[t,t'] ty #[u,v]).run P w= .ok v' w'∧Step Z φ H w φ H' w'∧VR (cx Z φ H' w') r v':=by
 unfold aCopy at h
 simp only[Option.bind_eq_some_iff]at h
 obtain⟨src,hsrc,h⟩:=h
 split at h
 case isFalse=>cases h
 rename_i hok
 split at h
 case h_1=>
  cases h
  cases hx
  obtain⟨vs,h1,h2,h3,h4⟩:=first_take (P:=P) hR hy hsrc hok h0 0 (Nat.zero_le _)
  refine⟨.int .i64 0,w, ?_,Step.refl hR, .int _ _⟩
  simp only[Builtin.copy_,List.getElem?_toArray,List.getElem?_cons_zero,List.getElem?_cons_succ,Sem.run_bind,run_underlying ht,Result.andThen_ok,h4,Sem.run_pure,Nat.min_zero,run_sizeOf hs,h3]
  rfl
 case h_2 id i n cp=>
  split at h
  case h_1 t0 sz rs hl=>
   split at h
   ·rename_i hc
    obtain⟨rfl,hin⟩:=hc
    cases h
    obtain⟨vs,h1,h2,h3,h4⟩:=first_take (P:=P) hR hy hsrc hok h0 (min src.length n) (Nat.min_le_left _ _)
    have htk:src.take (min src.length n)=src.take n:=by
     rcases Nat.le_total src.length n with h|h
     ·rw[Nat.min_eq_left h,List.take_of_length_le (Nat.le_refl _),List.take_of_length_le h]
     ·rw[Nat.min_eq_right h]
    rw[htk]at h1
    have hlt:(src.take n).length=min src.length n:=by rw[List.length_take];omega
    obtain⟨a,cap,w',rfl,hst,hstep⟩:=slc_written (P:=P) hR hx hl hin h1 (fun r hr=>hok r (List.mem_of_mem_take hr)) h2 (by omega)
    rw[hlt]at hstep
    refine⟨.int .i64 (min src.length n:Nat),w', ?_,hstep, .int _ _⟩
    simp only[Builtin.copy_,List.getElem?_toArray,List.getElem?_cons_zero,List.getElem?_cons_succ,Sem.run_bind,run_underlying ht,Result.andThen_ok,h4,Sem.run_pure,run_sizeOf hs,h3]
    cases a with
    |none=>simp only[Sem.run_pure,Result.ok.injEq,true_and]at hst;subst hst;rfl
    |some a=>simp only at hst;rw[Sem.run_bind,hst];rfl
   ·cases h
  case h_2=>cases h
 case h_3=>cases h
theorem clear_sound {Z φ H w} (hR:Rel Z φ H w) {x:AV} {u:Value} {H':AHeap} (hx:VR (cx Z φ H w) x u) {t ty e:TypeId} {s:Nat} {zs:List AV} (ht:P.underlying t=some (.slice e)) (hs:szT P e=some s) (hz:zeroT P e=some zs) (hzl:zs.length=s) (h0:0<s)
  {zero:AV} (hz0:zero.cells=zs) (h:aClear zero x H=some H'):∃w',(Builtin.clear_ #[t] ty #[u]).run P w= .ok (.tuple #[]) w'∧Step Z φ H w φ H' w':=by
 unfold aClear at h
 split at h
 case h_1=>
  cases h
  cases hx
  exact⟨w,by simp[Builtin.clear_,run_underlying ht],Step.refl hR⟩
 case h_2 id i n cp=>
  split at h
  case h_1 t0 sz rs hl=>
   split at h
   ·rename_i hc
    obtain⟨hin,hzz⟩:=hc
    cases h
    obtain⟨i',z,hi',hzv,hm⟩:=zero_of hz
    have hzr:CellsR (cx Z φ H w) zs z.cells.toList:=by
     obtain⟨c1,c2⟩:=cv1_cells (c:=cx Z φ H w) hm
     exact⟨c1,c2⟩
    have hzs:z.cells.size=s:=by have:=hzr.1;simp at this;omega
    have hcells:=zero_rows hzr n (by omega)
    have hrep:(List.replicate n (AV.agg zs)).flatMap AV.cells=(List.replicate n zero).flatMap AV.cells:=by
     rw[List.flatMap_replicate,List.flatMap_replicate,hz0];rfl
    rw[hrep]at hcells
    have hone:∀u∈(Builtin.zeroCells z.cells n).toList,u.oneCell'=true:=zeroCells_one hm n
    have hzsz:sz=s:=by rw[←hzl,←hz0];exact hzz.symm
    obtain⟨a,cap,w',rfl,hst,hstep⟩:=slc_written (P:=P) hR hx hl hin (new:=List.replicate n zero) (vs:=(Builtin.zeroCells z.cells n).toList) hcells (fun r hr=>by rw[List.eq_of_mem_replicate hr];exact hzz) hone (by simp)
    rw[List.length_replicate]at hstep
    refine⟨w', ?_,hstep⟩
    cases a with
    |none=>
     simp only[Sem.run_pure,Result.ok.injEq,true_and]at hst;subst hst
     simp[Builtin.clear_,run_underlying ht]
    |some a=>
     simp only at hst
     cases n with
     |zero=>
      have:(Builtin.zeroCells z.cells 0).toList=[]:=by simp[Builtin.zeroCells]
      rw[this]at hst
      simp only[storeCells,Sem.run_pure,Result.ok.injEq,true_and]at hst;subst hst
      simp[Builtin.clear_,run_underlying ht]
     |succ n=>
      simp only[Builtin.clear_,List.getElem?_toArray,List.getElem?_cons_zero,Sem.run_bind,run_underlying ht,Result.andThen_ok,run_zeroValue hi' hzv,hst,Sem.run_pure]
   ·cases h
  case h_2=>cases h
 case h_3=>cases h
theorem ev_partsR {c:Cx}{st:List AV}{a:Act}(hst:TR c st a.tmps):∀ {ps:List (Nat×Operand)} {l:List (Nat×AX)},partsR ps=some l→
  (l.map fun(i,x)=>(i,x.ev st)).length=(ps.map fun(i,x)=>(i,a.eval x)).length∧∀ (i:Nat) p q,(l.map fun(i,x)=>(i,x.ev st))[i]? =some p→(ps.map fun(i,x)=>(i,a.eval x))[i]? =some q→p.1=q.1∧VR c p.2 q.2
 | [],l,h=>by simp[partsR]at h;subst h;exact⟨rfl,fun i p q h=>by simp at h⟩
 | (f,x)::ps,l,h=>by
  simp only[partsR,Option.bind_eq_some_iff,Option.map_eq_some_iff]at h
  obtain⟨y,hy,l',hl',rfl⟩:=h
  obtain⟨h1,h2⟩:=ev_partsR hst hl'
  refine⟨by simpa using h1,fun i p q hp hq=> ?_⟩
  cases i with
  |zero=>simp at hp hq;subst hp hq;exact⟨rfl,ax_VR hst hy⟩
  |succ i=>exact h2 i p q (by simpa using hp) (by simpa using hq)
theorem bslice_run {c:Cx} {H:AHeap} {st:List AV} {a:Act} (hst:TR c st a.tmps) {t e:TypeId} {s len:Nat} {zs:List AV} {parts:Array (Nat×Operand)} {l:List (Nat×AX)} (ht:P.underlying t=some (.slice e)) (hs:szT P e=some s) (hz:zeroT P e=some zs)
  (hzl:zs.length=s) (h0:0<s) (hlen:len*s≤16777216) (hl:partsR parts.toList=some l) {r:AV} {H':AHeap} (h:aBslice e s len zs (l.map fun(i,x)=>(i,x.ev st)) H=some (r,H')) (w:World):∃rows z',aFresh e s rows H=(r,H')∧rows.length=len∧(∀r∈rows,r.cells.length=s)∧CellsR c (rows.flatMap AV.cells) z'.toList∧(∀u∈z'.toList,u.oneCell'=true)∧
   (Instr.buildSlice t len (parts.map fun(i,x)=>(i,a.eval x))).run P w= .ok (.slice (some ⟨w.heap.size,0,none⟩) len len) (w.alloc (.cells z' e)):=by
 unfold aBslice at h
 simp only[Option.map_eq_some_iff]at h
 obtain⟨rows,hrows,h⟩:=h
 obtain⟨i,z,hi,hv,hm⟩:=zero_of hz
 have hzr:CellsR (c) zs z.cells.toList:=by
  obtain⟨c1,c2⟩:=cv1_cells (c:=c) hm
  exact⟨c1,c2⟩
 have hzc:=zero_cells hm
 have hzs:z.cells.size=s:=by have:=hzr.1;simp at this;omega
 obtain⟨p1,p2⟩:=ev_partsR hst hl
 have hrep:∀x∈List.replicate len (AV.agg zs),x.cells.length=s∧x.cells.all AV.isCell=true:=fun x hx=>by
  rw[List.eq_of_mem_replicate hx];exact⟨hzl,hzc⟩
 obtain⟨hrl,hrc⟩:=fillR_cells hrows hrep
 have hzrows:=zero_rows hzr len (by omega)
 rw[hzs]at hzrows
 obtain⟨z',f1,f2⟩:=fillR_sound _ ((parts.map fun(i,x)=>(i,a.eval x)).toList) _ ((Array.range (len*s)).map (z.cells[· % s]!)) (by simpa using p1) (fun i p q hp hq=>p2 i p q hp (by simpa using hq)) hrep hzrows hrows
 have hrlen:rows.length=len:=by simpa using hrl
 have hone:∀u∈z'.toList,u.oneCell'=true:=fun u hu=>by
  obtain⟨j,hj,rfl⟩:=List.getElem_of_mem hu
  have hj':j<(rows.flatMap AV.cells).length:=by rw[f2.1];exact hj
  have hx:=f2.2 j (rows.flatMap AV.cells)[j] z'.toList[j] (by simp[hj']) (by simp at hj ⊢)
  refine hx.oneCell ?_
  obtain⟨r,hr,hxr⟩:=List.mem_flatMap.1 (List.getElem_mem hj')
  exact List.all_eq_true.1 (hrc r hr).2 _ hxr
 have hrun:(Instr.buildSlice t len (parts.map fun(i,x)=>(i,a.eval x))).run P w= .ok (.slice (some ⟨w.heap.size,0,none⟩) len len) (w.alloc (.cells z' e)):=by
  simp only[Instr.buildSlice,Sem.run_bind,run_underlying ht,Result.andThen_ok,run_sizeOf hs]
  rw[if_neg (by omega)]
  by_cases hl0:len*s=0
  ·have hlen0:len=0:=by rcases Nat.mul_eq_zero.1 hl0 with h|h<;>omega
   subst hlen0
   simp only[Nat.zero_mul,if_true,Sem.run_pure,Result.andThen_ok]at f1⊢
   have e1:(Array.range 0).map (fun x=>z.cells[x % s]!)=(Array.range 0).map (fun x=>(#[]:Array Value)[x % (#[]:Array Value).size]!):=by simp
   rw[e1]at f1
   rw[Sem.run_bind,Sem.run_pure,Result.andThen_ok]
   simp only[f1]
   simp[newRow]
  ·simp only[hl0,if_false,Sem.run_bind,run_zeroValue hi hv,Result.andThen_ok,Sem.run_pure,hzs]
   simp only[f1]
   simp[newRow]
 exact⟨rows,z',h,hrlen,fun r hr=>(hrc r hr).1,f2,hone,hrun⟩
theorem bslice_sound {Z φ H w} (hR:Rel Z φ H w) {st:List AV} {a:Act} (hst:TR (cx Z φ H w) st a.tmps) {t e:TypeId} {s len:Nat} {zs:List AV} {parts:Array (Nat×Operand)} {l:List (Nat×AX)} (ht:P.underlying t=some (.slice e)) (hs:szT P e=some s) (hz:zeroT P e=some zs)
  (hzl:zs.length=s) (h0:0<s) (hlen:len*s≤16777216) (hl:partsR parts.toList=some l) {r:AV} {H':AHeap} (h:aBslice e s len zs (l.map fun(i,x)=>(i,x.ev st)) H=some (r,H')):
  ∃v φ' w',(Instr.buildSlice t len (parts.map fun(i,x)=>(i,a.eval x))).run P w= .ok v w'∧Step Z φ H w φ' H' w'∧VR (cx Z φ' H' w') r v:=by
 unfold aBslice at h
 simp only[Option.map_eq_some_iff]at h
 obtain⟨rows,hrows,h⟩:=h
 obtain⟨i,z,hi,hv,hm⟩:=zero_of hz
 have hzr:CellsR (cx Z φ H w) zs z.cells.toList:=by
  obtain⟨c1,c2⟩:=cv1_cells (c:=cx Z φ H w) hm
  exact⟨c1,c2⟩
 have hzc:=zero_cells hm
 have hzs:z.cells.size=s:=by have:=hzr.1;simp at this;omega
 obtain⟨p1,p2⟩:=ev_partsR hst hl
 have hrep:∀x∈List.replicate len (AV.agg zs),x.cells.length=s∧x.cells.all AV.isCell=true:=fun x hx=>by
  rw[List.eq_of_mem_replicate hx];exact⟨hzl,hzc⟩
 obtain⟨hrl,hrc⟩:=fillR_cells hrows hrep
 have hzrows:=zero_rows hzr len (by omega)
 rw[hzs]at hzrows
 obtain⟨z',f1,f2⟩:=fillR_sound _ ((parts.map fun(i,x)=>(i,a.eval x)).toList) _ ((Array.range (len*s)).map (z.cells[· % s]!)) (by simpa using p1) (fun i p q hp hq=>p2 i p q hp (by simpa using hq)) hrep hzrows hrows
 have hrlen:rows.length=len:=by simpa using hrl
 have hone:∀u∈z'.toList,u.oneCell'=true:=fun u hu=>by
  obtain⟨j,hj,rfl⟩:=List.getElem_of_mem hu
  have hj':j<(rows.flatMap AV.cells).length:=by rw[f2.1];exact hj
  have hx:=f2.2 j (rows.flatMap AV.cells)[j] z'.toList[j] (by simp[hj']) (by simp at hj ⊢)
  refine hx.oneCell ?_
  obtain⟨r,hr,hxr⟩:=List.mem_flatMap.1 (List.getElem_mem hj')
  exact List.all_eq_true.1 (hrc r hr).2 _ hxr
 have hrun:(Instr.buildSlice t len (parts.map fun(i,x)=>(i,a.eval x))).run P w= .ok (.slice (some ⟨w.heap.size,0,none⟩) len len) (w.alloc (.cells z' e)):=by
  simp only[Instr.buildSlice,Sem.run_bind,run_underlying ht,Result.andThen_ok,run_sizeOf hs]
  rw[if_neg (by omega)]
  by_cases hl0:len*s=0
  ·have hlen0:len=0:=by rcases Nat.mul_eq_zero.1 hl0 with h|h<;>omega
   subst hlen0
   simp only[Nat.zero_mul,if_true,Sem.run_pure,Result.andThen_ok]at f1⊢
   have e1:(Array.range 0).map (fun x=>z.cells[x % s]!)=(Array.range 0).map (fun x=>(#[]:Array Value)[x % (#[]:Array Value).size]!):=by simp
   rw[e1]at f1
   rw[Sem.run_bind,Sem.run_pure,Result.andThen_ok]
   simp only[f1]
   simp[newRow]
  ·simp only[hl0,if_false,Sem.run_bind,run_zeroValue hi hv,Result.andThen_ok,Sem.run_pure,hzs]
   simp only[f1]
   simp[newRow]
 cases h
 by_cases hl0:len=0
 ·subst hl0
  obtain rfl:rows=[]:=List.length_eq_zero_iff.1 hrlen
  have hle:(cx Z φ H w).le (cx Z φ H (w.alloc (.cells z' e))):=⟨fun _ h=>h,fun _ _=>rfl,by simp,fun b _ hn=>hn,fun b hb _=>heap_alloc_old _ _ hb⟩
  have hst1:Step Z φ H w φ H (w.alloc (.cells z' e)):=⟨hle,rfl,rfl,rfl,dr_le,fun b hb=>heap_alloc_old _ _ (hR.res b hb).1,fun id o h=>OR.keep hle (live_lt h) (fun hC=>heap_alloc_old _ _ ((hR.obj id o h).lt hC)) (hR.obj id o h),hR.inj,fun b hb=>⟨by have:=(hR.res b hb).1;simp;omega,(hR.res b hb).2⟩⟩
  obtain⟨s1,s2⟩:=virtual_sound hst1.rel e h0 (some ⟨w.heap.size,0,none⟩)
  exact⟨_,_,_,hrun,hst1.trans s1,s2⟩
 ·have:=fresh_sound hR e f2 hone (fun r hr=>(hrc r hr).1) h0 (C:=len) (by omega) hl0 (rest:= #[]) (by simp[hrlen]) (by simp) (0,0) (frOK0 _)
  simp only[Array.append_empty,Array.toArray_toList,hrlen]at this
  exact⟨_,_,_,hrun,this.1,this.2⟩
theorem byteRows_flat(s:ByteArray):(byteRows s).flatMap AV.cells=byteRows s:=by
 unfold byteRows
 induction s.data.toList with
 |nil=>rfl
 |cons b l ih=>simp only[List.map_cons,List.flatMap_cons,ih];rfl
theorem byteRows_cells {c:Cx}(s:ByteArray):CellsR c ((byteRows s).flatMap AV.cells) (byteCells s):=by
 rw[byteRows_flat]
 refine⟨by simp[byteRows,byteCells],fun i a x ha hx=> ?_⟩
 simp only[byteRows,byteCells,List.getElem?_map,Option.map_eq_some_iff]at ha hx
 obtain⟨b,hb,rfl⟩:=ha
 obtain⟨b',hb',rfl⟩:=hx
 rw[hb]at hb'
 cases hb'
 exact .int _ _
theorem byteRows_ok(s:ByteArray):okRows 1 (byteRows s):=fun r hr=>by
 unfold byteRows at hr
 obtain⟨b,_,rfl⟩:=List.mem_map.1 hr
 exact⟨rfl,rfl⟩
theorem byteRows_len(s:ByteArray):(byteRows s).length=s.size:=by
 rw[byteRows,List.length_map,Array.length_toList]
 rfl
theorem modify_push {α:Type}(a:Array α)(x:α)(f:α→α):(a.push x).modify a.size f=a.push (f x):=by
 apply Array.ext
 ·simp
 ·intro i h1 h2
  rw[Array.getElem_modify]
  simp only[Array.size_modify,Array.size_push]at h1
  by_cases h:a.size=i
  ·subst h;simp
  ·rw[if_neg h,Array.getElem_push_lt (by omega),Array.getElem_push_lt (by omega)]
theorem s2b_sound {Z φ H w}(hR:Rel Z φ H w){x:AV}{u:Value}(hx:VR (cx Z φ H w) x u){src dst e:TypeId}(hs:P.underlying src=some .string)(hd:P.underlying dst=some (.slice e))(he:P.underlying e=some (.int .u8)){r:AV}{H':AHeap}(h:aS2b e x H=some (r,H')):
  ∃v φ' w',(convert src dst u).run P w= .ok v w'∧Step Z φ H w φ' H' w'∧VR (cx Z φ' H' w') r v:=by
 unfold aS2b at h
 split at h
 case h_2=>cases h
 rename_i s
 split at h
 case isFalse=>cases h
 cases h
 cases hx
 have hrun:=Lib.run_convert_string_bytes (P:=P) w src dst e s hs hd he
 have hcap:=grownCap_le w s.size 0 e
 have hbs:(Lib.bytesCells w e s).size=grownCap w s.size 0 e:=by
  have:s.data.size=s.size:=rfl
  simp only[Lib.bytesCells,Array.size_append,Array.size_map,Array.size_replicate,this]
  omega
 have hw:Lib.bytesWorld w e s=w.drew.alloc (.cells (Lib.bytesCells w e s) e (grownCap w s.size 0 e,grownCap w s.size 0 e+1)):=by
  rw[←hbs]
  simp only[Lib.bytesWorld,World.freeze,World.alloc,World.drew]
  rw[if_neg (by omega)]
  congr 1
  rw[modify_push]
  simp
 have hst:=step_drew hR
 have hds:w.drew.heap.size=w.heap.size:=rfl
 by_cases hC:grownCap w s.size 0 e=0
 ·have h0:s.size=0:=by omega
  have hr0:byteRows s=[]:=List.length_eq_zero_iff.1 (by rw[byteRows_len,h0])
  have hR1:=hst.rel
  have hle:(cx Z φ H w.drew).le (cx Z φ H (w.drew.alloc (.cells (Lib.bytesCells w e s) e (grownCap w s.size 0 e,grownCap w s.size 0 e+1)))):=⟨fun _ h=>h,fun _ _=>rfl,by simp,fun b _ hn=>hn,fun b hb _=>heap_alloc_old _ _ hb⟩
  have hst1:Step Z φ H w.drew φ H (w.drew.alloc (.cells (Lib.bytesCells w e s) e (grownCap w s.size 0 e,grownCap w s.size 0 e+1))):=⟨hle,rfl,rfl,rfl,dr_le,fun b hb=>heap_alloc_old _ _ (hR1.res b hb).1,fun id o h=>OR.keep hle (live_lt h) (fun hC=>heap_alloc_old _ _ ((hR1.obj id o h).lt hC)) (hR1.obj id o h),hR1.inj,fun b hb=>⟨by have:=(hR1.res b hb).1;simp;omega,(hR1.res b hb).2⟩⟩
  obtain⟨s1,s2⟩:=virtual_sound hst1.rel e (sz:=1) (by omega) (some ⟨w.heap.size,0,none⟩)
  rw[hw]at hrun
  rw[hC,h0]at hrun
  rw[hr0]
  rw[hC]at s1 s2 hst1
  exact⟨_,_,_,hrun,hst.trans (hst1.trans s1),s2⟩
 ·obtain⟨f1,f2⟩:=fresh_sound hst.rel e (byteRows_cells s) (fun u hu=>by
    simp only[byteCells,List.mem_map]at hu
    obtain⟨b,_,rfl⟩:=hu
    rfl) (fun r hr=>(byteRows_ok s r hr).1) (by omega) (C:=grownCap w s.size 0 e) (by rw[byteRows_len];exact hcap) hC (rest:=Array.replicate (grownCap w s.size 0 e-s.size) (.int .u8 0))
    (by rw[byteRows_len];simp) (fun u hu=>by simp at hu;rw[hu.2];rfl) (grownCap w s.size 0 e,grownCap w s.size 0 e+1) (fun o h1 h2=>by simp at h1 h2;omega)
  have hc:(byteCells s).toArray++Array.replicate (grownCap w s.size 0 e-s.size) (.int .u8 0)=Lib.bytesCells w e s:=by
   apply Array.ext'
   simp[byteCells,Lib.bytesCells]
  rw[hc,←hw]at f1 f2
  rw[byteRows_len]at f2
  exact⟨_,_,_,hrun,hst.trans f1,f2⟩
theorem s2b_run {c:Cx}{H:AHeap}{x:AV}{u:Value}(hx:VR c x u){src dst e:TypeId}(hs:P.underlying src=some .string)(hd:P.underlying dst=some (.slice e))(he:P.underlying e=some (.int .u8)){r:AV}{H':AHeap}(h:aS2b e x H=some (r,H'))(w:World):
  ∃ (s:ByteArray) (cells:Array Value) (C:Nat),aFresh e 1 (byteRows s) H=(r,H')∧s.size≤C∧(byteCells s).toArray++Array.replicate (C-s.size) (.int .u8 0)=cells∧cells.size=C∧(∀u∈cells.toList,u.oneCell'=true)∧
   (convert src dst u).run P w= .ok (.slice (some ⟨w.heap.size,0,none⟩) s.size C) (w.drew.alloc (.cells cells e (C,C+1)))∧True∧True:=by
 unfold aS2b at h
 split at h
 case h_2=>cases h
 rename_i s
 split at h
 case isFalse=>cases h
 cases h
 cases hx
 have hrun:=Lib.run_convert_string_bytes (P:=P) w src dst e s hs hd he
 have hcap:=grownCap_le w s.size 0 e
 have hbs:(Lib.bytesCells w e s).size=grownCap w s.size 0 e:=by
  have:s.data.size=s.size:=rfl
  simp only[Lib.bytesCells,Array.size_append,Array.size_map,Array.size_replicate,this]
  omega
 have hw:Lib.bytesWorld w e s=w.drew.alloc (.cells (Lib.bytesCells w e s) e (grownCap w s.size 0 e,grownCap w s.size 0 e+1)):=by
  rw[←hbs]
  simp only[Lib.bytesWorld,World.freeze,World.alloc,World.drew]
  rw[if_neg (by omega)]
  congr 1
  rw[modify_push]
  simp
 rw[hw]at hrun
 refine⟨s,_,_,rfl,hcap, ?_,hbs,fun u hu=> ?_,hrun,trivial,trivial⟩
 ·apply Array.ext'
  simp[byteCells,Lib.bytesCells]
 ·simp only[Lib.bytesCells,Array.toList_append,List.mem_append,Array.toList_map,List.mem_map,Array.toList_replicate,List.mem_replicate]at hu
  rcases hu with⟨b,_,rfl⟩ | ⟨_,rfl⟩<;>rfl
theorem unbyte_some {r:AV}{b:UInt8}(h:unbyte r=some b):∃n:Int,0≤n∧n<256∧r= .int .u8 n∧b=UInt8.ofNat n.toNat:=by
 unfold unbyte at h
 split at h
 ·rename_i n
  split at h
  ·rename_i hn
   cases h
   exact⟨n,hn.1,hn.2,rfl,rfl⟩
  ·cases h
 ·cases h
theorem foldl_push(ns:List Int):∀s:ByteArray,ns.foldl (fun r n=>r.push (UInt8.ofNat n.toNat)) s=⟨s.data++ (ns.map fun n=>UInt8.ofNat n.toNat).toArray⟩:=by
 induction ns with
 |nil=>intro s;simp
 |cons n ns ih=>
  intro s
  rw[List.foldl_cons,ih]
  congr 1
  simp[ByteArray.push]
theorem unbytes:∀ {rows:List AV} {l:List UInt8},rows.mapM unbyte=some l→∃ns:List Int,rows=ns.map (AV.int .u8)∧l=ns.map fun n=>UInt8.ofNat n.toNat
 | [],l,h=>by simp at h;subst h;exact⟨[],rfl,rfl⟩
 |r::rows,l,h=>by
  rw[List.mapM_cons]at h
  simp only[Option.bind_eq_bind,Option.bind_eq_some_iff,Option.pure_def,Option.some.injEq]at h
  obtain⟨b,hb,l',hl',rfl⟩:=h
  obtain⟨n,_,_,rfl,rfl⟩:=unbyte_some hb
  obtain⟨ns,rfl,rfl⟩:=unbytes hl'
  exact⟨n::ns,rfl,rfl⟩
theorem ints_flat(ns:List Int):(ns.map (AV.int .u8)).flatMap AV.cells=ns.map (AV.int .u8):=by
 induction ns with
 |nil=>rfl
 |cons n ns ih=>simp only[List.map_cons,List.flatMap_cons,ih];rfl
theorem b2s_sound {c:Cx}{H:AHeap}(hR:RO c H){x:AV}{u:Value}(hx:VR c x u){src dst e:TypeId}(hs:P.underlying src=some (.slice e))(hd:P.underlying dst=some .string)(he:P.underlying e=some (.int .u8)){r:AV}(h:aB2s x H=some r):
  ∃v,(convert src dst u).run P c.w= .ok v c.w∧VR c r v:=by
 unfold aB2s at h
 simp only[Option.bind_eq_some_iff,Option.map_eq_some_iff]at h
 obtain⟨rows,hrows,l,hl,rfl⟩:=h
 obtain⟨ns,rfl,rfl⟩:=unbytes hl
 have hok:okRows 1 (ns.map (AV.int .u8)):=fun r hr=>by
  obtain⟨n,_,rfl⟩:=List.mem_map.1 hr
  exact⟨rfl,rfl⟩
 obtain⟨a,n,cap,rfl,rfl,hcap,vs,h1,h2,h3⟩:=view_soundR hR hx hrows hok (by omega)
 rw[ints_flat]at h1
 have hvs:vs=ns.map (Value.int .u8):=by
  apply List.ext_getElem?
  intro i
  have hlen:=h1.1
  simp at hlen
  rw[List.getElem?_map]
  by_cases hi:i<ns.length
  ·have hv:vs[i]? =some (vs[i]'(by omega)):=List.getElem?_eq_getElem _
   have:=h1.2 i (.int .u8 ns[i]) _ (by simp[hi]) hv
   rw[hv,List.getElem?_eq_getElem hi]
   cases hq:vs[i]'(by omega)<;>rw[hq]at this<;>cases this
   rfl
  ·rw[List.getElem?_eq_none (by omega),List.getElem?_eq_none (by omega)];rfl
 subst hvs
 refine⟨.string ⟨(ns.map fun n=>UInt8.ofNat n.toNat).toArray⟩, ?_, .str _⟩
 rw[run_convert_bytes_string c.w src dst e _ _ _ hs he hd]
 have hfold:ns.foldl (fun r n=>r.push (UInt8.ofNat n.toNat)) ByteArray.empty=⟨(ns.map fun n=>UInt8.ofNat n.toNat).toArray⟩:=by
  rw[foldl_push]
  simp[ByteArray.empty,ByteArray.emptyWithCapacity]
  rfl
 rw[←hfold]
 simp only[List.length_map]
 by_cases hn:ns=[]
 ·subst hn
  cases a with
  |none=>rfl
  |some a=>exact run_bytesToString c.w a 0 cap [] (by simp[loadCells,loadCellsFrom])
 ·obtain⟨b,o,rfl,hr⟩:=h3 (by simpa using hn)
  refine run_bytesToString c.w _ _ cap ns ?_
  have:=run_loadCells (P:=P) c.w ⟨b,o,none⟩ ns.length (fun j=> .int .u8 (ns.getD j 0)) (fun j hj=>by
   rw[Addr.add_mid]
   refine hr j _ ?_
   simp[hj,List.getD])
  rw[this]
  congr 2
  apply List.ext_getElem?
  intro i
  by_cases hi:i<ns.length
  ·simp[hi,List.getD]
  ·rw[List.getElem?_eq_none (by simp;omega),List.getElem?_eq_none (by simp;omega)]
theorem make_run {c:Cx} {H:AHeap} {l m:AV} {u v:Value} (hl:VR c l u) (hm:VR c m v) {t e:TypeId} {i:TypeInfo} {zs:List AV} {zero:AV} (ht:P.underlying t=some (.slice e)) (hi:P.info? e=some i) (hz:zeroT P e=some zs) (hzl:zs.length=i.size) (h0:0<i.size) (hb:0<i.bytes)
  (hz0:zero.cells=zs) {r:AV} {H':AHeap} (h:aMake e i.size i.bytes zero l m H=some (r,H')) (w:World):∃rows z',aFresh e i.size rows H=(r,H')∧(∀x∈rows,x=zero)∧CellsR c (rows.flatMap AV.cells) z'.toList∧(∀u∈z'.toList,u.oneCell'=true)∧
   (Instr.makeSlice t u v).run P w= .ok (.slice (some ⟨w.heap.size,0,none⟩) rows.length rows.length) (w.alloc (.cells z' e)):=by
 unfold aMake at h
 split at h
 case h_2=>cases h
 rename_i kl n kc m
 split at h
 case isFalse=>cases h
 rename_i hc
 obtain⟨rfl,hn,hroom⟩:=hc
 cases h
 cases hl;cases hm
 obtain⟨n,rfl⟩:∃k:Nat,m=k:=⟨m.toNat,by omega⟩
 simp only[Int.toNat_natCast]at hroom⊢
 obtain⟨i',z,hi',hv,hmz⟩:=zero_of hz
 rw[hi]at hi';cases hi'
 have hnb:n≤n*i.bytes:=Nat.le_mul_of_pos_right _ hb
 unfold roomBound at hroom
 have hr:=run_make (P:=P) w t e i z ht hi hv kl kc (n:Int) (n:Int) (by omega) (by omega) (by rw[←Int.natCast_mul,Nat.mul_comm];omega) (by omega)
 simp only[Int.toNat_natCast]at hr
 have hzr:CellsR c zs z.cells.toList:=by
  obtain⟨c1,c2⟩:=cv1_cells (c:=c) hmz
  exact⟨c1,c2⟩
 have hzs:z.cells.size=i.size:=by have:=hzr.1;simp at this;omega
 have hzrows:=zero_rows hzr n (by omega)
 have hcell:(List.replicate n zero).flatMap AV.cells=(List.replicate n (AV.agg zs)).flatMap AV.cells:=by
  rw[List.flatMap_replicate,List.flatMap_replicate,hz0];rfl
 rw[←hcell,hzs]at hzrows
 rw[show(Array.range (n*i.size)).map (z.cells[· % i.size]!)=madeCells z.cells (n*i.size)from by unfold madeCells;rw[hzs]]at hzrows
 refine⟨_,madeCells z.cells (n*i.size),rfl,fun x hx=>List.eq_of_mem_replicate hx, ?_, ?_,by simpa using hr⟩
 ·exact hzrows
 ·intro u hu
  have hzc:=zero_cells hmz
  obtain⟨j,hj,rfl⟩:=List.getElem_of_mem hu
  have hj':j<((List.replicate n zero).flatMap AV.cells).length:=by rw[hzrows.1];exact hj
  refine(hzrows.2 j ((List.replicate n zero).flatMap AV.cells)[j] _ (by simp[hj']) (List.getElem?_eq_getElem hj)).oneCell ?_
  obtain⟨r,hr,hxr⟩:=List.mem_flatMap.1 (List.getElem_mem hj')
  rw[List.eq_of_mem_replicate hr,hz0]at hxr
  exact List.all_eq_true.1 hzc _ hxr
theorem make_sound0 {Z φ H w} (hR:Rel Z φ H w) {l m:AV} {u v:Value} (hl:VR (cx Z φ H w) l u) (hm:VR (cx Z φ H w) m v) {t e:TypeId} {i:TypeInfo} {zs:List AV} {zero:AV} (ht:P.underlying t=some (.slice e)) (hi:P.info? e=some i) (hz:zeroT P e=some zs) (hzl:zs.length=i.size) (h0:0<i.size) (hb:0<i.bytes)
  (hz0:zero.cells=zs) {r:AV} {H':AHeap} (h:aMake e i.size i.bytes zero l m H=some (r,H')):
  ∃v' φ' w',(Instr.makeSlice t u v).run P w= .ok v' w'∧Step Z φ H w φ' H' w'∧VR (cx Z φ' H' w') r v':=by
 obtain⟨rows,z',e1,e2,e3,e4,hrun⟩:=make_run (P:=P) hl hm ht hi hz hzl h0 hb hz0 h w
 cases e1
 have hsz:∀r∈rows,r.cells.length=i.size:=fun r hr=>by rw[e2 r hr,hz0,hzl]
 by_cases hl0:rows.length=0
 ·obtain rfl:rows=[]:=List.length_eq_zero_iff.1 hl0
  have hle:(cx Z φ H w).le (cx Z φ H (w.alloc (.cells z' e))):=⟨fun _ h=>h,fun _ _=>rfl,by simp,fun b _ hn=>hn,fun b hb _=>heap_alloc_old _ _ hb⟩
  have hst1:Step Z φ H w φ H (w.alloc (.cells z' e)):=⟨hle,rfl,rfl,rfl,dr_le,fun b hb=>heap_alloc_old _ _ (hR.res b hb).1,fun id o h=>OR.keep hle (live_lt h) (fun hC=>heap_alloc_old _ _ ((hR.obj id o h).lt hC)) (hR.obj id o h),hR.inj,fun b hb=>⟨by have:=(hR.res b hb).1;simp;omega,(hR.res b hb).2⟩⟩
  obtain⟨s1,s2⟩:=virtual_sound hst1.rel e h0 (some ⟨w.heap.size,0,none⟩)
  exact⟨_,_,_,hrun,hst1.trans s1,s2⟩
 ·have:=fresh_sound hR e e3 e4 hsz h0 (C:=rows.length) (by omega) hl0 (rest:= #[]) (by simp) (by simp) (0,0) (frOK0 _)
  simp only[Array.append_empty,Array.toArray_toList]at this
  exact⟨_,_,_,hrun,this.1,this.2⟩
end
end Go.Am
end
