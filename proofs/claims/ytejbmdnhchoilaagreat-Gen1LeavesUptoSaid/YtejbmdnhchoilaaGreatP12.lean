/- Part of the proof: what functions of the program compute, walked. No conditions. -/
import Derived.Test.YtejbmdnhchoilaaGreatCa
import Derived.Test.YtejbmdnhchoilaaGreatCb
import Derived.Test.YtejbmdnhchoilaaGreatCc
import Derived.Test.YtejbmdnhchoilaaGreatCe
import Derived.Test.YtejbmdnhchoilaaGreatP11
set_option linter.unusedVariables false
set_option linter.unusedSimpArgs false
set_option maxRecDepth 100000
section
open Go Go.Am Go.Proofs
namespace Go.Am.Pt
section
variable {es id n:Nat} {H:AHeap} {kk kk':IntKind} {rs:List AV} {cp:Option Nat}
theorem sl_del {a:Int}(hr:rowsOf es H id=some rs)(hcp:cp=none∨cp=some n)(hn:n≤rs.length)(h0:0≤a)(h1:a≤n):aSlice es H (.slc id 0 n cp) none (some (.int kk a)) (some (.int kk' a))=some (.slc id 0 a.toNat (some a.toNat)):=by
 have e1:a.toNat≤n:=by omega
 have e2:a.toNat≤rs.length:=by omega
 rcases hcp with rfl|rfl<;>simp[aSlice,aBounds,AV.natOf,hr,h0,h1]<;>omega
theorem sl_rest {a:Int}(hr:rowsOf es H id=some rs)(hcp:cp=none∨cp=some n)(hn:n≤rs.length)(h0:0≤a)(h1:a≤n):aSlice es H (.slc id 0 n cp) (some (.int kk a)) none none=some (.slc id a.toNat (n-a.toNat) (cp.map (· -a.toNat))):=by
 have e1:a.toNat≤n:=by omega
 rcases hcp with rfl|rfl<;>simp[aSlice,aBounds,AV.natOf,hr,h0,h1,hn]
theorem app_cut {α:Type} {f:α→AV} {l new:List α} {str:Bool} {t sz bytes a:Nat} {y:AV} {k:AV→AHeap→Prop} (hH:H[id]? =some (some (.rows t sz (l.map f)))) (hs:srcOf str sz H y=some (new.map f)) (ha:a≤l.length) (hb:(a+new.length) *bytes≤roomBound)
  (hk1:new=[]→a≠0→k (.slc id 0 a (some a)) H) (hk2:(new=[]→a=0)→forceS (H++ [some (.rows t sz ((l.take a++new).map f))]) fun H'=>k (.slc H.length 0 (a+new.length) none) H')
  (hok:∀a,(f a).cells.length=sz∧(f a).cells.all AV.isCell=true:=by intro a;exact⟨rfl,rfl⟩):Stop (aAppend str t sz bytes (.slc id 0 a (some a)) y H k):=by
 refine⟨_,hs,okRows_map _ hok,_,hH,by simpa using hb,by simpa using ha,rfl, ?_⟩
 rw[forceS_eq]at hk2
 split
 ·rename_i h
  exact hk1 (by simpa using h.1) h.2
 ·rename_i h
  have:=hk2 fun e=>by
   by_cases ha0:a=0
   ·exact ha0
   ·exact absurd ⟨by simp[e],ha0⟩ h
  simpa[aFresh,List.map_take,Nat.min_eq_left ha]using this
theorem app_cp {α:Type} {f:α→AV} {l rest new:List α} {str:Bool} {t sz bytes:Nat} {y:AV} {k:AV→AHeap→Prop} (hH:H[id]? =some (some (.rows t sz ((l++rest).map f)))) (hcp:(cp=none∧rest=[])∨cp=some l.length) (hs:srcOf str sz H y=some (new.map f)) (hnew:new≠[]) (hb:(l.length+new.length) *bytes≤roomBound)
  (hk:∀o,forceS (H.set id o++ [some (.rows t sz ((l++new).map f))]) fun H'=>k (.slc H.length 0 (l.length+new.length) none) H')
  (hok:∀a,(f a).cells.length=sz∧(f a).cells.all AV.isCell=true:=by intro a;exact⟨rfl,rfl⟩):Stop (aAppend str t sz bytes (.slc id 0 l.length cp) y H k):=by
 refine⟨_,hs,okRows_map _ hok,_,hH,by simpa using hb,by simp, ?_⟩
 rcases hcp with⟨rfl,rfl⟩ |rfl
 ·have:=hk none
  rw[forceS_eq]at this
  simp only[List.append_nil,List.length_map,and_self,if_true]
  simpa using this
 ·have:=hk (some (.rows t sz ((l++rest).map f)))
  rw[forceS_eq]at this
  have e:H.set id (some (.rows t sz ((l++rest).map f)))=H:=by
   apply List.ext_getElem?
   intro i
   rw[List.getElem?_set]
   split
   ·rename_i q
    subst q
    rw[hH]
    split
    ·rfl
    ·rename_i q
     exact absurd (List.getElem?_eq_some_iff.1 hH).1 q
   ·rfl
  rw[e]at this
  simp only[true_and]
  rw[if_neg (by simp[hnew])]
  simpa[aFresh]using this
end
theorem actsW_cons {v vE:List Ac}{x:Ac}{l:List Ac}(h:actsW v (x::l)=some vE):∃u,actW v x=some u∧actsW u l=some vE:=by
 simp only[actsW]at h
 cases e:actW v x with
 |none=>rw[e]at h;cases h
 |some u=>rw[e]at h;exact⟨u,rfl,h⟩
theorem actW_cases {v u:List Ac}{x:Ac}(h:actW v x=some u):(x.kind=1∧¬0≤atW v x.task∧u=v++ [x])∨(x.kind≠1∧∃ (n:Nat) (y:Ac),atW v x.task=n∧v[n]? =some y∧y.node=x.node∧u=v.eraseIdx n):=by
 unfold actW at h
 by_cases hk:x.kind=1
 ·rw[if_pos hk]at h
  split at h
  ·cases h
  ·rename_i h2
   cases h
   exact .inl ⟨hk,h2,rfl⟩
 ·rw[if_neg hk]at h
  split at h
  ·cases h
  ·rename_i h2
   split at h
   ·cases h
   ·rename_i y hy
    split at h
    ·rename_i hn
     cases h
     exact .inr ⟨hk,(atW v x.task).toNat,y,by omega,hy,hn,rfl⟩
    ·cases h
theorem fin_none {w:List Ac}{t:ByteArray}(h:∀ (j:Nat) (z:Ac),w[j]? =some z→z.task≠t):finW w t=w:=by
 unfold finW
 cases hf:w.findIdx? fun y:Ac=>decide (y.task=t)with
 |none=>rfl
 |some i=>
  rw[List.findIdx?_eq_some_iff_getElem]at hf
  obtain⟨hi,hq,_⟩:=hf
  exact absurd (of_decide_eq_true hq) (h i _ (List.getElem?_eq_getElem hi))
theorem fin_some {w:List Ac}{t:ByteArray}{m:Nat}{z:Ac}(hz:w[m]? =some z)(e:z.task=t)(h:∀ (j:Nat) (z:Ac),j<m→w[j]? =some z→z.task≠t):finW w t=w.eraseIdx m:=by
 obtain⟨hm,ez⟩:=List.getElem?_eq_some_iff.1 hz
 unfold finW
 rw[show w.findIdx? (fun y:Ac=>decide (y.task=t))=some m from List.findIdx?_eq_some_iff_getElem.2 ⟨hm,by rw[ez];exact decide_eq_true e,fun j hj=>by
  have:=h j _ hj (List.getElem?_eq_getElem (by omega))
  simpa using this⟩]
abbrev gA(s:St)(v:List Ac):AHeap:=[gRw 1 2 3 s,rowsM s.machines,rowsQ s.queues,rowsJ s.jobs,some (.rows 61 3 (v.map acA))]
abbrev gW(s:St)(v:List Ac):AHeap:=[some (.rows 61 3 (v.map acA)),some (.rows 31 5 [stA s])]
abbrev gB(s:St)(v:List Ac)(a:An):AHeap:=[gRw 1 2 3 s,rowsM s.machines,rowsQ s.queues,rowsJ s.jobs,some (.rows 61 3 (v.map acA)),some (.rows 36 2 [anA a])]
abbrev gC(s:St)(v:List Ac)(a:An)(y:Ac):AHeap:=[gRw 1 2 3 s,rowsM s.machines,rowsQ s.queues,rowsJ s.jobs,some (.rows 61 3 (v.map acA)),some (.rows 36 2 [anA a]),some (.rows 61 3 [acA y])]
set_option maxHeartbeats 3000000 in
theorem lawActs_ok(l:List Op')(hl:(l.length:Int)≤1048576)(hz:∀o∈l,OpB o):AC PR 5 [ops l] [] (.bool true) []:=by
 have hm:(l.map opE).length=l.length:=List.length_map ..
 have cf:=few_ok l hl hz
 have hall:= @fewB_all l
 generalize fewB l=q at cf hall
 apply A5
 conv=>whnf
 refine call_closed awake_ok ?_
 conv=>whnf
 repeat(first
  | (refine And.intro rfl ?_;conv=>whnf))
 refine call_closed cf ?_
 conv=>whnf
 cases q
 case false=>
  conv=>whnf
  refine call_closed awake_ok ?_
  conv=>whnf
  exact at_end []
 obtain⟨h150,hsm⟩:=hall rfl
 conv=>whnf
 refine call_fr (R:= .ptr 0 0 0) [] [] [gRw 1 2 3 St.new,rowsM [],rowsQ [],rowsJ []] new_ok ?_
 conv=>whnf
 rw[hm]
 refine loop_to l.length (fun k e H=>∃ (s:St) (w rest:List Ac) (cp:Option Nat),Good s∧Wh w s.jobs∧((cp=none∧rest=[])∨cp=some w.length)∧e=[(0,ops l),(3, .ptr 0 0 0),(4, .slc 4 0 w.length cp),(29,i64 l.length),(30,i64 k)]∧H=gA s (w++rest)) ?_ ?_
 rotate_left
 ·conv=>whnf
  exact at_head [some 0,some 1,some 2,some 3,none] (gA St.new ([]:List Ac)) [(0,ops l),(3, .ptr 0 0 0),(4, .slc 4 0 0 none),(29,i64 l.length),(30,i64 (0:Nat))] ⟨St.new,[],[],none,good_new,wh_nil, .inl ⟨rfl,rfl⟩,rfl,rfl⟩
 rintro k e H hk ⟨s,w,rest,cp,hg,hw,hcp,rfl,rfl⟩
 have hwl:w.length≤48:=by
  rw[←wh_many hg.jn hw]
  exact Nat.le_trans (List.length_filter_le ..) hg.inv.j
 conv=>whnf
 generalize hq:decide ((k:Int)<(l.length:Int))=q
 cases q
 case false=>
  have cs:=state_ok s hg.inv.fits.w.toStSz (by have:=hg.inv.n0;omega)
  conv=>whnf
  refine call_fr (R:=stA s) [0,1,2,3] [] [gRw 1 2 3 s,rowsM s.machines,rowsQ s.queues,rowsJ s.jobs] cs ?_
  conv=>whnf
  have hmj:(s.jobs.map jbA).length=s.jobs.length:=List.length_map ..
  have hjx:=hg.inv.j
  rw[hmj]
  refine loop_to s.jobs.length (fun i e H=>∃c:Nat,c=((s.jobs.take i).filter fun j=> !decide (j.node=⟨#[]⟩)).length∧e=[(4, .slc 0 0 w.length cp),(12, .ptr 1 0 0),(13,i64 c),(138,i64 s.jobs.length),(139,i64 i)]∧H=gW s (w++rest)) ?_ ?_
  rotate_left
  ·conv=>whnf
   exact at_head [some 4,some 5] (gW s (w++rest)) [(4, .slc 0 0 w.length cp),(12, .ptr 1 0 0),(13,i64 (0:Nat)),(138,i64 s.jobs.length),(139,i64 (0:Nat))] ⟨0,rfl,rfl,rfl⟩
  rintro i e H hi ⟨c,hc,rfl,rfl⟩
  have hcl:c≤48:=by
   rw[hc]
   exact Nat.le_trans (List.length_filter_le ..) (by rw[List.length_take];omega)
  conv=>whnf
  generalize hq1:decide ((i:Int)<(s.jobs.length:Int))=q1
  cases q1
  case false=>
   rw[List.take_of_length_le (by have:=of_decide_eq_false hq1;omega),wh_many hg.jn hw]at hc
   subst hc
   conv=>whnf
   rw[dec_self]
   exact at_end []
  have hi2:i<s.jobs.length:=by have:=of_decide_eq_true hq1;omega
  have hgj:=List.getElem?_eq_getElem hi2
  have hy':s.jobs[((i:Nat):Int).toNat]? =some s.jobs[i]:=hgj
  have hym:s.jobs[i]∈s.jobs:=List.getElem_mem _
  generalize s.jobs[i]=y at hgj hy' hym
  have hft:=filter_take (fun j:Jb=> !decide (j.node=⟨#[]⟩)) hgj
  conv=>whnf
  repeat((first|refine And.intro rfl ?_|refine kA1 ?_ _|refine kA2 ?_ _|refine k_row gmA ?_|refine k_cell gmA ?_|refine e_row gmA rfl ?_|refine k_el gmA (by omega) ?_|refine k_some gmA ?_|refine f_set _ rfl ?_|refine kA8 ?_);conv=>whnf)
  generalize hq2:decide (y.node=⟨#[]⟩)=q2 at hft
  cases q2
  case true=>
   conv=>whnf
   refine w_i64 (by omega) ?_
   conv=>whnf
   exact at_head [some 0,some 1] (gW s (w++rest)) [(4, .slc 0 0 w.length cp),(12, .ptr 1 0 0),(13,i64 c),(138,i64 s.jobs.length),(139,i64 (i+1:Nat))] ⟨hi2,c,by rw[hft,hc];rfl,rfl,rfl⟩
  simp only[Bool.not_false,if_true]at hft
  have hyn:=of_decide_eq_false hq2
  have hany:(w.drop 0).any (fun z=>decide (z.task=y.task.name) &&decide (z.node=y.node))=true:=by
   obtain⟨z,hz1,hz2,hz3⟩:=hw.sup y hym hyn
   exact List.any_eq_true.2 ⟨z,hz1,by rw[decide_eq_true hz2,decide_eq_true hz3];rfl⟩
  conv=>whnf
  refine w_i64 (by omega) ?_
  conv=>whnf
  refine loop_to w.length (fun n e H=>∃f:Bool,(f|| (w.drop n).any (fun z=>decide (z.task=y.task.name) &&decide (z.node=y.node)))=true∧e=[(4, .slc 0 0 w.length cp),(12, .ptr 1 0 0),(13,i64 (c+1:Nat)),(14,i64 i),(15, .bool f),(138,i64 s.jobs.length),(139,i64 i),(152,i64 w.length),(153,i64 n)]∧H=gW s (w++rest)) ?_ ?_
  rotate_left
  ·conv=>whnf
   exact at_head [some 0,some 1] (gW s (w++rest)) [(4, .slc 0 0 w.length cp),(12, .ptr 1 0 0),(13,i64 (c+1:Nat)),(14,i64 i),(15, .bool false),(138,i64 s.jobs.length),(139,i64 i),(152,i64 w.length),(153,i64 (0:Nat))] ⟨false,by rw[hany];rfl,rfl,rfl⟩
  rintro n e H hn ⟨f,hf,rfl,rfl⟩
  conv=>whnf
  generalize hq3:decide ((n:Int)<(w.length:Int))=q3
  cases q3
  case false=>
   rw[List.drop_eq_nil_of_le (by have:=of_decide_eq_false hq3;omega)]at hf
   have hf':f=true:=by simpa using hf
   subst hf'
   conv=>whnf
   refine w_i64 (by omega) ?_
   conv=>whnf
   exact at_head [some 0,some 1] (gW s (w++rest)) [(4, .slc 0 0 w.length cp),(12, .ptr 1 0 0),(13,i64 (c+1:Nat)),(138,i64 s.jobs.length),(139,i64 (i+1:Nat))] ⟨hi2,c+1,by rw[hft,hc];simp,rfl,rfl⟩
  have hn2:n<w.length:=by have:=of_decide_eq_true hq3;omega
  have hgz:=List.getElem?_eq_getElem hn2
  generalize w[n]=z at hgz
  have hz':(w++rest)[((n:Nat):Int).toNat]? =some z:=by
   rw[←hgz];exact List.getElem?_append_left hn2
  have hd:(w.drop n).any (fun z=>decide (z.task=y.task.name) &&decide (z.node=y.node))=((decide (z.task=y.task.name) &&decide (z.node=y.node)) || (w.drop (n+1)).any (fun z=>decide (z.task=y.task.name) &&decide (z.node=y.node))):=by
   obtain⟨_,e⟩:=List.getElem?_eq_some_iff.1 hgz
   rw[List.drop_eq_getElem_cons hn2,e];rfl
  rw[hd]at hf
  conv=>whnf
  repeat((first|refine And.intro rfl ?_|refine kA1 ?_ _|refine kA2 ?_ _|refine k_row gmA ?_|refine k_cell gmA ?_|refine e_row gmA rfl ?_|refine k_el gmA (by omega) ?_|refine k_some gmA ?_|refine f_set _ rfl ?_|refine kA8 ?_);conv=>whnf)
  cases f
  case true=>
   conv=>whnf
   refine w_i64 (by omega) ?_
   conv=>whnf
   exact at_head [some 0,some 1] (gW s (w++rest)) [(4, .slc 0 0 w.length cp),(12, .ptr 1 0 0),(13,i64 (c+1:Nat)),(14,i64 i),(15, .bool true),(138,i64 s.jobs.length),(139,i64 i),(152,i64 w.length),(153,i64 (n+1:Nat))] ⟨hn2,true,rfl,rfl,rfl⟩
  rw[Bool.false_or]at hf
  conv=>whnf
  repeat((first|refine And.intro rfl ?_|refine kA1 ?_ _|refine kA2 ?_ _|refine k_row gmA ?_|refine k_cell gmA ?_|refine e_row gmA rfl ?_|refine k_el gmA (by omega) ?_|refine k_some gmA ?_|refine f_set _ rfl ?_|refine kA8 ?_);conv=>whnf)
  generalize decide (z.task=y.task.name)=b1 at hf
  cases b1
  case false=>
   conv=>whnf
   refine w_i64 (by omega) ?_
   conv=>whnf
   exact at_head [some 0,some 1] (gW s (w++rest)) [(4, .slc 0 0 w.length cp),(12, .ptr 1 0 0),(13,i64 (c+1:Nat)),(14,i64 i),(15, .bool false),(138,i64 s.jobs.length),(139,i64 i),(152,i64 w.length),(153,i64 (n+1:Nat))] ⟨hn2,false,hf,rfl,rfl⟩
  rw[Bool.true_and]at hf
  conv=>whnf
  repeat((first|refine And.intro rfl ?_|refine kA1 ?_ _|refine kA2 ?_ _|refine k_row gmA ?_|refine k_cell gmA ?_|refine e_row gmA rfl ?_|refine k_el gmA (by omega) ?_|refine k_some gmA ?_|refine f_set _ rfl ?_|refine kA8 ?_);conv=>whnf)
  generalize decide (z.node=y.node)=b2 at hf
  conv=>whnf
  repeat((first|refine And.intro rfl ?_|refine kA1 ?_ _|refine kA2 ?_ _|refine k_row gmA ?_|refine k_cell gmA ?_|refine e_row gmA rfl ?_|refine k_el gmA (by omega) ?_|refine k_some gmA ?_|refine f_set _ rfl ?_|refine kA8 ?_);conv=>whnf)
  exact at_head [some 0,some 1] (gW s (w++rest)) [(4, .slc 0 0 w.length cp),(12, .ptr 1 0 0),(13,i64 (c+1:Nat)),(14,i64 i),(15, .bool b2),(138,i64 s.jobs.length),(139,i64 i),(152,i64 w.length),(153,i64 (n+1:Nat))] ⟨hn2,b2,hf,rfl,rfl⟩
 have hk2:k<l.length:=by have:=of_decide_eq_true hq;omega
 have hgo:=List.getElem?_eq_getElem hk2
 have hx':l[((k:Nat):Int).toNat]? =some l[k]:=hgo
 have hxm:l[k]∈l:=List.getElem_mem _
 generalize l[k]=x at hgo hx' hxm
 obtain⟨d1,hg2,_⟩:=do_good hg (hz x hxm) (hsm x hxm)
 obtain⟨w2,hw2,hwh⟩:=wh_do hg x hw
 have hal:=doG_acts hg.inv x
 generalize doG s x=d at d1 hg2 hw2 hwh hal
 obtain⟨a,s2⟩:=d
 simp only at d1 hg2 hw2 hwh hal
 conv=>whnf
 repeat((first|refine And.intro rfl ?_|refine kA1 ?_ _|refine kA2 ?_ _|refine k_row gmA ?_|refine k_cell gmA ?_|refine e_row gmA rfl ?_|refine k_el gmA (by omega) ?_|refine k_some gmA ?_|refine f_set _ rfl ?_|refine kA8 ?_);conv=>whnf)
 refine call_fr (R:=anA a) [0,1,2,3] [] [gRw 5 6 7 s2,none,none,none,rowsM s2.machines,rowsQ s2.queues,rowsJ s2.jobs] d1 ?_
 conv=>whnf
 have hma:(a.acts.map acA).length=a.acts.length:=List.length_map ..
 rw[hma]
 obtain⟨vE,hvE,hw3⟩:∃vE,actsW w a.acts=some vE∧w2=(if x.kind=7∧a.err=0 then finW vE x.name else vE):=by
  unfold lawW at hw2
  split at hw2
  ·cases hw2
  ·rename_i v hv
   cases hw2
   exact⟨v,hv,rfl⟩
 refine loop_to a.acts.length (fun n e H=>∃ (v rs:List Ac) (cp:Option Nat),actsW v (a.acts.drop n)=some vE∧v.length≤48+n∧((cp=none∧rs=[])∨cp=some v.length)∧e=[(0,ops l),(3, .ptr 0 0 0),(4, .slc 4 0 v.length cp),(5,i64 k),(6, .ptr 5 0 0),(29,i64 l.length),(30,i64 k),(41,i64 a.acts.length),(42,i64 n)]∧H=gB s2 (v++rs) a) ?_ ?_
 rotate_left
 ·conv=>whnf
  exact at_head [some 0,some 5,some 6,some 7,some 4,some 8] (gB s2 (w++rest) a) [(0,ops l),(3, .ptr 0 0 0),(4, .slc 4 0 w.length cp),(5,i64 k),(6, .ptr 5 0 0),(29,i64 l.length),(30,i64 k),(41,i64 a.acts.length),(42,i64 (0:Nat))] ⟨w,rest,cp,hvE,hwl,hcp,rfl,rfl⟩
 clear hcp hwl
 rintro n e H hn ⟨v,rs,cp,hv,hvl,hcp,rfl,rfl⟩
 conv=>whnf
 generalize hqn:decide ((n:Int)<(a.acts.length:Int))=qn
 cases qn
 case false=>
  rw[List.drop_eq_nil_of_le (by have:=of_decide_eq_false hqn;omega)]at hv
  simp only[actsW,Option.some.injEq]at hv
  subst hv
  conv=>whnf
  repeat((first|refine And.intro rfl ?_|refine kA1 ?_ _|refine kA2 ?_ _|refine k_row gmA ?_|refine k_cell gmA ?_|refine e_row gmA rfl ?_|refine k_el gmA (by omega) ?_|refine k_some gmA ?_|refine f_set _ rfl ?_|refine kA8 ?_);conv=>whnf)
  generalize hk7:decide (x.kind=7)=b7
  cases b7
  case false=>
   rw[if_neg (fun h=>of_decide_eq_false hk7 h.1)]at hw3
   subst hw3
   conv=>whnf
   refine w_i64 (by omega) ?_
   conv=>whnf
   exact at_head [some 0,some 1,some 2,some 3,some 4] (gA s2 (w2++rs)) [(0,ops l),(3, .ptr 0 0 0),(4, .slc 4 0 w2.length cp),(29,i64 l.length),(30,i64 (k+1:Nat))] ⟨hk2,s2,w2,rs,cp,hg2,hwh,hcp,rfl,rfl⟩
  conv=>whnf
  generalize hke:decide (a.err=0)=be
  cases be
  case false=>
   rw[if_neg (fun h=>of_decide_eq_false hke h.2)]at hw3
   subst hw3
   conv=>whnf
   refine w_i64 (by omega) ?_
   conv=>whnf
   exact at_head [some 0,some 1,some 2,some 3,some 4] (gA s2 (w2++rs)) [(0,ops l),(3, .ptr 0 0 0),(4, .slc 4 0 w2.length cp),(29,i64 l.length),(30,i64 (k+1:Nat))] ⟨hk2,s2,w2,rs,cp,hg2,hwh,hcp,rfl,rfl⟩
  rw[if_pos ⟨of_decide_eq_true hk7,of_decide_eq_true hke⟩]at hw3
  conv=>whnf
  refine loop_to v.length (fun m e H=>(∀j z,j<m→v[j]? =some z→z.task≠x.name)∧e=[(0,ops l),(3, .ptr 0 0 0),(4, .slc 4 0 v.length cp),(5,i64 k),(29,i64 l.length),(30,i64 k),(108,i64 v.length),(109,i64 m)]∧H=gA s2 (v++rs)) ?_ ?_
  rotate_left
  ·conv=>whnf
   exact at_head [some 0,some 1,some 2,some 3,some 4] (gA s2 (v++rs)) [(0,ops l),(3, .ptr 0 0 0),(4, .slc 4 0 v.length cp),(5,i64 k),(29,i64 l.length),(30,i64 k),(108,i64 v.length),(109,i64 (0:Nat))] ⟨fun j z hj=>absurd hj (Nat.not_lt_zero _),rfl,rfl⟩
  rintro m e H hmv ⟨hno,rfl,rfl⟩
  conv=>whnf
  generalize hqm:decide ((m:Int)<(v.length:Int))=qm
  cases qm
  case false=>
   have hfw:finW v x.name=v:=fin_none fun j z hz=>hno j z (by have:=of_decide_eq_false hqm;have:=(List.getElem?_eq_some_iff.1 hz).1;omega) hz
   rw[hfw]at hw3
   subst hw3
   conv=>whnf
   refine w_i64 (by omega) ?_
   conv=>whnf
   exact at_head [some 0,some 1,some 2,some 3,some 4] (gA s2 (w2++rs)) [(0,ops l),(3, .ptr 0 0 0),(4, .slc 4 0 w2.length cp),(29,i64 l.length),(30,i64 (k+1:Nat))] ⟨hk2,s2,w2,rs,cp,hg2,hwh,hcp,rfl,rfl⟩
  have hm2:m<v.length:=by have:=of_decide_eq_true hqm;omega
  have hgz:=List.getElem?_eq_getElem hm2
  generalize v[m]=z at hgz
  have hz':(v++rs)[((m:Nat):Int).toNat]? =some z:=by
   rw[←hgz];exact List.getElem?_append_left hm2
  conv=>whnf
  repeat((first|refine And.intro rfl ?_|refine kA1 ?_ _|refine kA2 ?_ _|refine k_row gmA ?_|refine k_cell gmA ?_|refine e_row gmA rfl ?_|refine k_el gmA (by omega) ?_|refine k_some gmA ?_|refine f_set _ rfl ?_|refine kA8 ?_);conv=>whnf)
  generalize hzn:decide (z.task=x.name)=bz
  cases bz
  case false=>
   conv=>whnf
   refine w_i64 (by omega) ?_
   conv=>whnf
   exact at_head [some 0,some 1,some 2,some 3,some 4] (gA s2 (v++rs)) [(0,ops l),(3, .ptr 0 0 0),(4, .slc 4 0 v.length cp),(5,i64 k),(29,i64 l.length),(30,i64 k),(108,i64 v.length),(109,i64 (m+1:Nat))] ⟨hm2,fun j q hj hq=>by
    by_cases e:j=m
    ·subst e;rw[hgz]at hq;cases hq;exact of_decide_eq_false hzn
    ·exact hno j q (by omega) hq,rfl,rfl⟩
  have hfw:finW v x.name=v.eraseIdx m:=fin_some hgz (of_decide_eq_true hzn) hno
  rw[hfw]at hw3
  conv=>whnf
  repeat((first|refine And.intro rfl ?_|refine kA1 ?_ _|refine kA2 ?_ _|refine k_row gmA ?_|refine k_cell gmA ?_|refine e_row gmA rfl ?_|refine k_el gmA (by omega) ?_|refine k_some gmA ?_|refine f_set _ rfl ?_|refine kA8 ?_);conv=>whnf)
  refine k_eq (sl_del (rs:=(v++rs).map acA) rfl (hcp.imp And.left id) (by simp) (by omega) (by omega)) ?_
  conv=>whnf
  refine w_as ((m+1:Nat):Int) (by omega) (by omega) ?_
  conv=>whnf
  refine k_eq (sl_rest (rs:=(v++rs).map acA) rfl (hcp.imp And.left id) (by simp) (by omega) (by omega)) ?_
  conv=>whnf
  repeat((first|refine And.intro rfl ?_|refine e_el gmA (by omega) ?_|refine And.intro (by simp;done) ?_);conv=>whnf)
  refine app_cut (f:=acA) (l:=v++rs) (new:=v.drop (m+1)) rfl (view_o (l:=v++rs) rfl (by simp;omega) (by
   show v.drop (m+1)=((v++rs).drop (m+1)).take (v.length- (m+1))
   rw[List.drop_append_of_le_length (by omega),List.take_append_of_le_length (by simp),List.take_of_length_le (by simp)])) (by simp;omega) (by simp[roomBound];omega) (fun h1 h2=> ?_) (fun h1=> ?_)
  ·have hdl:v.length=m+1:=by have:=congrArg List.length h1;simp at this;omega
   have he:v.eraseIdx m=v.take m:=by rw[List.eraseIdx_eq_take_drop_succ,h1,List.append_nil]
   have hl0:(v.take m).length=m:=by simp;omega
   conv=>whnf
   refine w_i64 (by omega) ?_
   conv=>whnf
   exact at_head [some 0,some 1,some 2,some 3,some 4] (gA s2 (v.take m++ (v.drop m++rs))) [(0,ops l),(3, .ptr 0 0 0),(4, .slc 4 0 m (some m)),(29,i64 l.length),(30,i64 (k+1:Nat))] ⟨hk2,s2,v.take m,v.drop m++rs,some m,hg2,by rw[←he,←hw3];exact hwh, .inr (by rw[hl0]),by rw[hl0],rfl⟩ (hN:=by rw[←List.append_assoc,List.take_append_drop];exact autoH)
  ·have e2:(v++rs).take (m:Int).toNat++v.drop (m+1)=v.eraseIdx m:=by
    show(v++rs).take m++v.drop (m+1)=_
    rw[List.take_append_of_le_length (by omega),←List.eraseIdx_eq_take_drop_succ]
   have e3:(m:Int).toNat+ (v.drop (m+1)).length=(v.eraseIdx m).length:=by
    rw[List.length_eraseIdx_of_lt (by omega)];simp;omega
   rw[e2,e3]
   conv=>whnf
   refine w_i64 (by omega) ?_
   conv=>whnf
   exact at_head [some 0,some 1,some 2,some 3,some 5] (gA s2 (v.eraseIdx m)) [(0,ops l),(3, .ptr 0 0 0),(4, .slc 4 0 (v.eraseIdx m).length none),(29,i64 l.length),(30,i64 (k+1:Nat))] ⟨hk2,s2,v.eraseIdx m,[],none,hg2,by rw[←hw3];exact hwh, .inl ⟨rfl,rfl⟩,rfl,by rw[List.append_nil]⟩
 have hn2:n<a.acts.length:=by have:=of_decide_eq_true hqn;omega
 have hgy:=List.getElem?_eq_getElem hn2
 have hdr:=List.drop_eq_getElem_cons hn2
 have hy':a.acts[((n:Nat):Int).toNat]? =some a.acts[n]:=hgy
 generalize a.acts[n]=y at hgy hy' hdr
 rw[hdr]at hv
 obtain⟨u,hu,hv⟩:=actsW_cons hv
 conv=>whnf
 repeat((first|refine And.intro rfl ?_|refine kA1 ?_ _|refine kA2 ?_ _|refine k_row gmA ?_|refine k_cell gmA ?_|refine e_row gmA rfl ?_|refine k_el gmA (by omega) ?_|refine k_some gmA ?_|refine f_set _ rfl ?_|refine kA8 ?_);conv=>whnf)
 refine loop_to v.length (fun m e H=>∃c:Int,lastI (fun z:Ac=>decide (z.task=y.task)) (v.drop m) m c=atW v y.task∧e=[(0,ops l),(3, .ptr 0 0 0),(4, .slc 4 0 v.length cp),(5,i64 k),(6, .ptr 5 0 0),(8, .ptr 6 0 0),(9,i64 c),(29,i64 l.length),(30,i64 k),(41,i64 a.acts.length),(42,i64 n),(51,i64 v.length),(52,i64 m)]∧H=gC s2 (v++rs) a y) ?_ ?_
 rotate_left
 ·conv=>whnf
  exact at_head [some 0,some 1,some 2,some 3,some 4,some 5,some 6] (gC s2 (v++rs) a y) [(0,ops l),(3, .ptr 0 0 0),(4, .slc 4 0 v.length cp),(5,i64 k),(6, .ptr 5 0 0),(8, .ptr 6 0 0),(9,i64 (-1)),(29,i64 l.length),(30,i64 k),(41,i64 a.acts.length),(42,i64 n),(51,i64 v.length),(52,i64 (0:Nat))] ⟨-1,rfl,rfl,rfl⟩
 rintro m e H hmv ⟨c,hc,rfl,rfl⟩
 conv=>whnf
 generalize hqm:decide ((m:Int)<(v.length:Int))=qm
 cases qm
 case true=>
  have hm2:m<v.length:=by have:=of_decide_eq_true hqm;omega
  have hgz:=List.getElem?_eq_getElem hm2
  have hdz:=List.drop_eq_getElem_cons hm2
  generalize v[m]=z at hgz hdz
  have hz':(v++rs)[((m:Nat):Int).toNat]? =some z:=by
   rw[←hgz];exact List.getElem?_append_left hm2
  rw[hdz,lastI]at hc
  conv=>whnf
  repeat((first|refine And.intro rfl ?_|refine kA1 ?_ _|refine kA2 ?_ _|refine k_row gmA ?_|refine k_cell gmA ?_|refine e_row gmA rfl ?_|refine k_el gmA (by omega) ?_|refine k_some gmA ?_|refine f_set _ rfl ?_|refine kA8 ?_);conv=>whnf)
  generalize decide (z.task=y.task)=b at hc
  cases b<;>conv=>whnf
  ·rw[if_neg (by simp)]at hc
   refine w_i64 (by omega) ?_
   conv=>whnf
   exact at_head [some 0,some 1,some 2,some 3,some 4,some 5,some 6] (gC s2 (v++rs) a y) [(0,ops l),(3, .ptr 0 0 0),(4, .slc 4 0 v.length cp),(5,i64 k),(6, .ptr 5 0 0),(8, .ptr 6 0 0),(9,i64 c),(29,i64 l.length),(30,i64 k),(41,i64 a.acts.length),(42,i64 n),(51,i64 v.length),(52,i64 (m+1:Nat))] ⟨hm2,c,hc,rfl,rfl⟩
  ·rw[if_pos rfl]at hc
   refine w_i64 (by omega) ?_
   conv=>whnf
   exact at_head [some 0,some 1,some 2,some 3,some 4,some 5,some 6] (gC s2 (v++rs) a y) [(0,ops l),(3, .ptr 0 0 0),(4, .slc 4 0 v.length cp),(5,i64 k),(6, .ptr 5 0 0),(8, .ptr 6 0 0),(9,i64 m),(29,i64 l.length),(30,i64 k),(41,i64 a.acts.length),(42,i64 n),(51,i64 v.length),(52,i64 (m+1:Nat))] ⟨hm2,m,hc,rfl,rfl⟩
 rw[List.drop_eq_nil_of_le (by have:=of_decide_eq_false hqm;omega),lastI]at hc
 subst hc
 conv=>whnf
 rcases actW_cases hu with⟨hk1,hat,rfl⟩ | ⟨hk1,n0,y0,hat,hy0,hnd,rfl⟩
 ·rw[decide_eq_true hk1]
  conv=>whnf
  generalize hge:decide (0≤atW v y.task)=qe
  cases qe
  case true=>exact absurd (of_decide_eq_true hge) hat
  conv=>whnf
  repeat((first|refine And.intro rfl ?_|refine kA1 ?_ _|refine kA2 ?_ _|refine k_row gmA ?_|refine k_cell gmA ?_|refine e_row gmA rfl ?_|refine k_el gmA (by omega) ?_|refine k_some gmA ?_|refine f_set _ rfl ?_|refine kA8 ?_);conv=>whnf)
  refine app_cp (f:=acA) (l:=v) (rest:=rs) (new:=[y]) rfl hcp (view_o (l:=[y]) rfl (by simp) (by simp)) (by simp) (by simp[roomBound];omega) (fun o=> ?_)
  conv=>whnf
  refine w_i64 (by omega) ?_
  conv=>whnf
  exact at_head [some 0,some 1,some 2,some 3,some 8,some 5] (gB s2 (v++ [y]) a) [(0,ops l),(3, .ptr 0 0 0),(4, .slc 4 0 (v++ [y]).length none),(5,i64 k),(6, .ptr 5 0 0),(29,i64 l.length),(30,i64 k),(41,i64 a.acts.length),(42,i64 (n+1:Nat))] ⟨hn2,v++ [y],[],none,hv,by simp;omega, .inl ⟨rfl,rfl⟩,rfl,by rw[List.append_nil]⟩
 ·rw[decide_eq_false hk1]
  conv=>whnf
  rw[hat]
  have hn0:n0<v.length:=(List.getElem?_eq_some_iff.1 hy0).1
  have hz0:(v++rs)[((n0:Nat):Int).toNat]? =some y0:=by
   rw[←hy0];exact List.getElem?_append_left hn0
  generalize hlt:decide ((n0:Int)<0)=ql
  cases ql
  case true=>exact absurd (of_decide_eq_true hlt) (by omega)
  conv=>whnf
  repeat((first|refine And.intro rfl ?_|refine kA1 ?_ _|refine kA2 ?_ _|refine k_row gmA ?_|refine k_cell gmA ?_|refine e_row gmA rfl ?_|refine k_el gmA (by omega) ?_|refine k_some gmA ?_|refine f_set _ rfl ?_|refine kA8 ?_);conv=>whnf)
  rw[decide_eq_true hnd]
  conv=>whnf
  refine k_eq (sl_del (rs:=(v++rs).map acA) rfl (hcp.imp And.left id) (by simp) (by omega) (by omega)) ?_
  conv=>whnf
  refine w_as ((n0+1:Nat):Int) (by omega) (by omega) ?_
  conv=>whnf
  refine k_eq (sl_rest (rs:=(v++rs).map acA) rfl (hcp.imp And.left id) (by simp) (by omega) (by omega)) ?_
  conv=>whnf
  repeat((first|refine And.intro rfl ?_|refine e_el gmA (by omega) ?_|refine And.intro (by simp;done) ?_);conv=>whnf)
  refine app_cut (f:=acA) (l:=v++rs) (new:=v.drop (n0+1)) rfl (view_o (l:=v++rs) rfl (by simp;omega) (by
   show v.drop (n0+1)=((v++rs).drop (n0+1)).take (v.length- (n0+1))
   rw[List.drop_append_of_le_length (by omega),List.take_append_of_le_length (by simp),List.take_of_length_le (by simp)])) (by simp;omega) (by simp[roomBound];omega) (fun h1 h2=> ?_) (fun h1=> ?_)
  ·have hdl:v.length=n0+1:=by have:=congrArg List.length h1;simp at this;omega
   have he:v.eraseIdx n0=v.take n0:=by rw[List.eraseIdx_eq_take_drop_succ,h1,List.append_nil]
   have hl0:(v.take n0).length=n0:=by simp;omega
   conv=>whnf
   refine w_i64 (by omega) ?_
   conv=>whnf
   exact at_head [some 0,some 1,some 2,some 3,some 4,some 5] (gB s2 (v.take n0++ (v.drop n0++rs)) a) [(0,ops l),(3, .ptr 0 0 0),(4, .slc 4 0 n0 (some n0)),(5,i64 k),(6, .ptr 5 0 0),(29,i64 l.length),(30,i64 k),(41,i64 a.acts.length),(42,i64 (n+1:Nat))] ⟨hn2,v.take n0,v.drop n0++rs,some n0,by rw[←he];exact hv,by rw[hl0];omega, .inr (by rw[hl0]),by rw[hl0],rfl⟩ (hN:=by rw[←List.append_assoc,List.take_append_drop];exact autoH)
  ·have e2:(v++rs).take (n0:Int).toNat++v.drop (n0+1)=v.eraseIdx n0:=by
    show(v++rs).take n0++v.drop (n0+1)=_
    rw[List.take_append_of_le_length (by omega),←List.eraseIdx_eq_take_drop_succ]
   have e3:(n0:Int).toNat+ (v.drop (n0+1)).length=(v.eraseIdx n0).length:=by
    rw[List.length_eraseIdx_of_lt (by omega)];simp;omega
   rw[e2,e3]
   conv=>whnf
   refine w_i64 (by omega) ?_
   conv=>whnf
   exact at_head [some 0,some 1,some 2,some 3,some 7,some 5] (gB s2 (v.eraseIdx n0) a) [(0,ops l),(3, .ptr 0 0 0),(4, .slc 4 0 (v.eraseIdx n0).length none),(5,i64 k),(6, .ptr 5 0 0),(29,i64 l.length),(30,i64 k),(41,i64 a.acts.length),(42,i64 (n+1:Nat))] ⟨hn2,v.eraseIdx n0,[],none,hv,by rw[←e3];simp;omega, .inl ⟨rfl,rfl⟩,rfl,by rw[List.append_nil]⟩
end Go.Am.Pt
end
section
open Go Go.Am Go.Proofs
namespace Go.Am.Pt
abbrev Ones(l:List Ac):Prop:=∀a∈l,a.kind=1
theorem Ones.app {a b:List Ac}(h:Ones (a++b)):Ones a∧Ones b:=⟨fun x hx=>h x (List.mem_append_left _ hx),fun x hx=>h x (List.mem_append_right _ hx)⟩
theorem mv_bound {js js':List Jb}{l:List Ac}(h:Mv js l js'):Ones l→∀ {p:Nat} {x:Jb},js[p]? =some x→x.node≠⟨#[]⟩→∃y,js'[p]? =some y∧y.node≠⟨#[]⟩:=by
 intro hl p x hx hn
 induction h with
 |refl=>exact⟨x,hx,hn⟩
 | @bind _ _ q z n h0 h1 h2 h3 ih=>
   obtain⟨y,hy,k⟩:=ih hl.app.1
   refine⟨y, ?_,k⟩
   rw[List.getElem?_set_ne]
   ·exact hy
   ·rintro rfl
    rw[h1]at hy
    cases hy
    exact k h2
 | @free _ _ q z k h0 h1 h2 h3 ih=>
   have:=hl.app.2 _ (List.mem_singleton.2 rfl)
   simp only at this
   omega
theorem why_get2 {m:Mc}{l:List Jb}{t:Tk}(h:whyF m l t=0):nodeB m.node=true∧taskB t=true:=by
 unfold whyF at h
 split at h
 ·exact absurd h (by decide)
 ·split at h
  ·exact absurd h (by decide)
  ·split at h
   ·exact absurd h (by decide)
   ·rename_i h1 h2 h3
    exact⟨by simpa using h2,by simpa using h3⟩
theorem why_unbind {js:List Jb}(hr:∀j∈js,rightB j.task.need=true){p:Nat}{x:Jb}(hx:js[p]? =some x)(h0:x.node=⟨#[]⟩){n:ByteArray}(hn:n≠⟨#[]⟩){m:Mc}(hne:m.node.name≠⟨#[]⟩){t:Tk}(h:whyF m (js.set p (bindJ n x)) t=0):whyF m js t=0:=by
 obtain⟨w1,w2,w3,w4,w5⟩:=why_get h
 obtain⟨v1,v2⟩:=why_get2 h
 have hcap:rightB m.node.cap=true:=by
  simp only[nodeB,Bool.and_eq_true]at v1
  exact v1.1.2
 have hr':∀j∈js.set p (bindJ n x),rightB j.task.need=true:=tkS_mem (P:=fun t=>rightB t.need=true) (tkS_set hx (bindJ n x) rfl rfl) hr
 obtain⟨f1,f2⟩:=free_iff (m:=m) hcap hr'
 obtain⟨g1,g2⟩:=free_iff (m:=m) hcap hr
 have hl:=f1.1 w1
 have hf:=f2 w1
 have hld:leR (loadR m.node.name js) (loadR m.node.name (js.set p (bindJ n x))):=by
  rw[load_bind hx h0 hn hne]
  have:=rightB_iff.1 (hr x (List.mem_of_getElem? hx))
  split
  ·unfold leR addV;simp only;omega
  ·unfold leR;omega
 have z:=g1.2 (hld.trans hl)
 refine why_zero v1 v2 z w2 w3 ?_ ?_
 ·refine decide_eq_false fun k=> ?_
  have hno:=idxB_no (p:=bothB m t) (l:=js.set p (bindJ n x)) (of_decide_eq_false w4)
  have hno2:∀j y,j<js.length→js[j]? =some y→bothB m t y=false:=fun j y _ hy=>by
   by_cases e:j=p
   ·subst e
    rw[hx]at hy
    cases hy
    unfold bothB
    rw[decide_eq_false (show¬x.node=m.node.name from fun q=>hne (q.symm.trans h0))]
    simp
   ·exact hno y (List.mem_of_getElem? (i:=j) (by rw[List.getElem?_set_ne (fun q=>e q.symm)];exact hy))
  rw[show idxB (bothB m t) js= -1 from idxB_none hno2]at k
  omega
 ·have:=fitsB_iff.1 w5
  rw[hf]at this
  rw[fitsB_iff,g2 z]
  unfold leR at*
  simp only at this⊢
  omega
theorem mv_why {js js':List Jb}{l:List Ac}(h:Mv js l js'):Ones l→(∀j∈js,rightB j.task.need=true)→∀ {m:Mc},m.node.name≠⟨#[]⟩→∀ {t:Tk},whyF m js' t=0→whyF m js t=0:=by
 intro hl hr m hne t hw
 induction h with
 |refl=>exact hw
 | @bind _ _ q z n h0 h1 h2 h3 ih=>
   exact ih hl.app.1 (why_unbind (tkS_mem (P:=fun t=>rightB t.need=true) (mv_tk h0) hr) h1 h2 h3 hne hw)
 | @free _ _ q z k h0 h1 h2 h3 ih=>
   have:=hl.app.2 _ (List.mem_singleton.2 rfl)
   simp only at this
   omega
theorem best_none {ms:List Mc}{js:List Jb}{t:Tk}(h:¬ (bestF ms js t).2=true):∀m∈ms,whyF m js t≠0:=by
 intro m hm hw
 unfold bestF at h
 cases e:allF ms js t with
 |cons a l=>rw[e]at h;exact h rfl
 |nil=>
  have h1:scoredF ms js t=[]:=List.length_eq_zero_iff.1 (by rw[←srt_len ordS];unfold allF at e;rw[e];rfl)
  have:=List.filterMap_eq_nil_iff.1 h1 m hm
  unfold scoreF at this
  rw[if_pos hw]at this
  simp at this
theorem oustL_acts(nm:ByteArray):∀ (vs:List ByteArray) (js:List Jb) (ac:List Ac),(oustL nm js ac vs).2=ac++vs.map fun v=>⟨2,v,nm⟩
 | [],js,ac=>by simp[oustL]
 |v::vs,js,ac=>by unfold oustL;rw[oustL_acts nm vs];simp
theorem kinds_try(ms:List Mc):∀ (u:List Nat) (js:List Jb) (ac:List Ac) (js':List Jb) (ac':List Ac),tryF ms js ac u=some (js',ac')→Ones ac→Ones ac'
 | [],js,ac,js',ac',h,k=>by
   simp only[tryF,Option.some.injEq,Prod.mk.injEq]at h
   rw[←h.2];exact k
 |p::u,js,ac,js',ac',h,k=>by
  unfold tryF at h
  split at h
  ·cases h
  ·split at h
   ·refine kinds_try ms u _ _ _ _ h fun a ha=> ?_
    rcases List.mem_append.1 ha with ha|ha
    ·exact k a ha
    ·rw[List.mem_singleton.1 ha]
   ·cases h
theorem kinds_unit(s:St)(u:List Nat):∀a∈(unitG s u).1,a.kind=1∨a.kind=2:=by
 unfold unitG tryG
 cases e:tryF s.machines s.jobs [] u with
 |some r=>
  intro a ha
  exact .inl (kinds_try s.machines u s.jobs [] _ _ e (fun _ h=>nomatch h) a ha)
 |none=>
  simp only[Bool.false_eq_true,if_false]
  split
  ·simp
  ·split
   ·simp
   ·split
    ·unfold oustG
     split
     ·simp
     ·split
      ·split
       ·simp
       ·intro a ha
        simp only[oustL_acts,List.nil_append]at ha
        rcases List.mem_append.1 ha with ha|ha
        ·obtain⟨v,_,rfl⟩:=List.mem_map.1 ha
         exact .inr rfl
        ·rw[List.mem_singleton.1 ha];exact .inl rfl
      ·simp
    ·simp
theorem kinds_pass:∀ (us:List (List Nat)) (s:St) (ac:List Ac),(∀a∈ac,a.kind=1∨a.kind=2)→∀a∈(passL s ac us).1,a.kind=1∨a.kind=2
 | [],s,ac,h=>h
 |u::us,s,ac,h=>by
  unfold passL
  refine kinds_pass us _ _ fun a ha=> ?_
  rcases List.mem_append.1 ha with ha|ha
  ·exact h a ha
  ·exact kinds_unit s u a ha
theorem passL_app(us:List (List Nat)):∀ (s:St) (ac:List Ac),(passL s ac us).1=ac++ (passL s [] us).1∧(passL s ac us).2=(passL s [] us).2:=by
 induction us with
 |nil=>intro s ac;exact⟨(List.append_nil _).symm,rfl⟩
 |cons u us ih=>
  intro s ac
  unfold passL
  obtain⟨h1,h2⟩:=ih (unitG s u).2 (ac++ (unitG s u).1)
  obtain⟨h3,h4⟩:=ih (unitG s u).2 ([]++ (unitG s u).1)
  exact⟨by rw[h1,h3];simp,by rw[h2,h4]⟩
theorem unit_leaves {s:St}{p:Nat}{ps:List Nat}(h:PI s (p::ps)){x:Jb}(hx:s.jobs[p]? =some x)(hg:x.task.gang=⟨#[]⟩)(ho:Ones (unitG s [p]).1):(∃y,(unitG s [p]).2.jobs[p]? =some y∧y.node≠⟨#[]⟩)∨((unitG s [p]).2=s∧∀m∈s.machines,whyF m s.jobs x.task≠0):=by
 have hp:=(List.getElem?_eq_some_iff.1 hx).1
 obtain⟨y,hy,h0,_⟩:=h.w p (by simp)
 rw[hx]at hy
 cases hy
 unfold unitG tryG tryF tryF at ho⊢
 simp only[hx]at ho⊢
 by_cases hb:(bestF s.machines s.jobs x.task).2=true
 ·rw[if_pos hb]at ho⊢
  obtain⟨m,hm,e1,_⟩:=best_in hb
  refine .inl ⟨bindJ (bestF s.machines s.jobs x.task).1 x, ?_, ?_⟩
  ·simp only[if_true]
   show(s.jobs.set p _)[p]? =_
   rw[List.getElem?_set_self hp]
  ·rw[←e1];exact node_ne h.g m hm
 ·rw[if_neg hb]at ho⊢
  have hn:=best_none hb
  simp only[Bool.false_eq_true,if_false,if_pos hg]at ho⊢
  refine .inr ⟨?_,hn⟩
  unfold oustG at ho⊢
  simp only[hx]at ho⊢
  by_cases hc:(chooseF s.machines s.jobs x.task).2.2=true
  ·exfalso
   rw[if_pos hc]at ho
   obtain⟨m,hm,e1,e2,e3⟩:=choose_in hc
   obtain⟨l1,hl,sub,pw,k0,_⟩:=gone_in h.g hm e2 []
   rw[←e1,e3,hl]at ho
   obtain⟨_,_,_,g4,_⟩:=oust_pi (node_ne h.g m hm) l1 s [] h.g (fun j hj=>⟨(sub j hj).1,(sub j hj).2.1⟩) pw
   rw[g4 p x hx h0]at ho
   simp only[oustL_acts]at ho
   cases l1 with
   |nil=>exact hn m hm (k0 rfl)
   |cons j l=>
    have:=ho ⟨2,j.task.name,m.node.name⟩ (by simp[namesF])
    simp only at this
    omega
  ·rw[if_neg hc]
theorem pass_leaves {p:Nat}:∀ (us:List (List Nat)) (s:St),PI s us.flatten→[p]∈us→∀ {x:Jb},s.jobs[p]? =some x→x.task.gang=⟨#[]⟩→Ones (passL s [] us).1→∀ {y:Jb},(passL s [] us).2.jobs[p]? =some y→y.node=⟨#[]⟩→∀m∈s.machines,whyF m (passL s [] us).2.jobs y.task≠0
 | [],s,h,hm,_,_,_,_,_,_,_=>by simp at hm
 |u::us,s,h,hm,x,hx,hg,ho,y,hy,h0=>by
  rw[List.flatten_cons]at h
  obtain⟨k1,k2⟩:=unit_pi h
  obtain⟨_,b,p2,p3⟩:=pass_pi us (unitG s u).2 [] k1
  obtain⟨a1,a2⟩:=passL_app us (unitG s u).2 ([]++ (unitG s u).1)
  unfold passL at ho hy⊢
  rw[a1]at ho
  rw[a2]at hy⊢
  have o1:Ones (unitG s u).1:=by have:=ho.app.1;simpa using this
  have o2:=ho.app.2
  rw[List.nil_append]at p2
  have tk:(unitG s u).2.machines=s.machines:=(unitG_keeps s u).1.ms
  have key:∀ {z:Jb},(unitG s u).2.jobs[p]? =some z→y.task=z.task:=fun {z} hz=>by
   have e:=mv_tk p3
   have h1:(tkS (passL (unitG s u).2 [] us).2.jobs)[p]? =some (y.task,y.seq):=by rw[List.getElem?_map,hy];rfl
   rw[e,List.getElem?_map,hz]at h1
   simp only[Option.map_some,Option.some.injEq,Prod.mk.injEq]at h1
   exact h1.1.symm
  by_cases e:u=[p]
  ·subst e
   rcases unit_leaves h hx hg o1 with⟨z,hz,hzn⟩ | ⟨e1,e2⟩
   ·obtain⟨y',hy',q⟩:=mv_bound p3 (by rw[←p2];exact o2) hz hzn
    rw[hy]at hy'
    cases hy'
    exact absurd h0 q
   ·have:=key (z:=x) (by rw[e1];exact hx)
    intro m hm hw
    refine e2 m hm ?_
    rw[this]at hw
    rw[e1]at p3 hw p2 o2
    exact mv_why p3 (by rw[←p2];exact o2) (need_right h.g) (node_ne h.g m hm) hw
  ·have hm': [p]∈us:=by
    rcases List.mem_cons.1 hm with k|k
    ·exact absurd k.symm e
    ·exact k
   obtain⟨z,hz⟩:∃z,(unitG s u).2.jobs[p]? =some z:=⟨_,List.getElem?_eq_getElem (by
    have:=(unitG_keeps s u).1.jl
    have:=(List.getElem?_eq_some_iff.1 hx).1
    omega)⟩
   have ez:z.task=x.task:=by
    have e:=mv_tk k2
    have h1:(tkS (unitG s u).2.jobs)[p]? =some (z.task,z.seq):=by rw[List.getElem?_map,hz];rfl
    rw[e,List.getElem?_map,hx]at h1
    simp only[Option.map_some,Option.some.injEq,Prod.mk.injEq]at h1
    exact h1.1.symm
   have:=pass_leaves us (unitG s u).2 k1 hm' hz (by rw[ez];exact hg) o2 hy h0
   rw[tk]at this
   exact this
theorem tick_leaves {s:St}(h:Good s)(he:(tickG s).1.err=0)(hk:∀a∈(tickG s).1.acts,a.kind≠2):∀j∈(tickG s).2.jobs,j.node=⟨#[]⟩→j.task.gang=⟨#[]⟩→∀m∈(tickG s).2.machines,whyF m (tickG s).2.jobs j.task≠0:=by
 have hi:=h.inv.j
 unfold tickG at he hk⊢
 split
 ·rename_i hc
  rw[if_pos hc]at he
  exact absurd he (by simp)
 ·rename_i hc
  rw[if_neg hc]at hk
  have hp:=tick_pi h hc
  generalize(expL (ckS s) [] (List.range s.machines.length)).1=ea at hk
  generalize(expL (ckS s) [] (List.range s.machines.length)).2=t at hp hk
  simp only at hk⊢
  have ho:Ones (passL t [] (unitsF t.jobs)).1:=fun a ha=>by
   rcases kinds_pass (unitsF t.jobs) t [] (by simp) a ha with k|k
   ·exact k
   ·exact absurd k (hk a (List.mem_append_right _ ha))
  intro j hj h0 hg
  obtain⟨p,hj⟩:=List.getElem?_of_mem hj
  obtain⟨_,b,p2,p3⟩:=pass_pi (unitsF t.jobs) t [] hp
  rw[List.nil_append]at p2
  have hms:(passG t).2.machines=t.machines:=(passG_keeps t (by have:=hp.g.inv.j;omega)).1.ms
  rw[hms]
  have hlen:t.jobs.length=(passG t).2.jobs.length:=by
   have:=congrArg List.length (mv_tk p3)
   simp only[List.length_map]at this
   exact this.symm
  obtain⟨x,hx⟩:∃x,t.jobs[p]? =some x:=⟨_,List.getElem?_eq_getElem (by
   have:=(List.getElem?_eq_some_iff.1 hj).1
   omega)⟩
  have ex:j.task=x.task:=by
   have e:=mv_tk p3
   have h1:(tkS (passL t [] (unitsF t.jobs)).2.jobs)[p]? =some (j.task,j.seq):=by rw[List.getElem?_map];unfold passG at hj;rw[hj];rfl
   rw[e,List.getElem?_map,hx]at h1
   simp only[Option.map_some,Option.some.injEq,Prod.mk.injEq]at h1
   exact h1.1.symm
  have hx0:x.node=⟨#[]⟩:=by
   by_cases e:x.node=⟨#[]⟩
   ·exact e
   ·obtain⟨y,hy,k⟩:=mv_bound p3 (by rw[←p2];exact ho) hx e
    unfold passG at hj
    rw[hj]at hy
    cases hy
    exact absurd h0 k
  have hu: [p]∈unitsF t.jobs:=by
   have hpl:p∈plF t.jobs t.jobs.length:=List.mem_filter.2 ⟨List.mem_range.2 (List.getElem?_eq_some_iff.1 hx).1,by unfold waitsP;rw[hx];exact decide_eq_true hx0⟩
   refine List.mem_filterMap.2 ⟨p,(srt_perm _ _).symm.subset hpl, ?_⟩
   unfold unit1
   rw[hx]
   simp only
   rw[if_pos (by rw[←ex];exact hg)]
  exact pass_leaves (unitsF t.jobs) t hp hu hx (by rw[←ex];exact hg) ho hj h0
theorem len64_ok:AC PR 153 [.int .u64 0] [] (i64 0) []:=by
 apply A153
 conv=>whnf
 repeat((first|refine kA9 ?_|refine kA8 ?_);conv=>whnf)
 refine w_id (by kernel_rfl) ?_
 conv=>whnf
 refine w_as 0 (by kernel_rfl) (by omega) ?_
 conv=>whnf
 repeat((first|refine kA9 ?_|refine kA8 ?_);conv=>whnf)
 exact at_end []
theorem blen_ok:AC PR 118 [.int .u64 0] [] (i64 0) []:=by
 apply A118
 conv=>whnf
 refine call_closed len64_ok ?_
 conv=>whnf
 exact at_end []
theorem insert0_ok:AC PR 143 [.nilslc,i64 0,i64 0] [] (.tuple []) []:=by
 apply A143
 conv=>whnf
 repeat((first|refine kA9 ?_|refine kA8 ?_);conv=>whnf)
 refine loop_un 1 ?_
 conv=>whnf
 repeat((first|refine kA9 ?_|refine kA8 ?_);conv=>whnf)
 exact at_end []
theorem pdq0_ok:AC PR 117 [.nilslc,i64 0,i64 0,i64 0] [] (.tuple []) []:=by
 apply A117
 conv=>whnf
 repeat((first|refine kA9 ?_|refine kA8 ?_);conv=>whnf)
 refine loop_un 1 ?_
 conv=>whnf
 repeat((first|refine kA9 ?_|refine kA8 ?_);conv=>whnf)
 refine call_closed insert0_ok ?_
 conv=>whnf
 exact at_end []
theorem sort0_ok:AC PR 73 [.nilslc] [] (.tuple []) []:=by
 apply A73
 conv=>whnf
 refine w_u64 (by omega) ?_
 conv=>whnf
 refine call_closed blen_ok ?_
 conv=>whnf
 refine call_closed pdq0_ok ?_
 conv=>whnf
 exact at_end []
theorem allNone_ok(ms:List Mc)(jobs:List Jb)(t:Tk)(hl:(jobs.length:Int)≤1000000)(hms:ms.length<100)(hml:∀m∈ms,(m.node.labels.length:Int)≤1000000)(htl:(t.wants.length:Int)≤1000000)(hw:∀m∈ms,whyF m jobs t≠0):AC PR 30 [mcs ms,jbs jobs,tkA t] [] .nilslc []:=by
 have hm:(ms.map mcA).length=ms.length:=List.length_map ..
 apply A30
 conv=>whnf
 rw[hm]
 refine loop_to ms.length (fun k e H=>e=[(1,jbs jobs),(5, .ptr 0 0 0),(7, .nilslc),(10,mcs ms),(11,i64 ms.length),(12,i64 k)]∧H=[some (.rows 47 10 [tkA t])]) ?_ ?_
 rotate_left
 ·conv=>whnf
  exact at_head [some 0] [some (.rows 47 10 [tkA t])] [(1,jbs jobs),(5, .ptr 0 0 0),(7, .nilslc),(10,mcs ms),(11,i64 ms.length),(12,i64 (0:Nat))] ⟨rfl,rfl⟩
 rintro k e H hk ⟨rfl,rfl⟩
 conv=>whnf
 generalize hq:decide ((k:Int)<(ms.length:Int))=q
 cases q
 case false=>
  conv=>whnf
  refine call_closed sort0_ok ?_
  conv=>whnf
  exact at_end []
 have hk2:k<ms.length:=by have:=of_decide_eq_true hq;omega
 have hgo:=List.getElem?_eq_getElem hk2
 have hx':ms[((k:Nat):Int).toNat]? =some ms[k]:=hgo
 have hxm:ms[k]∈ms:=List.getElem_mem _
 generalize ms[k]=x at hgo hx' hxm
 have c1:=why_ok x jobs t hl (hml x hxm) htl
 have hne:=hw x hxm
 generalize whyF x jobs t=r at c1 hne
 conv=>whnf
 repeat((first|refine And.intro rfl ?_|refine kA1 ?_ _|refine kA2 ?_ _|refine k_row gmA ?_|refine k_cell gmA ?_|refine e_row gmA rfl ?_|refine k_el gmA (by omega) ?_|refine k_some gmA ?_|refine f_set _ rfl ?_|refine kA8 ?_);conv=>whnf)
 refine call_closed c1 ?_
 conv=>whnf
 rw[decide_eq_false hne]
 conv=>whnf
 refine w_i64 (by omega) ?_
 conv=>whnf
 exact at_head [some 0] [some (.rows 47 10 [tkA t])] [(1,jbs jobs),(5, .ptr 0 0 0),(7, .nilslc),(10,mcs ms),(11,i64 ms.length),(12,i64 (k+1:Nat))] ⟨hk2,rfl,rfl⟩
def opT:Op':=⟨9,⟨⟨#[]⟩,⟨0,0,0⟩,[]⟩,⟨⟨#[]⟩,⟨0,0,0⟩⟩,⟨⟨#[]⟩,⟨#[]⟩,0,⟨0,0,0⟩,[],⟨#[]⟩,⟨#[]⟩,0⟩,⟨#[]⟩⟩
theorem opT_r:opR opT=true:=by kernel_rfl
theorem opT_B:OpB opT:=⟨by decide,by decide,by decide,by decide,by decide,by decide,by decide,by decide,by decide⟩
theorem opT_s:smallB opT=true:=by kernel_rfl
theorem do_tick {s:St}(h:Inv s):doG s opT=tickG s:=by
 unfold doG
 rw[if_pos opT_r,nxS_inv h]
 unfold doK
 rw[if_neg (by decide),if_neg (by decide),if_neg (by decide),if_neg (by decide),if_neg (by decide),if_neg (by decide)]
 exact if_pos rfl
theorem lawLeaves_ok(l:List Op')(hl:(l.length:Int)≤1048576)(hz:∀o∈l,OpB o):AC PR 11 [ops l] [] (.bool true) []:=by
 have hm:(l.map opE).length=l.length:=List.length_map ..
 have cf:=few_ok l hl hz
 have hall:= @fewB_all l
 generalize fewB l=q at cf hall
 apply A11
 conv=>whnf
 refine call_closed awake_ok ?_
 conv=>whnf
 repeat(first
  | (refine And.intro rfl ?_;conv=>whnf))
 refine call_closed cf ?_
 conv=>whnf
 cases q
 case false=>
  conv=>whnf
  refine call_closed awake_ok ?_
  conv=>whnf
  exact at_end []
 obtain⟨h150,hsm⟩:=hall rfl
 conv=>whnf
 refine call_fr (R:= .ptr 0 0 0) [] [] [gRw 1 2 3 St.new,rowsM [],rowsQ [],rowsJ []] new_ok ?_
 conv=>whnf
 rw[hm]
 refine loop_to l.length (fun k e H=>∃s:St,Good s∧e=[(0,ops l),(3, .ptr 0 0 0),(22,i64 l.length),(23,i64 k)]∧H=[gRw 1 2 3 s,rowsM s.machines,rowsQ s.queues,rowsJ s.jobs]) ?_ ?_
 rotate_left
 ·conv=>whnf
  exact at_head [some 0,some 1,some 2,some 3] [gRw 1 2 3 St.new,rowsM [],rowsQ [],rowsJ []] [(0,ops l),(3, .ptr 0 0 0),(22,i64 l.length),(23,i64 (0:Nat))] ⟨St.new,good_new,rfl,rfl⟩
 rintro k e H hk ⟨s,hg,rfl,rfl⟩
 conv=>whnf
 generalize hq:decide ((k:Int)<(l.length:Int))=q
 cases q
 case true=>
  have hk2:k<l.length:=by have:=of_decide_eq_true hq;omega
  have hgo:=List.getElem?_eq_getElem hk2
  have hx':l[((k:Nat):Int).toNat]? =some l[k]:=hgo
  have hxm:l[k]∈l:=List.getElem_mem _
  generalize l[k]=x at hgo hx' hxm
  obtain⟨d1,hg2,_⟩:=do_good hg (hz x hxm) (hsm x hxm)
  generalize doG s x=d at d1 hg2
  obtain⟨a,s2⟩:=d
  simp only at d1 hg2
  conv=>whnf
  repeat((first|refine And.intro rfl ?_|refine kA1 ?_ _|refine kA2 ?_ _|refine k_row gmA ?_|refine k_cell gmA ?_|refine e_row gmA rfl ?_|refine k_el gmA (by omega) ?_|refine k_some gmA ?_|refine f_set _ rfl ?_|refine kA8 ?_);conv=>whnf)
  refine call_fr (R:=anA a) [0,1,2,3] [] [gRw 4 5 6 s2,none,none,none,rowsM s2.machines,rowsQ s2.queues,rowsJ s2.jobs] d1 ?_
  conv=>whnf
  refine w_i64 (by omega) ?_
  conv=>whnf
  exact at_head [some 0,some 4,some 5,some 6] [gRw 1 2 3 s2,rowsM s2.machines,rowsQ s2.queues,rowsJ s2.jobs] [(0,ops l),(3, .ptr 0 0 0),(22,i64 l.length),(23,i64 (k+1:Nat))] ⟨hk2,s2,hg2,rfl,rfl⟩
 obtain⟨d1,hg2,_⟩:=do_good hg opT_B opT_s
 have hal:=doG_acts hg.inv opT
 have hlv:= @tick_leaves s hg
 rw[do_tick hg.inv]at d1 hg2 hal
 have he6:(tickG s).1.err=0∨(tickG s).1.err=6:=by
  unfold tickG
  split
  ·exact .inr rfl
  ·exact .inl rfl
 generalize tickG s=d at d1 hg2 hal hlv he6
 obtain⟨a,s2⟩:=d
 simp only at d1 hg2 hal hlv he6
 conv=>whnf
 refine call_fr (R:=anA a) [0,1,2,3] [] [gRw 4 5 6 s2,none,none,none,rowsM s2.machines,rowsQ s2.queues,rowsJ s2.jobs] d1 ?_
 conv=>whnf
 rcases he6 with he|he
 case inr=>
  rw[he]
  conv=>whnf
  exact at_end []
 rw[he]
 conv=>whnf
 have hma:(a.acts.map acA).length=a.acts.length:=List.length_map ..
 rw[hma]
 refine loop_to a.acts.length (fun i e H=>(∀ (j:Nat) (z:Ac),j<i→a.acts[j]? =some z→z.kind≠2)∧e=[(3, .ptr 0 0 0),(5, .ptr 4 0 0),(44,i64 a.acts.length),(45,i64 i)]∧H=[gRw 1 2 3 s2,rowsM s2.machines,rowsQ s2.queues,rowsJ s2.jobs,some (.rows 36 2 [anA a])]) ?_ ?_
 rotate_left
 ·conv=>whnf
  exact at_head [some 0,some 4,some 5,some 6,some 7] [gRw 1 2 3 s2,rowsM s2.machines,rowsQ s2.queues,rowsJ s2.jobs,some (.rows 36 2 [anA a])] [(3, .ptr 0 0 0),(5, .ptr 4 0 0),(44,i64 a.acts.length),(45,i64 (0:Nat))] ⟨fun j z hj=>absurd hj (Nat.not_lt_zero _),rfl,rfl⟩
 rintro i e H hi ⟨hno,rfl,rfl⟩
 conv=>whnf
 generalize hqi:decide ((i:Int)<(a.acts.length:Int))=qi
 cases qi
 case true=>
  have hi2:i<a.acts.length:=by have:=of_decide_eq_true hqi;omega
  have hgy:=List.getElem?_eq_getElem hi2
  have hy':a.acts[((i:Nat):Int).toNat]? =some a.acts[i]:=hgy
  generalize a.acts[i]=y at hgy hy'
  conv=>whnf
  repeat((first|refine And.intro rfl ?_|refine kA1 ?_ _|refine kA2 ?_ _|refine k_row gmA ?_|refine k_cell gmA ?_|refine e_row gmA rfl ?_|refine k_el gmA (by omega) ?_|refine k_some gmA ?_|refine f_set _ rfl ?_|refine kA8 ?_);conv=>whnf)
  generalize hy2:decide (y.kind=2)=b
  cases b
  case true=>
   conv=>whnf
   exact at_end []
  conv=>whnf
  refine w_i64 (by omega) ?_
  conv=>whnf
  exact at_head [some 0,some 1,some 2,some 3,some 4] [gRw 1 2 3 s2,rowsM s2.machines,rowsQ s2.queues,rowsJ s2.jobs,some (.rows 36 2 [anA a])] [(3, .ptr 0 0 0),(5, .ptr 4 0 0),(44,i64 a.acts.length),(45,i64 (i+1:Nat))] ⟨hi2,fun j z hj hz=>by
   by_cases e:j=i
   ·subst e;rw[hgy]at hz;cases hz;exact of_decide_eq_false hy2
   ·exact hno j z (by omega) hz,rfl,rfl⟩
 have hlv2:=hlv he fun z hz=>by
  obtain⟨j,hj⟩:=List.getElem?_of_mem hz
  exact hno j z (by have:=of_decide_eq_false hqi;have:=(List.getElem?_eq_some_iff.1 hj).1;omega) hj
 have cs:=state_ok s2 hg2.inv.fits.w.toStSz (by have:=hg2.inv.n0;omega)
 have hmj:(s2.jobs.map jbA).length=s2.jobs.length:=List.length_map ..
 have hjx:=hg2.inv.j
 have hmx:=hg2.inv.m
 conv=>whnf
 refine call_fr (R:=stA s2) [0,1,2,3] [] [gRw 1 2 3 s2,rowsM s2.machines,rowsQ s2.queues,rowsJ s2.jobs] cs ?_
 conv=>whnf
 rw[hmj]
 refine loop_to s2.jobs.length (fun i e H=>e=[(7, .ptr 0 0 0),(60,i64 s2.jobs.length),(61,i64 i)]∧H=[some (.rows 31 5 [stA s2])]) ?_ ?_
 rotate_left
 ·conv=>whnf
  exact at_head [some 5] [some (.rows 31 5 [stA s2])] [(7, .ptr 0 0 0),(60,i64 s2.jobs.length),(61,i64 (0:Nat))] ⟨rfl,rfl⟩
 rintro n e H hn ⟨rfl,rfl⟩
 conv=>whnf
 generalize hqn:decide ((n:Int)<(s2.jobs.length:Int))=qn
 cases qn
 case false=>
  conv=>whnf
  exact at_end []
 have hn2:n<s2.jobs.length:=by have:=of_decide_eq_true hqn;omega
 have hgj:=List.getElem?_eq_getElem hn2
 have hj':s2.jobs[((n:Nat):Int).toNat]? =some s2.jobs[n]:=hgj
 have hjm:s2.jobs[n]∈s2.jobs:=List.getElem_mem _
 generalize s2.jobs[n]=j at hgj hj' hjm
 have hlj:=hlv2 j hjm
 conv=>whnf
 repeat((first|refine And.intro rfl ?_|refine kA1 ?_ _|refine kA2 ?_ _|refine k_row gmA ?_|refine k_cell gmA ?_|refine e_row gmA rfl ?_|refine k_el gmA (by omega) ?_|refine k_some gmA ?_|refine f_set _ rfl ?_|refine kA8 ?_);conv=>whnf)
 generalize hb1:decide (j.node=⟨#[]⟩)=b1
 cases b1
 case false=>
  conv=>whnf
  refine w_i64 (by omega) ?_
  conv=>whnf
  exact at_head [some 0] [some (.rows 31 5 [stA s2])] [(7, .ptr 0 0 0),(60,i64 s2.jobs.length),(61,i64 (n+1:Nat))] ⟨hn2,rfl,rfl⟩
 conv=>whnf
 generalize hb2:decide (j.task.gang=⟨#[]⟩)=b2
 cases b2
 case false=>
  conv=>whnf
  refine w_i64 (by omega) ?_
  conv=>whnf
  exact at_head [some 0] [some (.rows 31 5 [stA s2])] [(7, .ptr 0 0 0),(60,i64 s2.jobs.length),(61,i64 (n+1:Nat))] ⟨hn2,rfl,rfl⟩
 have ca:=allNone_ok s2.machines s2.jobs j.task (by omega) (by omega) (fun m hm=>hg2.inv.l m hm) (hg2.inv.w j hjm) (hlj (of_decide_eq_true hb1) (of_decide_eq_true hb2))
 conv=>whnf
 refine call_closed ca ?_
 conv=>whnf
 refine w_i64 (by omega) ?_
 conv=>whnf
 exact at_head [some 0] [some (.rows 31 5 [stA s2])] [(7, .ptr 0 0 0),(60,i64 s2.jobs.length),(61,i64 (n+1:Nat))] ⟨hn2,rfl,rfl⟩
end Go.Am.Pt
end
