/- Part of the proof: what functions of the program compute, walked. No conditions. -/
import Derived.Test.YtejbmdnhchoilaaGreatM23
import Derived.Test.YtejbmdnhchoilaaGreatP08
import Derived.Test.YtejbmdnhchoilaaGreatShelfB
set_option linter.unusedVariables false
set_option linter.unusedSimpArgs false
set_option maxRecDepth 100000
section
open Go Go.Am Go.Proofs
namespace Go.Am.Pt
theorem unitsB(jobs:List Jb)(pl:List Nat)(hp:∀p∈pl,p<jobs.length)(hpl:pl.length<60)(l3:List (ByteArray×Int))(hC:Cnt jobs jobs.length l3):
  awpC PR ([]:AHeap).length c138s38 (retC [.tmp 2] fun r' Hb=>Stop (Fin [] r' Hb (.slc 0 0 (pl.filterMap (unit1 jobs pl)).length none) (outO (pl.filterMap (unit1 jobs pl))))) [(1, .ptr 0 0 0),(3, .slc 2 0 pl.length none),(4, .map 1),(45, .slc 2 0 pl.length none),(46, .fn (.func 163) [] [.ptr 0 0 0]),(47, .tuple [])] [some (.rows 29 1 [jbs jobs]),some (.amap (l3.map fun p=>(.str p.1,g3 p.2))),some (.rows 3 1 (pl.map iN))]:=by
 have hm:(jobs.map jbA).length=jobs.length:=List.length_map ..
 conv=>whnf
 refine loop_to pl.length (fun k e H=>∃l,W5 29 3 jobs pl k l H∧e=[(1, .ptr 0 0 0),(3, .slc 2 0 pl.length none),(4, .map 1),(48, .slc 2 0 pl.length none),(49,i64 pl.length),(50,i64 k)]) ?_ ?_
 ·rintro k e H hk ⟨l,hW,rfl⟩
  conv=>whnf
  generalize hq:decide ((k:Int)<(pl.length:Int))=q
  cases q
  case false=>
   have hk2:k=pl.length:=by have:=of_decide_eq_false hq;omega
   subst hk2
   have t:=unitsC jobs pl hp hpl l H hW
   conv at t=>whnf
   conv=>whnf
   exact t
  have hk2:k<pl.length:=by have:=of_decide_eq_true hq;omega
  obtain⟨p,hpk⟩:∃p,pl[k]? =some p:=⟨_,List.getElem?_eq_getElem hk2⟩
  have hpj:=hp p (List.mem_of_getElem? hpk)
  obtain⟨x,hx⟩:∃x,jobs[p]? =some x:=⟨_,List.getElem?_eq_getElem hpj⟩
  have hpk':pl[((k:Nat):Int).toNat]? =some p:=hpk
  have hx':jobs[((p:Nat):Int).toNat]? =some x:=hx
  have hgn:gangN jobs p=x.task.gang:=by simp[gangN,hx]
  obtain⟨v,hv⟩:=hW.all p hpj
  have hstep:= @W5.step _ _ _ _ _ _ _ hW _ hpk _ hv
  rw[hgn]at hv hstep
  have hlv:lkD x.task.gang l ⟨0,none,[]⟩=v:=by
   obtain⟨i,hi⟩:=lk_of_mem hW.nd hv
   unfold lkD
   rw[hi]
  conv=>whnf
  refine k_idx ?_ _ (rowsOf_of hW.h2) (by omega) (by omega)
  conv=>whnf
  refine k_cell (rowAt_of hW.h2 (get_map hpk')) ?_
  conv=>whnf
  refine k_cell (rowAt_of hW.h0 rfl) ?_
  conv=>whnf
  refine k_el (get_map hx') (by omega) ?_
  conv=>whnf
  refine x_lookA (f:=g5) (z0:=⟨0,none,[]⟩) v lk2_o mapU strU gangV gangR hW.h1 hlv ?_
  obtain⟨c,at',w⟩:=v
  cases at' with
  |none=>
   have hw0:w=[]:=hW.none _ hv rfl
   subst hw0
   conv=>whnf
   refine forceS_any ?_
   conv=>whnf
   obtain⟨H1,e1,n1,g1,f1⟩:=app_facts H (some (.rows 183 2 [.agg [i64 c, .nilslc]]))
   refine k_stH H1 (r:= .agg [i64 0, .nilslc]) rfl (get_app0 H _) ⟨rfl,by decide,by decide,rfl⟩ (by rw[set_app0,e1];rfl) ?_
   clear e1
   conv=>whnf
   refine k_cell (rowAt_of g1 rfl) ?_
   conv=>whnf
   obtain⟨H2,e2,n2,g2,f2⟩:=app_facts H1 (some (.rows 3 1 [iN p]))
   refine fs_to H2 e2.symm ?_
   clear e2
   conv=>whnf
   refine app_nilm (f:=iN) (new:=[p]) (view_o (l:=[p]) (rs_eq g2) (by simp) (by simp)) (by simp[roomBound]) ?_
   obtain⟨H3,e3,n3,g3a,f3⟩:=app_facts H2 (some (.rows 3 1 ([p].map iN)))
   refine fs_to H3 e3.symm ?_
   clear e3
   have g3':H3[H.length]? =some (some (.rows 183 2 [.agg [i64 c, .nilslc]])):=by rw[f3 _ (by omega),f2 _ (by omega),g1]
   conv=>whnf
   obtain⟨H4,e4,n4,g4,f4⟩:=set_facts H3 H.length (some (.rows 183 2 [.agg [i64 c, .slc H2.length 0 (0+ [p].length) none]])) (by omega)
   refine k_stH H4 (r:= .agg [i64 c, .nilslc]) rfl g3' ⟨rfl,by decide,by decide,rfl⟩ (by rw[e4];rfl) ?_
   clear e4
   conv=>whnf
   have F4:∀i,i<H.length→H4[i]? =H[i]? :=fun i h=>by rw[f4 i (by omega),f3 i (by omega),f2 i (by omega),f1 i h]
   have hl2:=live_lt hW.h2
   have h40:H4[0]? =some (some (.rows 29 1 [jbs jobs])):=by rw[F4 0 (by omega)];exact hW.h0
   have h41:=hW.h1
   rw[←F4 1 (by omega)]at h41
   refine k_cell (rowAt_of h40 rfl) ?_
   conv=>whnf
   refine k_el (get_map hx') (by omega) ?_
   conv=>whnf
   refine k_row (rowAt_of g4 rfl) ?_
   conv=>whnf
   refine k_mset (f:=g5) ⟨c,some (H.length+2),[]++ [p]⟩ (by simp[g5,n2,n1]) h41 ?_
   obtain⟨H5,e5,n5,g5',f5⟩:=set_facts H4 1 (some (.amap ((ups x.task.gang ⟨c,some (H.length+2),[]++ [p]⟩ l).map fun p=>(.str p.1,g5 p.2)))) (by omega)
   refine fs_to H5 e5.symm ?_
   clear e5
   conv=>whnf
   repeat(first
    | (refine⟨by simp only[aLoad1,rowAt,f5 0 (by omega),h40];rfl, ?_⟩;conv=>whnf)
    | (refine e_row (rowAt_of ((f5 _ (by omega)).trans g4) rfl) rfl ?_;conv=>whnf))
   refine w_i64 (by omega) ?_
   conv=>whnf
   refine gcp_id (Nat.zero_le _) ⟨hk2,_,hstep ((f5 0 (by omega)).trans (F4 0 (by omega))) g5' ((f5 2 (by omega)).trans (F4 2 (by omega))) (fun i h1 h2 hne=>(f5 i (by omega)).trans (F4 i h2)) ?_,rfl⟩
   rw[f5 _ (by omega),f4 _ (by omega)]
   rw[n2,n1]at g3a
   exact g3a
  |some id=>
   obtain⟨hid2,hid⟩:=hW.obj _ hv id rfl
   have hidl:=live_lt hid
   have hwl:w.length≤k:=by
    have:=(hW.val _ hv).2
    simp only at this
    rw[this]
    exact Nat.le_trans (List.length_filter_le ..) (List.length_take_le ..)
   conv=>whnf
   refine forceS_any ?_
   conv=>whnf
   obtain⟨H1,e1,n1,g1,f1⟩:=app_facts H (some (.rows 183 2 [.agg [i64 c, .slc id 0 w.length none]]))
   refine k_stH H1 (r:= .agg [i64 0, .nilslc]) rfl (get_app0 H _) ⟨rfl,by decide,by decide,rfl⟩ (by rw[set_app0,e1];rfl) ?_
   clear e1
   conv=>whnf
   refine k_cell (rowAt_of g1 rfl) ?_
   conv=>whnf
   obtain⟨H2,e2,n2,g2,f2⟩:=app_facts H1 (some (.rows 3 1 [iN p]))
   refine fs_to H2 e2.symm ?_
   clear e2
   conv=>whnf
   refine app_map (f:=iN) (l:=w) (new:=[p]) (by rw[f2 _ (by omega),f1 _ (by omega)];exact hid) (view_o (l:=[p]) (rs_eq g2) (by simp) (by simp)) (Nat.le_refl _) (by simp[roomBound];omega) (fun _=> ?_) (fun h=>absurd h (by omega))
   obtain⟨H3,e3,n3,g3a,f3⟩:=app_facts (H2.set id none) (some (.rows 3 1 ((w++ [p]).map iN)))
   refine fs_to H3 e3.symm ?_
   clear e3
   rw[List.length_set]at n3 g3a f3
   have g3':H3[H.length]? =some (some (.rows 183 2 [.agg [i64 c, .slc id 0 w.length none]])):=by rw[f3 _ (by omega),List.getElem?_set_ne (by omega),f2 _ (by omega),g1]
   conv=>whnf
   obtain⟨H4,e4,n4,g4,f4⟩:=set_facts H3 H.length (some (.rows 183 2 [.agg [i64 c, .slc H2.length 0 (w.length+ [p].length) none]])) (by omega)
   refine k_stH H4 (r:= .agg [i64 c, .slc id 0 w.length none]) rfl g3' ⟨rfl,by decide,by decide,rfl⟩ (by rw[e4];rfl) ?_
   clear e4
   conv=>whnf
   have F4:∀i,i<H.length→i≠id→H4[i]? =H[i]? :=fun i h hne=>by rw[f4 i (by omega),f3 i (by omega),List.getElem?_set_ne (Ne.symm hne),f2 i (by omega),f1 i h]
   have hl2:=live_lt hW.h2
   have h40:H4[0]? =some (some (.rows 29 1 [jbs jobs])):=by rw[F4 0 (by omega) (by omega)];exact hW.h0
   have h41:=hW.h1
   rw[←F4 1 (by omega) (by omega)]at h41
   refine k_cell (rowAt_of h40 rfl) ?_
   conv=>whnf
   refine k_el (get_map hx') (by omega) ?_
   conv=>whnf
   refine k_row (rowAt_of g4 rfl) ?_
   conv=>whnf
   refine k_mset (f:=g5) ⟨c,some (H.length+2),w++ [p]⟩ (by simp[g5,n2,n1]) h41 ?_
   obtain⟨H5,e5,n5,g5',f5⟩:=set_facts H4 1 (some (.amap ((ups x.task.gang ⟨c,some (H.length+2),w++ [p]⟩ l).map fun p=>(.str p.1,g5 p.2)))) (by omega)
   refine fs_to H5 e5.symm ?_
   clear e5
   conv=>whnf
   repeat(first
    | (refine⟨by simp only[aLoad1,rowAt,f5 0 (by omega),h40];rfl, ?_⟩;conv=>whnf)
    | (refine e_row (rowAt_of ((f5 _ (by omega)).trans g4) rfl) rfl ?_;conv=>whnf))
   refine w_i64 (by omega) ?_
   conv=>whnf
   refine gcp_id (Nat.zero_le _) ⟨hk2,_,hstep ((f5 0 (by omega)).trans (F4 0 (by omega) (by omega))) g5' ((f5 2 (by omega)).trans (F4 2 (by omega) (by omega))) (fun i h1 h2 hne=>(f5 i (by omega)).trans (F4 i h2 (fun e=>hne (by rw[e])))) ?_,rfl⟩
   rw[f5 _ (by omega),f4 _ (by omega)]
   rw[n2,n1]at g3a
   exact g3a
 ·conv=>whnf
  refine gcp_id (Nat.zero_le _) ⟨l3.map fun e=>(e.1,⟨e.2,none,[]⟩),⟨rfl, ?_,rfl, ?_,fun i hi=> ?_,fun e he=> ?_,fun e he hn=> ?_,fun e he id hid=> ?_,fun e he f hf id h1 h2=> ?_⟩,rfl⟩
  ·rw[List.map_map];rfl
  ·unfold keysOf;rw[List.map_map];exact hC.nd
  ·obtain⟨c,hc⟩:=hC.all i hi hi
   exact⟨_,List.mem_map.2 ⟨_,hc,rfl⟩⟩
  ·obtain⟨a,ha,rfl⟩:=List.mem_map.1 he
   have:=hC.cnt a ha
   rw[List.take_length]at this
   exact⟨this,rfl⟩
  ·obtain⟨a,ha,rfl⟩:=List.mem_map.1 he
   rfl
  ·obtain⟨a,ha,rfl⟩:=List.mem_map.1 he
   cases hid
  ·obtain⟨a,ha,rfl⟩:=List.mem_map.1 he
   cases h1
theorem units_ok(jobs:List Jb)(hl:jobs.length<60)(hs:SeqOne jobs):AC PR 138 [jbs jobs] [] (.slc 0 0 (unitsF jobs).length none) (outO (unitsF jobs)):=by
 have hm:(jobs.map jbA).length=jobs.length:=List.length_map ..
 apply A138
 conv=>whnf
 refine x_mkmap mkU_o ?_
 conv=>whnf
 refine loop_to jobs.length (fun k e H=>∃l,Cnt jobs k l∧e=[(1, .ptr 0 0 0),(3, .slc 2 0 (plF jobs k).length none),(4, .map 1),(17,jbs jobs),(18,i64 (jobs.map jbA).length),(19,i64 k)]∧H=[some (.rows 29 1 [jbs jobs]),some (.amap (l.map fun p=>(.str p.1,g3 p.2))),some (.rows 3 1 ((plF jobs k).map iN))]) ?_ ?_
 ·rintro k e H hk ⟨l,hC,rfl,rfl⟩
  conv=>whnf
  generalize hq:decide ((k:Int)<((jobs.map jbA).length:Int))=q
  cases q
  case false=>
   have hk2:k=jobs.length:=by have:=of_decide_eq_false hq;omega
   subst hk2
   have hmem:=fun p (h:p∈plF jobs jobs.length)=>(plF_mem h).2.1
   have hpl:=plF_len jobs jobs.length
   have c1:=stableI_ok (plF jobs jobs.length) jobs (fun i=>i<jobs.length) (totI hs) (fun _ h=>h) hmem (by omega)
   have hsl:=srt_len (cfI jobs) (plF jobs jobs.length)
   have t:=unitsB jobs (srt (cfI jobs) (plF jobs jobs.length)) (srt_mem hmem) (by omega) l hC
   conv at t=>whnf
   rw[hsl]at t
   conv=>whnf
   refine call_fr (R:= .tuple []) [2,0] [] [some (.rows 3 1 ((srt (cfI jobs) (plF jobs jobs.length)).map iN)),some (.rows 29 1 [jbs jobs])] c1 ?_
   conv=>whnf
   exact t
  have hk2:k<jobs.length:=by have:=of_decide_eq_true hq;omega
  obtain⟨x,hx⟩:∃x,jobs[k]? =some x:=⟨_,List.getElem?_eq_getElem hk2⟩
  have hx':jobs[((k:Nat):Int).toNat]? =some x:=hx
  have hpl:=plF_len jobs k
  have hstep:=hC.step hx
  have hcl:=cntF_le (jobs.take k) x.task.gang
  have htk:(jobs.take k).length≤k:=List.length_take_le ..
  have hlv:lkD x.task.gang l 0=(cntF (jobs.take k) x.task.gang:Int):=by
   unfold lkD
   cases hq:lk x.task.gang l 0 with
   |none=>rw[hC.none hq];rfl
   |some p=>obtain⟨i,v⟩:=p;exact hC.cnt _ (lk_mem hq).1
  have hps:=plF_succ jobs k
  have hw:waitsP jobs k=decide (x.node=⟨#[]⟩):=by simp[waitsP,hx]
  rw[hw]at hps
  have c1:=waits_ok x
  generalize cntF (jobs.take k) x.task.gang=c at hcl hlv hstep
  conv=>whnf
  refine k_el (get_map hx') (by omega) ?_
  conv=>whnf
  refine x_lookA (f:=g3) (z0:=0) (l:=l) (c:Int) lk1_o mapU strU gangV gangR rfl hlv ?_
  conv=>whnf
  refine w_as ((c:Int)+1) rfl (by omega) ?_
  conv=>whnf
  refine k_mset (f:=g3) ((c:Int)+1) rfl rfl ?_
  conv=>whnf
  refine call_closed c1 ?_
  conv=>whnf
  generalize hqw:decide (x.node=⟨#[]⟩)=qw at hps
  cases qw
  case false=>
   conv=>whnf
   refine w_i64 (by omega) ?_
   conv=>whnf
   rw[if_neg (by simp)]at hps
   rw[←hps]
   exact at_head [some 0,some 1,some 2] _ [(1, .ptr 0 0 0),(3, .slc 2 0 (plF jobs (k+1)).length none),(4, .map 1),(17,jbs jobs),(18,i64 (jobs.map jbA).length),(19,i64 (k+1:Nat))] ⟨hk2,_,hstep,rfl,rfl⟩ (hN:=by exact autoG)
  rw[if_pos rfl]at hps
  have hpl2:(plF jobs (k+1)).length=(plF jobs k).length+1:=by rw[hps];simp
  conv=>whnf
  refine app_map (f:=iN) (l:=plF jobs k) (new:=[k]) rfl rfl (Nat.le_refl _) (by simp[roomBound];omega) (fun _=> ?_) (fun h=>absurd h (by omega))
  conv=>whnf
  refine w_i64 (by omega) ?_
  conv=>whnf
  rw[←hps]
  exact at_head [some 0,some 1,some 6] _ [(1, .ptr 0 0 0),(3, .slc 2 0 (plF jobs (k+1)).length none),(4, .map 1),(17,jbs jobs),(18,i64 (jobs.map jbA).length),(19,i64 (k+1:Nat))] ⟨hk2,_,hstep,rfl,rfl⟩ (hN:=by exact autoG)
 ·conv=>whnf
  exact at_head [some 0,some 1,none] _ [(1, .ptr 0 0 0),(3, .slc 2 0 (plF jobs 0).length none),(4, .map 1),(17,jbs jobs),(18,i64 (jobs.map jbA).length),(19,i64 (0:Nat))] ⟨[], .zero jobs,rfl,rfl⟩ (hN:=by
   (repeat'(first
    | (refine Go'.setF (by assumption) (by intro a;simp;done) ?_)
    | (refine Go'.amapF ?_;intro a;simp;done)
    |exact trivial
    |decide
    | (refine Gv.same _ (Bel.mono (Nat.zero_le _) ?_);assumption)
    | (refine Gr.flat _ ?_;assumption)
    | (refine Gr.closed _ ?_ rfl;assumption)
    | (refine Gv.same _ ?_;simp;done)
    | (refine Go'.map ?_;intro a;simp;done)
    | (refine GrO.mapF ?_;intro a;simp;done)
    | (refine GrO.mapC ?_ rfl;intro a;simp;done)
    | (refine Go'.same _ _ _ ?_;simp;done)
    |exact Gv.slc _ _ _ _ _ rfl
    |exact Gv.ptr _ _ _ _ rfl
    |exact Gv.map _ _ rfl
    |exact Or.inl rfl
    | (refine Gv.nil _ rfl ?_;first|decide| (simp;done))
    | (refine Gv.int ?_;first|omega| (simp;done) | (simp;omega))
    |refine Gv.aggL ?_
    |refine Gv.tupleL ?_
    |refine Gv.fnL ?_ ?_
    |refine Go'.rowsL ?_
    |refine Or.inr ?_
    |refine Exists.intro _ (And.intro rfl ?_)
    | (refine Gr.flat _ ?_;simp;done)
    | (refine GrO.flat _ _ _ ?_;simp;done)
    | (refine Gr.closed _ ?_ rfl;simp;done)
    | (refine GrO.closed _ _ _ ?_ rfl;simp;done)
    |exact Gr.slc _ _ _ _ _ rfl
    |exact Gr.ptr _ _ _ _ rfl
    |refine Gr.aggL ?_
    |refine Gr.tupleL ?_
    |refine GrO.rowsL ?_
    | (refine Gv.lstM ?_;intro a;simp;done)
    | (refine Gv.lend ?_ rfl ?_ ?_<;>first|exact fz_zip rfl| (simp;done) |rfl|omega| (intro a;simp;done) | (simp;omega))
    | (refine Gv.slcN rfl ?_;first|omega| (simp;done) | (simp;omega))
    | (refine Gv.frz _ _ _ _ _ _ _ _ ?_ rfl ?_ rfl ?_<;>first|exact fz_zip rfl| (simp;done))
    |exact Gv.nillst _
    | (refine Go'.pre ?_ ?_<;>first|assumption| (intro a;simp;done))
    | (refine Gv.boolE ?_;first|assumption| (symm;assumption) | (simp;done))
    |refine And.intro rfl ?_
    |refine And.intro ?_ ?_))
   exact .amap _ _ rfl (by simp))
def wkB(m:Mc)(t:Tk)(j:Jb):Bool:=decide (j.node=m.node.name) &&decide (j.task.prio<t.prio)
def weakF(m:Mc)(jobs:List Jb)(t:Tk):List Jb:=srt ordW (jobs.filter (wkB m t))
theorem filter_take {α:Type}(p:α→Bool){l:List α}{k:Nat}{x:α}(h:l[k]? =some x):(l.take (k+1)).filter p=if p x=true then(l.take k).filter p++ [x]else(l.take k).filter p:=by
 rw[List.take_add_one,h,List.filter_append]
 cases hp:p x<;>simp[hp]
theorem weaker_ok(m:Mc)(jobs:List Jb)(t:Tk)(hl:jobs.length<60)(hs:SeqOne jobs):AC PR 207 [mcA m,jbs jobs,tkA t] [] (jbs (weakF m jobs t)) []:=by
 have hm:(jobs.map jbA).length=jobs.length:=List.length_map ..
 apply A207
 conv=>whnf
 refine loop_to jobs.length (fun k e H=>e=[(3, .ptr 0 0 0),(5, .ptr 1 0 0),(7, .slc 2 0 ((jobs.take k).filter (wkB m t)).length none),(10,jbs jobs),(11,i64 (jobs.map jbA).length),(12,i64 k)]∧H=[some (.rows 57 7 [mcA m]),some (.rows 47 10 [tkA t]),rowsJ ((jobs.take k).filter (wkB m t))]) ?_ ?_
 ·rintro k e H hk ⟨rfl,rfl⟩
  have hfl:((jobs.take k).filter (wkB m t)).length≤k:=Nat.le_trans (List.length_filter_le ..) (List.length_take_le ..)
  conv=>whnf
  generalize hq:decide ((k:Int)<((jobs.map jbA).length:Int))=q
  cases q
  case false=>
   have hk2:¬k<jobs.length:=by have:=of_decide_eq_false hq;omega
   rw[show jobs.take k=jobs from List.take_of_length_le (by omega)]at hfl⊢
   have c1:=stableJ_ok (jobs.filter (wkB m t)) (fun j=>j∈jobs) (totW hs) (fun z hz=>(List.mem_filter.1 hz).1) (by omega)
   have hsl:=srt_len ordW (jobs.filter (wkB m t))
   conv=>whnf
   refine call_fr (R:= .tuple []) [2] [] [rowsJ (weakF m jobs t)] c1 ?_
   conv=>whnf
   exact at_end [] (hr:=Gv.lend (l:=weakF m jobs t) (fun j o hj _=>by simp at hj) rfl hsl.symm (by intro a;simp))
  have hk2:k<jobs.length:=by have:=of_decide_eq_true hq;omega
  have hgo:=List.getElem?_eq_getElem hk2
  generalize jobs[k]=x at hgo
  have hf:=filter_take (wkB m t) hgo
  have hw:wkB m t x=(decide (x.node=m.node.name) &&decide (x.task.prio<t.prio)):=rfl
  generalize wkB m t x=b at hw hf
  generalize(jobs.take k).filter (wkB m t)=us at hf hfl
  generalize hq1:decide (x.node=m.node.name)=q1 at hw
  generalize hq2:decide (x.task.prio<t.prio)=q2 at hw
  conv=>whnf
  refine tA ?_
  rw[hq1]
  cases q1
  case false=>
   rw[Bool.false_and]at hw
   subst hw
   rw[if_neg (by simp)]at hf
   conv=>whnf
   refine tA ?_
   exact at_head [some 0,some 1,some 2] _ [(3, .ptr 0 0 0),(5, .ptr 1 0 0),(7, .slc 2 0 us.length none),(10,jbs jobs),(11,i64 (jobs.map jbA).length),(12,i64 (k+1:Nat))] ⟨hk2,by rw[hf],by rw[hf]⟩
  conv=>whnf
  rw[hq2]
  cases q2
  case false=>
   rw[Bool.true_and]at hw
   subst hw
   rw[if_neg (by simp)]at hf
   conv=>whnf
   refine tA ?_
   exact at_head [some 0,some 1,some 2] _ [(3, .ptr 0 0 0),(5, .ptr 1 0 0),(7, .slc 2 0 us.length none),(10,jbs jobs),(11,i64 (jobs.map jbA).length),(12,i64 (k+1:Nat))] ⟨hk2,by rw[hf],by rw[hf]⟩
  rw[Bool.true_and]at hw
  subst hw
  rw[if_pos rfl]at hf
  conv=>whnf
  refine app_map (f:=jbA) (l:=us) (new:=[x]) rfl rfl (Nat.le_refl _) (by simp[roomBound];omega) (fun _=> ?_) (fun h=>absurd h (by omega))
  conv=>whnf
  refine tA ?_
  exact at_head [some 0,some 1,some 5] [some (.rows 57 7 [mcA m]),some (.rows 47 10 [tkA t]),rowsJ (us++ [x])] [(3, .ptr 0 0 0),(5, .ptr 1 0 0),(7, .slc 2 0 (us++ [x]).length none),(10,jbs jobs),(11,i64 (jobs.map jbA).length),(12,i64 (k+1:Nat))] ⟨hk2,by rw[hf],by rw[hf]⟩
 ·conv=>whnf
  exact at_head [some 0,some 1,none] [some (.rows 57 7 [mcA m]),some (.rows 47 10 [tkA t]),rowsJ ((jobs.take 0).filter (wkB m t))] _ ⟨rfl,rfl⟩
def goW(need:Rs)(dn:List Jb)(free:Rs):List Jb→List Jb×Bool
 | []=>([],false)
 |j::l=>if¬ (addF free j.task.need).2=0 then([],false)else if fitsB need (addF free j.task.need).1=true then(dn++ [j],true)else goW need (dn++ [j]) (addF free j.task.need).1 l
def goneF(m:Mc)(jobs:List Jb)(t:Tk):List Jb×Bool:=
 if whyF m jobs t=0 then([],true)else if¬whyF m jobs t=4 then([],false)else goW t.need [] (freeF m jobs).1 (weakF m jobs t)
theorem weakF_len(m:Mc)(jobs:List Jb)(t:Tk):(weakF m jobs t).length≤jobs.length:=by
 unfold weakF
 rw[srt_len]
 exact List.length_filter_le ..
theorem goneW_ok(m:Mc)(jobs:List Jb)(t:Tk)(hl:jobs.length<60)(hs:SeqOne jobs)(hml:(m.node.labels.length:Int)≤1000000)(htl:(t.wants.length:Int)≤1000000):AC PR 187 [mcA m,jbs jobs,tkA t] [] (.tuple [jbs (goneF m jobs t).1, .bool (goneF m jobs t).2]) []:=by
 have c1:=why_ok m jobs t (by omega) hml htl
 have c2:=free_ok m jobs (by omega)
 have c3:=weaker_ok m jobs t hl hs
 have hwl:=weakF_len m jobs t
 have hB:goneF m jobs t=if whyF m jobs t=0 then([],true)else if¬whyF m jobs t=4 then([],false)else goW t.need [] (freeF m jobs).1 (weakF m jobs t):=rfl
 generalize whyF m jobs t=y at c1 hB
 generalize freeF m jobs=f at c2 hB
 generalize weakF m jobs t=wl at c3 hB hwl
 generalize goneF m jobs t=r at hB
 obtain⟨f1,f2⟩:=f
 have hm:(wl.map jbA).length=wl.length:=List.length_map ..
 apply A187
 conv=>whnf
 refine call_closed c1 ?_
 conv=>whnf
 generalize hq1:decide (y=0)=q1
 cases q1
 case true=>
  rw[if_pos (of_decide_eq_true hq1)]at hB
  subst hB
  conv=>whnf
  exact at_end []
 rw[if_neg (of_decide_eq_false hq1)]at hB
 conv=>whnf
 generalize hq2:decide (y=4)=q2
 cases q2
 case false=>
  rw[if_pos (of_decide_eq_false hq2)]at hB
  subst hB
  conv=>whnf
  exact at_end []
 rw[if_neg (fun h=>h (of_decide_eq_true hq2))]at hB
 conv=>whnf
 refine call_closed c2 ?_
 conv=>whnf
 refine call_closed c3 ?_
 conv=>whnf
 refine loop_to wl.length (fun k e H=>∃fr:Rs,goW t.need (wl.take k) fr (wl.drop k)=r∧e=[(5, .ptr 0 0 0),(8, .ptr 1 0 0),(10,jbs wl),(33,jbs wl),(34,i64 (wl.map jbA).length),(35,i64 k)]∧H=[some (.rows 47 10 [tkA t]),some (.rows 40 3 [rsA fr])]) ?_ ?_
 ·rintro k e H hk ⟨fr,hg,rfl,rfl⟩
  conv=>whnf
  generalize hq:decide ((k:Int)<((wl.map jbA).length:Int))=q
  cases q
  case false=>
   have hk2:¬k<wl.length:=by have:=of_decide_eq_false hq;omega
   rw[List.drop_eq_nil_of_le (by omega)]at hg
   simp only[goW]at hg
   subst hg
   conv=>whnf
   exact at_end []
  have hk2:k<wl.length:=by have:=of_decide_eq_true hq;omega
  have hgo:=List.getElem?_eq_getElem hk2
  rw[List.drop_eq_getElem_cons hk2]at hg
  have htk:wl.take (k+1)=wl.take k++ [wl[k]]:=by rw[List.take_add_one,hgo];rfl
  generalize wl[k]=x at hgo hg htk
  simp only[goW,←htk]at hg
  have c4:=add_ok fr x.task.need
  generalize addF fr x.task.need=a at c4 hg
  obtain⟨a1,a2⟩:=a
  have c5:=fits_ok t.need a1
  generalize fitsB t.need a1=b at c5 hg
  conv=>whnf
  refine tA ?_
  refine call_closed c4 ?_
  conv=>whnf
  generalize hq3:decide (a2=0)=q3
  cases q3
  case false=>
   rw[if_pos (of_decide_eq_false hq3)]at hg
   subst hg
   conv=>whnf
   exact at_end []
  rw[if_neg (fun h=>h (of_decide_eq_true hq3))]at hg
  conv=>whnf
  refine call_closed c5 ?_
  conv=>whnf
  cases b
  case true=>
   rw[if_pos rfl]at hg
   subst hg
   conv=>whnf
   refine tA ?_
   refine k_some (v:= .lst 13 ((wl.take (k+1)).map jbA) none) (by
    have e0:0≤(k:Int)+1:=by omega
    have e1:k+1≤wl.length:=hk2
    simp[aSlice,aBounds,AV.natOf,List.map_take,e0,e1]) ?_
   conv=>whnf
   exact at_end []
  rw[if_neg (by simp)]at hg
  conv=>whnf
  refine tA ?_
  exact at_head [some 0,some 1] [some (.rows 47 10 [tkA t]),some (.rows 40 3 [rsA a1])] [(5, .ptr 0 0 0),(8, .ptr 1 0 0),(10,jbs wl),(33,jbs wl),(34,i64 (wl.map jbA).length),(35,i64 (k+1:Nat))] ⟨hk2,a1,hg,rfl,rfl⟩
 ·conv=>whnf
  exact at_head [some 1,some 2] [some (.rows 47 10 [tkA t]),some (.rows 40 3 [rsA f1])] [(5, .ptr 0 0 0),(8, .ptr 1 0 0),(10,jbs wl),(33,jbs wl),(34,i64 (wl.map jbA).length),(35,i64 (0:Nat))] ⟨f1,by simpa using hB.symm,rfl,rfl⟩
def minO(m:Of):List Of→Of
 | []=>m
 |x::l=>minO (if ordO x m<0 then x else m) l
theorem minO_mem:∀ (l:List Of) (m:Of),minO m l=m∨minO m l∈l
 | [],m=> .inl rfl
 |x::l,m=>by
  unfold minO
  rcases minO_mem l (if ordO x m<0 then x else m)with h|h
  ·rw[h]
   split
   ·exact .inr (by simp)
   ·exact .inl rfl
  ·exact .inr (by simp[h])
abbrev ofs(l:List Of):AV:= .lst 2 (l.map ofA) none
theorem minF_ok(a:Of)(l:List Of)(hl:(l.length:Int)≤1000)(hj:∀o∈a::l,(o.jobs.length:Int)≤1000000):AC PR 188 [ofs (a::l), .fn (.func 189) [] []] [] (.agg [.str (minO a l).name,jbs (minO a l).jobs]) []:=by
 have hm:((a::l).map ofA).length=l.length+1:=by simp
 apply A188
 conv=>whnf
 rw[decide_eq_false (show¬ ((((a::l).map ofA).length:Nat):Int)<1 by omega)]
 conv=>whnf
 refine loop_to l.length (fun k e H=>∃m:Of,minO m (l.drop k)=minO a l∧(m.jobs.length:Int)≤1000000∧e=[(0,ofs (a::l)),(1, .fn (.func 189) [] []),(4, .ptr 0 0 0),(5, .ptr 1 0 0),(6,i64 (k+1:Nat))]∧H=[some (.rows 215 2 [.agg [.str ⟨#[]⟩, .nilslc]]),some (.rows 215 2 [ofA m])]) ?_ ?_
 ·rintro k e H hk ⟨m,hmin,hmj,rfl,rfl⟩
  conv=>whnf
  generalize hq:decide (((k+1:Nat):Int)<(((a::l).map ofA).length:Nat))=q
  cases q
  case false=>
   have hk2:¬k<l.length:=by have:=of_decide_eq_false hq;omega
   rw[List.drop_eq_nil_of_le (by omega)]at hmin
   simp only[minO]at hmin
   subst hmin
   conv=>whnf
   exact at_end []
  have hk2:k<l.length:=by have:=of_decide_eq_true hq;omega
  have hgo:=List.getElem?_eq_getElem hk2
  have hx':(a::l)[((k+1:Nat):Int).toNat]? =some l[k]:=hgo
  rw[List.drop_eq_getElem_cons hk2]at hmin
  have hxm:l[k]∈a::l:=by simp
  generalize l[k]=x at hgo hx' hmin hxm
  simp only[minO]at hmin
  have c1:=ordO_ok x m (hj x hxm) hmj
  conv=>whnf
  repeat(first
   | (refine And.intro rfl ?_;conv=>whnf)
   | (refine k_el (get_map hx') (by omega) ?_;conv=>whnf))
  refine callv_closed c1 ?_
  conv=>whnf
  generalize hcf:decide (ordO x m<0)=qc
  cases qc
  case false=>
   rw[if_neg (of_decide_eq_false hcf)]at hmin
   conv=>whnf
   refine w_i64 (by omega) ?_
   conv=>whnf
   exact at_head [some 0,some 1] _ [(0,ofs (a::l)),(1, .fn (.func 189) [] []),(4, .ptr 0 0 0),(5, .ptr 1 0 0),(6,i64 (k+1+1:Nat))] ⟨hk2,m,hmin,hmj,rfl,rfl⟩
  rw[if_pos (of_decide_eq_true hcf)]at hmin
  conv=>whnf
  repeat(first
   | (refine And.intro rfl ?_;conv=>whnf)
   | (refine k_el (get_map hx') (by omega) ?_;conv=>whnf))
  refine w_i64 (by omega) ?_
  conv=>whnf
  exact at_head [some 0,some 1] [some (.rows 215 2 [.agg [.str ⟨#[]⟩, .nilslc]]),some (.rows 215 2 [ofA x])] [(0,ofs (a::l)),(1, .fn (.func 189) [] []),(4, .ptr 0 0 0),(5, .ptr 1 0 0),(6,i64 (k+1+1:Nat))] ⟨hk2,x,hmin,hj x hxm,rfl,rfl⟩
 ·conv=>whnf
  exact at_head [some 0,some 1] [some (.rows 215 2 [.agg [.str ⟨#[]⟩, .nilslc]]),some (.rows 215 2 [ofA a])] [(0,ofs (a::l)),(1, .fn (.func 189) [] []),(4, .ptr 0 0 0),(5, .ptr 1 0 0),(6,i64 (0+1:Nat))] ⟨a,rfl,hj a (by simp),rfl,rfl⟩
def offersF(ms:List Mc)(jobs:List Jb)(t:Tk):List Of:=ms.filterMap fun m=>if(goneF m jobs t).2=true then some ⟨m.node.name,(goneF m jobs t).1⟩else none
def chooseF(ms:List Mc)(jobs:List Jb)(t:Tk):ByteArray×List ByteArray×Bool:=match offersF ms jobs t with
 | []=>(⟨#[]⟩,[],false)
 |a::l=>((minO a l).name,namesF (minO a l).jobs,true)
theorem goW_len(need:Rs):∀ (l dn:List Jb) (fr:Rs),(goW need dn fr l).1.length≤dn.length+l.length
 | [],dn,fr=>by simp[goW]
 |j::l,dn,fr=>by
  unfold goW
  split
  ·simp
  ·split
   ·simp
   ·have:=goW_len need l (dn++ [j]) (addF fr j.task.need).1
    simp at this ⊢;omega
theorem goneF_len(m:Mc)(jobs:List Jb)(t:Tk):(goneF m jobs t).1.length≤jobs.length:=by
 unfold goneF
 split
 ·simp
 ·split
  ·simp
  ·have h1:=goW_len t.need (weakF m jobs t) [] (freeF m jobs).1
   have h2:=weakF_len m jobs t
   simp at h1;omega
theorem offers_len {ms:List Mc}{jobs:List Jb}{t:Tk}:∀o∈offersF ms jobs t,o.jobs.length≤jobs.length:=by
 intro o ho
 obtain⟨m,_,hm⟩:=List.mem_filterMap.1 ho
 split at hm
 ·cases hm;exact goneF_len m jobs t
 ·cases hm
theorem choose_ok(ms:List Mc)(jobs:List Jb)(t:Tk)(hl:jobs.length<60)(hs:SeqOne jobs)(hms:ms.length<100)(hml:∀m∈ms,(m.node.labels.length:Int)≤1000000)(htl:(t.wants.length:Int)≤1000000):AC PR 168 [mcs ms,jbs jobs,tkA t] [] (.tuple [.str (chooseF ms jobs t).1, .slc 0 0 (chooseF ms jobs t).2.1.length none, .bool (chooseF ms jobs t).2.2]) [some (.rows 9 1 ((chooseF ms jobs t).2.1.map stA1))]:=by
 have hm:(ms.map mcA).length=ms.length:=List.length_map ..
 apply A168
 conv=>whnf
 refine loop_to ms.length (fun k e H=>e=[(1,jbs jobs),(5, .ptr 0 0 0),(9, .slc 1 0 (offersF (ms.take k) jobs t).length none),(15,mcs ms),(16,i64 (ms.map mcA).length),(17,i64 k)]∧H=[some (.rows 47 10 [tkA t]),some (.rows 215 2 ((offersF (ms.take k) jobs t).map ofA))]) ?_ ?_
 ·rintro k e H hk ⟨rfl,rfl⟩
  have hol:(offersF (ms.take k) jobs t).length≤k:=Nat.le_trans (List.length_filterMap_le ..) (List.length_take_le ..)
  conv=>whnf
  generalize hq:decide ((k:Int)<((ms.map mcA).length:Int))=q
  cases q
  case false=>
   have hk2:¬k<ms.length:=by have:=of_decide_eq_false hq;omega
   rw[show ms.take k=ms from List.take_of_length_le (by omega)]at hol⊢
   have hoj:=fun o (h:o∈offersF ms jobs t)=>offers_len o h
   have hc:chooseF ms jobs t=match offersF ms jobs t with
    | []=>(⟨#[]⟩,[],false)
    |a::l=>((minO a l).name,namesF (minO a l).jobs,true):=rfl
   generalize chooseF ms jobs t=r at hc
   generalize offersF ms jobs t=os at hol hoj hc
   cases os with
   |nil=>
    subst hc
    conv=>whnf
    exact at_end [none]
   |cons a l=>
    simp only at hc
    subst hc
    simp only[List.length_cons]at hol
    have c1:=minF_ok a l (by omega) (fun o ho=>by have:=hoj o ho;omega)
    have hmj:(minO a l).jobs.length≤jobs.length:=by
     rcases minO_mem l a with h|h
     ·rw[h];exact hoj a (by simp)
     ·exact hoj _ (by simp[h])
    generalize minO a l=b at c1 hmj
    have c2:=names_ok b.jobs (by omega)
    conv=>whnf
    rw[decide_eq_false (show¬ ((((a::l).length:Nat)):Int)=0 by simp;omega)]
    conv=>whnf
    refine call_fz (args:=[ofs (a::l), .fn (.func 189) [] []]) [some 0,some 1] [some (.rows 47 10 [tkA t]),none] ?_
    refine call_closed c1 ?_
    conv=>whnf
    repeat(first
     | (refine And.intro rfl ?_;conv=>whnf))
    refine call_fr (R:= .slc 3 0 (namesF b.jobs).length none) [] [] [some (.rows 9 1 ((namesF b.jobs).map stA1))] c2 ?_
    conv=>whnf
    refine tB ?_
    exact at_end [some 3]
  have hk2:k<ms.length:=by have:=of_decide_eq_true hq;omega
  have hgo:=List.getElem?_eq_getElem hk2
  have hx':ms[((k:Nat):Int).toNat]? =some ms[k]:=hgo
  have hxm:ms[k]∈ms:=List.getElem_mem _
  generalize ms[k]=x at hgo hx' hxm
  have hf:offersF (ms.take (k+1)) jobs t=offersF (ms.take k) jobs t++ (if(goneF x jobs t).2=true then some (⟨x.node.name,(goneF x jobs t).1⟩:Of)else none).toList:=fm_take _ hgo
  have c1:=goneW_ok x jobs t hl hs (hml x hxm) htl
  generalize goneF x jobs t=g at hf c1
  generalize offersF (ms.take k) jobs t=os at hf hol
  obtain⟨g1,g2⟩:=g
  conv=>whnf
  refine k_el (get_map hx') (by omega) ?_
  conv=>whnf
  refine call_closed c1 ?_
  conv=>whnf
  cases g2
  case false=>
   simp only[Bool.false_eq_true,if_false,Option.toList_none,List.append_nil]at hf
   conv=>whnf
   refine w_i64 (by omega) ?_
   conv=>whnf
   exact at_head [some 0,some 1] _ [(1,jbs jobs),(5, .ptr 0 0 0),(9, .slc 1 0 os.length none),(15,mcs ms),(16,i64 (ms.map mcA).length),(17,i64 (k+1:Nat))] ⟨hk2,by rw[hf],by rw[hf]⟩
  simp only[if_true,Option.toList_some]at hf
  conv=>whnf
  refine app_map (f:=ofA) (l:=os) (new:=[⟨x.node.name,g1⟩]) rfl rfl (Nat.le_refl _) (by simp[roomBound];omega) (fun _=> ?_) (fun h=>absurd h (by omega))
  conv=>whnf
  refine w_i64 (by omega) ?_
  conv=>whnf
  exact at_head [some 0,some 4] [some (.rows 47 10 [tkA t]),some (.rows 215 2 ((os++ [(⟨x.node.name,g1⟩:Of)]).map ofA))] [(1,jbs jobs),(5, .ptr 0 0 0),(9, .slc 1 0 (os++ [(⟨x.node.name,g1⟩:Of)]).length none),(15,mcs ms),(16,i64 (ms.map mcA).length),(17,i64 (k+1:Nat))] ⟨hk2,by rw[hf],by rw[hf]⟩
 ·conv=>whnf
  exact at_head [some 0,none] [some (.rows 47 10 [tkA t]),some (.rows 215 2 ((offersF (ms.take 0) jobs t).map ofA))] _ ⟨rfl,rfl⟩
end Go.Am.Pt
end
section
open Go Go.Am Go.Proofs Go.Sort
namespace Go.Am.Pt
theorem cmpS_lt(a b:ByteArray):(cmpS a b<0↔strLt a b=true)∧(cmpS a b=0↔a=b):=by
 unfold cmpS
 split
 ·rename_i h
  refine⟨by simp[h],⟨fun e=>absurd e (by decide),fun e=> ?_⟩⟩
  subst e
  rw[lt_irr]at h
  cases h
 ·rename_i h
  split
  ·rename_i e
   exact⟨by simp[h],by simp[e]⟩
  ·rename_i e
   exact⟨by simp[h],by simp[e]⟩
theorem ordS_lt(a b:Sc):ordS a b<0↔a.score<b.score∨(a.score=b.score∧strLt a.name b.name=true):=by
 unfold ordS
 rw[orI2_lt,(cmpI_lt _ _).1,(cmpS_lt _ _).1,(cmpI_lt _ _).2]
theorem sc_one {a b:Sc}(h1:¬ordS a b<0)(h2:¬ordS b a<0):a=b:=by
 rw[ordS_lt]at h1 h2
 obtain⟨n,s⟩:=a
 obtain⟨m,t⟩:=b
 simp only at h1 h2
 have e:s=t:=by omega
 subst e
 have e1:strLt n m=false:=by
  cases h:strLt n m
  ·rfl
  ·exact absurd (.inr ⟨rfl,h⟩) h1
 have e2:strLt m n=false:=by
  cases h:strLt m n
  ·rfl
  ·exact absurd (.inr ⟨rfl,h⟩) h2
 rw[lt_total e1 e2]
theorem ordS_trans {a b c:Sc}(h1:ordS a b<0)(h2:ordS b c<0):ordS a c<0:=by
 rw[ordS_lt]at h1 h2⊢
 rcases h1 with h1| ⟨e1,h1⟩<;>rcases h2 with h2| ⟨e2,h2⟩
 ·exact .inl (by omega)
 ·exact .inl (by omega)
 ·exact .inl (by omega)
 ·exact .inr ⟨by omega,lt_trans h1 h2⟩
theorem ordS_irr(a:Sc):¬ordS a a<0:=by
 rw[ordS_lt,lt_irr]
 simp
theorem ordS_asym {a b:Sc}(h:ordS a b<0):¬ordS b a<0:=fun k=>ordS_irr a (ordS_trans h k)
theorem ordS_ntrans {a b c:Sc}(h1:¬ordS a b<0)(h2:¬ordS b c<0):¬ordS a c<0:=fun h=>by
 by_cases k1:ordS b a<0
 ·exact h2 (ordS_trans k1 h)
 ·have:=sc_one h1 k1
  subst this
  exact h2 h
theorem totS:Tot ordS (fun _=>True):=
 ⟨fun x y z _ _ _ h1 h2=>ordS_ntrans h2 h1,fun x y _ _ h=>ordS_asym h,fun x y _ _ h1 h2=>sc_one h2 h1⟩
theorem swoS:SWO (ltOf ordS):=by
 refine⟨fun x=> ?_,fun x y z h1 h2=> ?_,fun x y z h1 h2=> ?_⟩
 ·exact decide_eq_false (ordS_irr x)
 ·exact decide_eq_true (ordS_trans (of_decide_eq_true h1) (of_decide_eq_true h2))
 ·exact decide_eq_false (ordS_ntrans (of_decide_eq_false h1) (of_decide_eq_false h2))
instance:Inhabited Sc:=⟨⟨⟨#[]⟩,0⟩⟩
def scV(x:Sc):List Value:=[.string x.name, .int .i64 x.score]
theorem merge_srt(l:List Sc):l.mergeSort (fun x y=> !(ltOf ordS) y x)=srt ordS l:=by
 refine srt_eq totS (fun _ _=>trivial) (List.mergeSort_perm ..) ?_
 have:=List.pairwise_mergeSort (le:=fun x y=> !(ltOf ordS) y x) (fun a b c h1 h2=>by
  simp only[ltOf,Bool.not_eq_true',decide_eq_false_iff_not]at h1 h2⊢
  exact ordS_ntrans h2 h1) (fun a b=>by
  simp only[ltOf,Bool.or_eq_true,Bool.not_eq_true',decide_eq_false_iff_not]
  by_cases h:ordS b a<0
  ·exact .inr (ordS_asym h)
  ·exact .inl h) l
 refine this.imp fun h=> ?_
 simp only[ltOf,Bool.not_eq_true',decide_eq_false_iff_not]at h
 exact h
theorem sortS_ok(l:List Sc)(hl:l.length<1000):AC PR 205 [.slc 0 0 l.length none, .fn (.func 206) [] []] [some (.rows 210 2 (l.map scA))] (.tuple []) [some (.rows 210 2 ((srt ordS l).map scA))]:=by
 have eg:∀args w,(callFunc 206 args).run Tryz.prog w= .ok (.enter 206 args) w:=enters_of Tryz.func206 (by kernel_rfl) rfl
 have hone:∀x,∀v∈scV x,v.oneCell'=true:=fun x v hv=>by
  simp only[scV,List.mem_cons,List.not_mem_nil,or_false]at hv
  rcases hv with rfl|rfl<;>rfl
 refine sort_ac (by decide) scV scA l (srt ordS l) (srt_len ..) (fun _=>rfl) (fun _=>rfl) hone (fun c x j a v ha hv=> ?_) (fun c x j a v ha hv=> ?_) (fun blk cap w hH hb=> ?_) (fun _ p cap w=>Tryz.sortS_none p cap _ w)
 ·match j with
  |0=>simp[scA,AV.cells]at ha;subst ha;cases hv;rfl
  |1=>simp[scA,AV.cells]at ha;subst ha;cases hv;rfl
  |j+2=>simp[scA,AV.cells]at ha
 ·match j with
  |0=>simp[scA,AV.cells,scV]at ha hv;subst ha hv;exact .str _
  |1=>simp[scA,AV.cells,scV]at ha hv;subst ha hv;exact .int _ _
  |j+2=>simp[scA,AV.cells]at ha
 ·have hc:CmpLays Tryz.prog 206 #[] scV 2 ordS blk 0 l.toArray.size w:=fun m os dk _ x y=>by
   rw[Array.append_empty]
   refine AC.lays (ordS_ok x y) (xs:= #[.agg (scV x).toArray, .agg (scV y).toArray]) rfl (fun c i a v ha hv=> ?_) _
   have key:∀x,VR c (scA x) (.agg (scV x).toArray):=fun x=> .agg _ _ rfl fun i a v ha hv=>by
    match i with
    |0=>simp[scV]at ha hv;subst ha hv;exact .str _
    |1=>simp[scV]at ha hv;subst ha hv;exact .int _ _
    |i+2=>simp at ha
   match i with
   |0=>simp at ha hv;subst ha hv;exact key x
   |1=>simp at ha hv;subst ha hv;exact key y
   |i+2=>simp at ha
  have:=Tryz.sortS_total 2 Tryz.isAgg210 Tryz.sizeOf210 scV (fun _=>rfl) hone ordS swoS 206 #[] blk 0 cap l.toArray w eg hc hH hb (by simp;omega) (fun x y h1 h2=>sc_one (of_decide_eq_false h1) (of_decide_eq_false h2))
  rw[show l.toArray.toList=l from rfl,merge_srt]at this
  simpa using this
def scoredF(ms:List Mc)(jobs:List Jb)(t:Tk):List Sc:=ms.filterMap fun m=>if(scoreF m jobs t).2=true then some ⟨m.node.name,(scoreF m jobs t).1⟩else none
def allF(ms:List Mc)(jobs:List Jb)(t:Tk):List Sc:=srt ordS (scoredF ms jobs t)
def bestF(ms:List Mc)(jobs:List Jb)(t:Tk):ByteArray×Bool:=match allF ms jobs t with
 | []=>(⟨#[]⟩,false)
 |a::_=>(a.name,true)
theorem all_ok(ms:List Mc)(jobs:List Jb)(t:Tk)(hl:(jobs.length:Int)≤1000000)(hms:ms.length<100)(hml:∀m∈ms,(m.node.labels.length:Int)≤1000000)(htl:(t.wants.length:Int)≤1000000):AC PR 186 [mcs ms,jbs jobs,tkA t] [] (.lst 2 ((allF ms jobs t).map scA) none) []:=by
 have hm:(ms.map mcA).length=ms.length:=List.length_map ..
 apply A186
 conv=>whnf
 refine loop_to ms.length (fun k e H=>e=[(1,jbs jobs),(5, .ptr 0 0 0),(7, .slc 1 0 (scoredF (ms.take k) jobs t).length none),(12,mcs ms),(13,i64 (ms.map mcA).length),(14,i64 k)]∧H=[some (.rows 47 10 [tkA t]),some (.rows 210 2 ((scoredF (ms.take k) jobs t).map scA))]) ?_ ?_
 ·rintro k e H hk ⟨rfl,rfl⟩
  have hol:(scoredF (ms.take k) jobs t).length≤k:=Nat.le_trans (List.length_filterMap_le ..) (List.length_take_le ..)
  conv=>whnf
  generalize hq:decide ((k:Int)<((ms.map mcA).length:Int))=q
  cases q
  case false=>
   have hk2:¬k<ms.length:=by have:=of_decide_eq_false hq;omega
   rw[show ms.take k=ms from List.take_of_length_le (by omega)]at hol⊢
   have c1:=sortS_ok (scoredF ms jobs t) (by omega)
   have hsl:=srt_len ordS (scoredF ms jobs t)
   conv=>whnf
   refine call_fr (R:= .tuple []) [1] [] [some (.rows 210 2 ((allF ms jobs t).map scA))] c1 ?_
   conv=>whnf
   exact at_end [] (hr:=Gv.lend (l:=allF ms jobs t) (fun j o hj _=>by simp at hj) rfl hsl.symm (by intro a;simp))
  have hk2:k<ms.length:=by have:=of_decide_eq_true hq;omega
  have hgo:=List.getElem?_eq_getElem hk2
  have hx':ms[((k:Nat):Int).toNat]? =some ms[k]:=hgo
  have hxm:ms[k]∈ms:=List.getElem_mem _
  generalize ms[k]=x at hgo hx' hxm
  have hf:scoredF (ms.take (k+1)) jobs t=scoredF (ms.take k) jobs t++ (if(scoreF x jobs t).2=true then some (⟨x.node.name,(scoreF x jobs t).1⟩:Sc)else none).toList:=fm_take _ hgo
  have c1:=score_ok x jobs t hl (hml x hxm) htl
  generalize scoreF x jobs t=g at hf c1
  generalize scoredF (ms.take k) jobs t=os at hf hol
  obtain⟨g1,g2⟩:=g
  conv=>whnf
  refine k_el (get_map hx') (by omega) ?_
  conv=>whnf
  refine call_closed c1 ?_
  conv=>whnf
  cases g2
  case false=>
   simp only[Bool.false_eq_true,if_false,Option.toList_none,List.append_nil]at hf
   conv=>whnf
   refine w_i64 (by omega) ?_
   conv=>whnf
   exact at_head [some 0,some 1] _ [(1,jbs jobs),(5, .ptr 0 0 0),(7, .slc 1 0 os.length none),(12,mcs ms),(13,i64 (ms.map mcA).length),(14,i64 (k+1:Nat))] ⟨hk2,by rw[hf],by rw[hf]⟩
  simp only[if_true,Option.toList_some]at hf
  conv=>whnf
  refine app_map (f:=scA) (l:=os) (new:=[⟨x.node.name,g1⟩]) rfl rfl (Nat.le_refl _) (by simp[roomBound];omega) (fun _=> ?_) (fun h=>absurd h (by omega))
  conv=>whnf
  refine w_i64 (by omega) ?_
  conv=>whnf
  exact at_head [some 0,some 4] [some (.rows 47 10 [tkA t]),some (.rows 210 2 ((os++ [(⟨x.node.name,g1⟩:Sc)]).map scA))] [(1,jbs jobs),(5, .ptr 0 0 0),(7, .slc 1 0 (os++ [(⟨x.node.name,g1⟩:Sc)]).length none),(12,mcs ms),(13,i64 (ms.map mcA).length),(14,i64 (k+1:Nat))] ⟨hk2,by rw[hf],by rw[hf]⟩
 ·conv=>whnf
  exact at_head [some 0,none] [some (.rows 47 10 [tkA t]),some (.rows 210 2 ((scoredF (ms.take 0) jobs t).map scA))] _ ⟨rfl,rfl⟩
theorem best_ok(ms:List Mc)(jobs:List Jb)(t:Tk)(hl:(jobs.length:Int)≤1000000)(hms:ms.length<100)(hml:∀m∈ms,(m.node.labels.length:Int)≤1000000)(htl:(t.wants.length:Int)≤1000000):AC PR 166 [mcs ms,jbs jobs,tkA t] [] (.tuple [.str (bestF ms jobs t).1, .bool (bestF ms jobs t).2]) []:=by
 have c1:=all_ok ms jobs t hl hms hml htl
 have hB:bestF ms jobs t=match allF ms jobs t with
  | []=>(⟨#[]⟩,false)
  |a::_=>(a.name,true):=rfl
 generalize bestF ms jobs t=r at hB
 generalize allF ms jobs t=l at c1 hB
 apply A166
 conv=>whnf
 refine call_closed c1 ?_
 conv=>whnf
 cases l with
 |nil=>
  simp only at hB
  subst hB
  conv=>whnf
  exact at_end []
 |cons a l=>
  simp only at hB
  subst hB
  conv=>whnf
  exact at_end []
end Go.Am.Pt
end
section
open Go Go.Am Go.Proofs
namespace Go.Am.Pt
def tryF(ms:List Mc):List Jb→List Ac→List Nat→Option (List Jb×List Ac)
 |js,ac,[]=>some (js,ac)
 |js,ac,p::u=>match js[p]? with
  |none=>none
  |some x=>if(bestF ms js x.task).2=true then tryF ms (js.set p (bindJ (bestF ms js x.task).1 x)) (ac++ [⟨1,x.task.name,(bestF ms js x.task).1⟩]) u else none
def tryG(s:St)(u:List Nat):List Ac×Bool×St:=match tryF s.machines s.jobs [] u with
 |none=>([],false,s)
 |some (js,ac)=>(ac,true,wj s js)
abbrev tkS(js:List Jb):List (Tk×Int):=js.map fun j=>(j.task,j.seq)
theorem tkS_len {a b:List Jb}(h:tkS a=tkS b):a.length=b.length:=by simpa using congrArg List.length h
theorem tkS_set {js:List Jb}{p:Nat}{x:Jb}(h:js[p]? =some x)(y:Jb)(e1:y.task=x.task)(e2:y.seq=x.seq):tkS (js.set p y)=tkS js:=by
 have hp:=(List.getElem?_eq_some_iff.1 h).1
 apply List.ext_getElem?
 intro j
 rw[List.getElem?_map,List.getElem?_set,List.getElem?_map]
 split
 ·rename_i e
  subst e
  rw[h]
  simp[e1,e2]
 ·rfl
theorem tkS_seq {a b:List Jb}(h:tkS a=tkS b):a.map (·.seq)=b.map (·.seq):=by
 have:=congrArg (List.map Prod.snd) h
 simpa[List.map_map,Function.comp_def]using this
theorem tkS_mem {a b:List Jb}(h:tkS a=tkS b){P:Tk→Prop}(hb:∀j∈b,P j.task):∀j∈a,P j.task:=by
 intro j hj
 have:(j.task,j.seq)∈tkS a:=List.mem_map_of_mem (f:=fun j=>(j.task,j.seq)) hj
 rw[h]at this
 obtain⟨x,hx,e⟩:=List.mem_map.1 this
 simp only[Prod.mk.injEq]at e
 rw[←e.1];exact hb x hx
theorem tryF_keeps(ms:List Mc):∀ (u:List Nat) (js:List Jb) (ac:List Ac) (js':List Jb) (ac':List Ac),tryF ms js ac u=some (js',ac')→tkS js'=tkS js∧ac'.length=ac.length+u.length
 | [],js,ac,js',ac',h=>by
  simp only[tryF,Option.some.injEq,Prod.mk.injEq]at h
  obtain⟨rfl,rfl⟩:=h
  exact⟨rfl,rfl⟩
 |p::u,js,ac,js',ac',h=>by
  unfold tryF at h
  split at h
  ·cases h
  ·rename_i x hx
   split at h
   ·obtain⟨h1,h2⟩:=tryF_keeps ms u _ _ _ _ h
    exact⟨h1.trans (tkS_set hx (bindJ _ x) rfl rfl),by rw[h2];simp;omega⟩
   ·cases h
theorem tryG_keeps(s:St)(u:List Nat):tkS (tryG s u).2.2.jobs=tkS s.jobs∧(tryG s u).1.length≤u.length∧(tryG s u).2.2=wj s (tryG s u).2.2.jobs:=by
 unfold tryG
 cases h:tryF s.machines s.jobs [] u with
 |none=>exact⟨rfl,Nat.zero_le _,rfl⟩
 |some r=>
  obtain⟨js,ac⟩:=r
  obtain⟨h1,h2⟩:=tryF_keeps _ _ _ _ _ _ h
  exact⟨h1,by simp at h2;simp[h2],rfl⟩
theorem try_ok(s:St)(u:List Nat)(hz:StW s)(hms:s.machines.length<100)(hu:(u.length:Int)≤1000000)(hp:∀p∈u,p<s.jobs.length):AC PR 139 [.ptr 0 0 0, .lst 1 (u.map iN) none] (gH s) (.tuple [acs (tryG s u).1, .bool (tryG s u).2.1]) (gK (tryG s u).2.2):=by
 have hzj:=hz.j
 have hzw:=hz.w
 have hum:(u.map iN).length=u.length:=List.length_map ..
 apply A139
 conv=>whnf
 refine call_fr (R:= .slc 4 0 s.jobs.length none) [3] [] [rowsJ s.jobs,rowsJ s.jobs] (cloneJ_own s.jobs hzj) ?_
 conv=>whnf
 refine loop_to u.length (fun k e H=>∃js ac,tryF s.machines js ac (u.drop k)=tryF s.machines s.jobs [] u∧tkS js=tkS s.jobs∧ac.length=k∧e=[(0, .ptr 0 0 0),(6, .slc 4 0 js.length none),(7, .slc 5 0 ac.length none),(18, .lst 1 (u.map iN) none),(19,i64 (u.map iN).length),(20,i64 k)]∧H=gH s++ [rowsJ js,some (.rows 61 3 (ac.map acA))]) ?_ ?_
 ·rintro k e H hk ⟨js,ac,hR,hT,hA,rfl,rfl⟩
  have hjl:=tkS_len hT
  have hjw:=tkS_mem (P:=fun t=>(t.wants.length:Int)≤1000000) hT hzw
  conv=>whnf
  generalize hq:decide ((k:Int)<((u.map iN).length:Int))=q
  cases q
  case false=>
   have hk2:¬k<u.length:=by have:=of_decide_eq_false hq;omega
   rw[List.drop_eq_nil_of_le (by omega)]at hR
   have hB:tryG s u=(ac,true,wj s js):=by unfold tryG;rw[←hR];rfl
   rw[hB]
   have hjl2:(wj s js).jobs.length=js.length:=rfl
   conv=>whnf
   exact at_end [some 0,some 1,some 2,some 3,some 1,some 2,some 4]
  have hk2:k<u.length:=by have:=of_decide_eq_true hq;omega
  have hgo:=List.getElem?_eq_getElem hk2
  have hx':u[((k:Nat):Int).toNat]? =some u[k]:=hgo
  have hpl:=hp u[k] (List.getElem_mem _)
  rw[List.drop_eq_getElem_cons hk2]at hR
  generalize u[k]=p at hgo hx' hpl hR
  have hgp:=List.getElem?_eq_getElem (l:=js) (i:=p) (by omega)
  have hgp':js[((p:Nat):Int).toNat]? =some js[p]:=hgp
  have hxw:=hjw js[p] (List.getElem_mem _)
  generalize js[p]=x at hgp hgp' hxw
  simp only[tryF,hgp]at hR
  have c1:=best_ok s.machines js x.task (by omega) hms hz.l hxw
  have c2:=bind_ok js p x (bestF s.machines js x.task).1 hgp (by omega)
  generalize bestF s.machines js x.task=b at hR c1 c2
  obtain⟨name,ok⟩:=b
  conv=>whnf
  refine k_el (get_map hx') (by omega) ?_
  conv=>whnf
  refine tA ?_
  refine call_fr [] [1,4] [] c1 ?_
  conv=>whnf
  refine tB ?_
  cases ok
  case false=>
   simp only[Bool.false_eq_true,if_false]at hR
   have hB:tryG s u=([],false,s):=by unfold tryG;rw[←hR]
   rw[hB]
   conv=>whnf
   exact at_end [some 0,some 1,some 2,some 3,some 1,some 2,some 3]
  simp only[if_true]at hR
  conv=>whnf
  refine call_fr (R:=acA ⟨1,x.task.name,name⟩) [4] [] [rowsJ (js.set p (bindJ name x))] c2 ?_
  conv=>whnf
  refine app_map (f:=acA) (l:=ac) (new:=[⟨1,x.task.name,name⟩]) rfl rfl (by omega) (by simp[roomBound];omega) (fun _=> ?_) (fun h=>absurd h (by omega))
  conv=>whnf
  refine tA ?_
  have hl3:(js.set p (bindJ name x)).length=js.length:=List.length_set ..
  refine at_head [some 0,some 1,some 2,some 3,some 4,some 7] (gH s++ [rowsJ (js.set p (bindJ name x)),some (.rows 61 3 ((ac++ [(⟨1,x.task.name,name⟩:Ac)]).map acA))]) [(0, .ptr 0 0 0),(6, .slc 4 0 js.length none),(7, .slc 5 0 (ac++ [(⟨1,x.task.name,name⟩:Ac)]).length none),(18, .lst 1 (u.map iN) none),(19,i64 (u.map iN).length),(20,i64 (k+1:Nat))] ⟨hk2,js.set p (bindJ name x),ac++ [⟨1,x.task.name,name⟩],hR,(tkS_set hgp (bindJ name x) rfl rfl).trans hT,by simp[hA],by rw[hl3],rfl⟩
 ·conv=>whnf
  exact at_head [some 0,some 1,some 2,some 3,some 4,none] (gH s++ [rowsJ s.jobs,some (.rows 61 3 (([]:List Ac).map acA))]) _ ⟨s.jobs,[],rfl,rfl,rfl,rfl,rfl⟩
end Go.Am.Pt
end
