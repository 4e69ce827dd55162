/- Part of the proof: what functions of the program compute, walked. No conditions. -/
import Derived.Test.YtejbmdnhchoilaaGreatP01
set_option linter.unusedVariables false
set_option linter.unusedSimpArgs false
set_option maxRecDepth 100000
section
open Go Go.Am Go.Proofs
namespace Go.Am.Pt
theorem Go'.preR {n0:Nat}{src:List (Option Nat)}{H:AHeap}{fz:Nat→Prop}{t sz:Nat}{rs rs':List AV}(hp:rs' <+: rs)(h:∀r∈rs',Bel n0 r):Go' n0 src H fz (.rows t sz rs) (.rows t sz rs'):=by
 obtain⟨r,rfl⟩:=hp
 have:=Go'.take (n0:=n0) (src:=src) (H:=H) (fz:=fz) t sz (rs'++r) rs'.length fun x hx=>h x (by simpa using hx)
 simpa using this
theorem clr_raw {zero:AV} {t sz id i m:Nat} {H:AHeap} {rs:List AV} {k:AHeap→Prop} (hH:H[id]? =some (some (.rows t sz rs))) (hi:i+m≤rs.length) (hc:zero.cells.length=sz)
  (hk:k (H.set id (some (.rows t sz (rs.take i++List.replicate m zero++rs.drop (i+m)))))):OptK (aClear zero (.slc id i m none) H) k:=by
 refine k_some (v:=H.set id (some (.rows t sz (rs.take i++List.replicate m zero++rs.drop (i+m))))) ?_ hk
 simp[aClear,hH,hi,hc]
theorem Go'.setF {n0:Nat}{src:List (Option Nat)}{H:AHeap}{fz:Nat→Prop}{t sz:Nat}{α:Type}{f:α→AV}{l:List α}{k:Nat}{x:α}{r:AV}(hx:l[k]? =some x)(hb:∀a,Bel n0 (f a))(h:Gv n0 src H fz r (f x)):Go' n0 src H fz (.rows t sz ((l.map f).set k r)) (.rows t sz (l.map f)):=by
 refine .rows _ _ _ _ (by simp) fun i a b ha hb'=> ?_
 rw[List.getElem?_set]at ha
 split at ha
 ·rename_i e
  subst e
  rw[List.getElem?_map,hx]at hb'
  split at ha
  ·cases ha;cases hb';exact h
  ·cases ha
 ·rw[ha]at hb'
  cases hb'
  obtain⟨y,_,rfl⟩:=List.mem_map.1 (List.mem_of_getElem? ha)
  exact .same _ (hb y)
theorem f_raw {l:List AV}{k:List AV→Prop}(hk:k l):forceS l k:=by rw[forceS_eq];exact hk
theorem cloneJ_ok(l:List Jb)(hl:(l.length:Int)≤1000000):AC PR 63 [.lst 13 (l.map jbA) none] [] (.slc 0 0 l.length none) [some (.rows 63 13 (l.map jbA))]:=by
 apply A63
 cases l with
 |nil=>
  conv=>whnf
  refine nil_both rfl ?_
  intro b
  cases b
  case true=>
   conv=>whnf
   exact at_end [none]
  conv=>whnf
  refine app_map (f:=jbA) (l:=[]) (new:=[]) rfl rfl (by simp) (by decide) (fun _=> ?_) (fun h=>absurd h (by simp))
  conv=>whnf
  exact at_end [some 1]
 |cons x l=>
  conv=>whnf
  refine nil_is (b:=false) rfl ?_
  conv=>whnf
  refine app_map (f:=jbA) (l:=[]) (new:=x::l) rfl rfl (by simp) (by simp only[List.length_replicate];unfold roomBound;omega) (fun _=> ?_) (fun h=>absurd h (by simp))
  conv=>whnf
  exact at_end [some 1]
theorem cloneJ_own(l:List Jb)(hl:(l.length:Int)≤1000000):AC PR 63 [.slc 0 0 l.length none] [some (.rows 63 13 (l.map jbA))] (.slc 1 0 l.length none) [some (.rows 63 13 (l.map jbA)),some (.rows 63 13 (l.map jbA))]:=by
 apply A63
 cases l with
 |nil=>
  conv=>whnf
  refine nil_both rfl ?_
  intro b
  cases b
  case true=>
   conv=>whnf
   exact at_end [some 0,none]
  conv=>whnf
  refine app_map (f:=jbA) (l:=[]) (new:=[]) rfl rfl (by simp) (by decide) (fun _=> ?_) (fun h=>absurd h (by simp))
  conv=>whnf
  exact at_end [some 0,some 2]
 |cons x l=>
  conv=>whnf
  refine nil_is (b:=false) rfl ?_
  conv=>whnf
  refine app_map (f:=jbA) (l:=[]) (new:=x::l) rfl (view_o (l:=x::l) rfl (by simp) (by simp)) (by simp) (by simp only[List.length_replicate];unfold roomBound;omega) (fun _=> ?_) (fun h=>absurd h (by simp))
  conv=>whnf
  exact at_end [some 0,some 2]
theorem cloneM_ok(l:List Mc)(hl:(l.length:Int)≤1000000):AC PR 60 [.lst 7 (l.map mcA) none] [] (.slc 0 0 l.length none) [some (.rows 57 7 (l.map mcA))]:=by
 apply A60
 cases l with
 |nil=>
  conv=>whnf
  refine nil_both rfl ?_
  intro b
  cases b
  case true=>
   conv=>whnf
   exact at_end [none]
  conv=>whnf
  refine app_map (f:=mcA) (l:=[]) (new:=[]) rfl rfl (by simp) (by decide) (fun _=> ?_) (fun h=>absurd h (by simp))
  conv=>whnf
  exact at_end [some 1]
 |cons x l=>
  conv=>whnf
  refine nil_is (b:=false) rfl ?_
  conv=>whnf
  refine app_map (f:=mcA) (l:=[]) (new:=x::l) rfl rfl (by simp) (by simp only[List.length_replicate];unfold roomBound;omega) (fun _=> ?_) (fun h=>absurd h (by simp))
  conv=>whnf
  exact at_end [some 1]
theorem cloneM_own(l:List Mc)(hl:(l.length:Int)≤1000000):AC PR 60 [.slc 0 0 l.length none] [some (.rows 57 7 (l.map mcA))] (.slc 1 0 l.length none) [some (.rows 57 7 (l.map mcA)),some (.rows 57 7 (l.map mcA))]:=by
 apply A60
 cases l with
 |nil=>
  conv=>whnf
  refine nil_both rfl ?_
  intro b
  cases b
  case true=>
   conv=>whnf
   exact at_end [some 0,none]
  conv=>whnf
  refine app_map (f:=mcA) (l:=[]) (new:=[]) rfl rfl (by simp) (by decide) (fun _=> ?_) (fun h=>absurd h (by simp))
  conv=>whnf
  exact at_end [some 0,some 2]
 |cons x l=>
  conv=>whnf
  refine nil_is (b:=false) rfl ?_
  conv=>whnf
  refine app_map (f:=mcA) (l:=[]) (new:=x::l) rfl (view_o (l:=x::l) rfl (by simp) (by simp)) (by simp) (by simp only[List.length_replicate];unfold roomBound;omega) (fun _=> ?_) (fun h=>absurd h (by simp))
  conv=>whnf
  exact at_end [some 0,some 2]
theorem cloneQ_ok(l:List Qu)(hl:(l.length:Int)≤1000000):AC PR 62 [.lst 4 (l.map quR) none] [] (.slc 0 0 l.length none) [some (.rows 45 4 (l.map quR))]:=by
 apply A62
 cases l with
 |nil=>
  conv=>whnf
  refine nil_both rfl ?_
  intro b
  cases b
  case true=>
   conv=>whnf
   exact at_end [none]
  conv=>whnf
  refine app_map (f:=quR) (l:=[]) (new:=[]) rfl rfl (by simp) (by decide) (fun _=> ?_) (fun h=>absurd h (by simp))
  conv=>whnf
  exact at_end [some 1]
 |cons x l=>
  conv=>whnf
  refine nil_is (b:=false) rfl ?_
  conv=>whnf
  refine app_map (f:=quR) (l:=[]) (new:=x::l) rfl rfl (by simp) (by simp only[List.length_replicate];unfold roomBound;omega) (fun _=> ?_) (fun h=>absurd h (by simp))
  conv=>whnf
  exact at_end [some 1]
theorem cloneQ_own(l:List Qu)(hl:(l.length:Int)≤1000000):AC PR 62 [.slc 0 0 l.length none] [some (.rows 45 4 (l.map quR))] (.slc 1 0 l.length none) [some (.rows 45 4 (l.map quR)),some (.rows 45 4 (l.map quR))]:=by
 apply A62
 cases l with
 |nil=>
  conv=>whnf
  refine nil_both rfl ?_
  intro b
  cases b
  case true=>
   conv=>whnf
   exact at_end [some 0,none]
  conv=>whnf
  refine app_map (f:=quR) (l:=[]) (new:=[]) rfl rfl (by simp) (by decide) (fun _=> ?_) (fun h=>absurd h (by simp))
  conv=>whnf
  exact at_end [some 0,some 2]
 |cons x l=>
  conv=>whnf
  refine nil_is (b:=false) rfl ?_
  conv=>whnf
  refine app_map (f:=quR) (l:=[]) (new:=x::l) rfl (view_o (l:=x::l) rfl (by simp) (by simp)) (by simp) (by simp only[List.length_replicate];unfold roomBound;omega) (fun _=> ?_) (fun h=>absurd h (by simp))
  conv=>whnf
  exact at_end [some 0,some 2]
theorem cloneL_ok(l:List Lb)(hl:(l.length:Int)≤1000000):AC PR 61 [.lst 2 (l.map lb) none] [] (.slc 0 0 l.length none) [some (.rows 65 2 (l.map lb))]:=by
 apply A61
 cases l with
 |nil=>
  conv=>whnf
  refine nil_both rfl ?_
  intro b
  cases b
  case true=>
   conv=>whnf
   exact at_end [none]
  conv=>whnf
  refine app_map (f:=lb) (l:=[]) (new:=[]) rfl rfl (by simp) (by decide) (fun _=> ?_) (fun h=>absurd h (by simp))
  conv=>whnf
  exact at_end [some 1]
 |cons x l=>
  conv=>whnf
  refine nil_is (b:=false) rfl ?_
  conv=>whnf
  refine app_map (f:=lb) (l:=[]) (new:=x::l) rfl rfl (by simp) (by simp only[List.length_replicate];unfold roomBound;omega) (fun _=> ?_) (fun h=>absurd h (by simp))
  conv=>whnf
  exact at_end [some 1]
theorem cloneL_own(l:List Lb)(hl:(l.length:Int)≤1000000):AC PR 61 [.slc 0 0 l.length none] [some (.rows 65 2 (l.map lb))] (.slc 1 0 l.length none) [some (.rows 65 2 (l.map lb)),some (.rows 65 2 (l.map lb))]:=by
 apply A61
 cases l with
 |nil=>
  conv=>whnf
  refine nil_both rfl ?_
  intro b
  cases b
  case true=>
   conv=>whnf
   exact at_end [some 0,none]
  conv=>whnf
  refine app_map (f:=lb) (l:=[]) (new:=[]) rfl rfl (by simp) (by decide) (fun _=> ?_) (fun h=>absurd h (by simp))
  conv=>whnf
  exact at_end [some 0,some 2]
 |cons x l=>
  conv=>whnf
  refine nil_is (b:=false) rfl ?_
  conv=>whnf
  refine app_map (f:=lb) (l:=[]) (new:=x::l) rfl (view_o (l:=x::l) rfl (by simp) (by simp)) (by simp) (by simp only[List.length_replicate];unfold roomBound;omega) (fun _=> ?_) (fun h=>absurd h (by simp))
  conv=>whnf
  exact at_end [some 0,some 2]
theorem cloneI_ok(l:List Int)(hl:(l.length:Int)≤1000000):AC PR 165 [.lst 1 (l.map i64) none] [] (.slc 0 0 l.length none) [some (.rows 3 1 (l.map i64))]:=by
 apply A165
 cases l with
 |nil=>
  conv=>whnf
  refine nil_both rfl ?_
  intro b
  cases b
  case true=>
   conv=>whnf
   exact at_end [none]
  conv=>whnf
  refine app_map (f:=i64) (l:=[]) (new:=[]) rfl rfl (by simp) (by decide) (fun _=> ?_) (fun h=>absurd h (by simp))
  conv=>whnf
  exact at_end [some 1]
 |cons x l=>
  conv=>whnf
  refine nil_is (b:=false) rfl ?_
  conv=>whnf
  refine app_map (f:=i64) (l:=[]) (new:=x::l) rfl rfl (by simp) (by simp only[List.length_replicate];unfold roomBound;omega) (fun _=> ?_) (fun h=>absurd h (by simp))
  conv=>whnf
  exact at_end [some 1]
theorem deleteJ_ok(l:List Jb)(k:Nat)(hk:k<l.length)(hl:(l.length:Int)≤1000000):AC PR 104 [.slc 0 0 l.length none,i64 k,i64 (k+1:Nat)] [some (.rows 63 13 (l.map jbA))] (.slc 0 0 (l.length-1) none) [some (.rows 63 13 ((l.eraseIdx k).map jbA))]:=by
 apply A104
 conv=>whnf
 refine k_eq (sl_3_eq rfl (by omega) (by omega) (by omega) (by simp)) ?_
 conv=>whnf
 generalize hq:decide ((k:Int)=((k+1:Nat):Int))=q
 cases q
 case true=>exact absurd (of_decide_eq_true hq) (by omega)
 conv=>whnf
 refine k_eq (sl_hi_eq rfl (by omega) (by simp;omega)) ?_
 conv=>whnf
 refine k_eq (sl_lo_eq rfl (by omega) (by omega) (by simp)) ?_
 conv=>whnf
 refine app_map (f:=jbA) (l:=l) (new:=l.drop (k+1)) rfl (view_o (l:=l) rfl (by omega) (by rw[List.take_of_length_le (by simp)];rfl)) (by omega) (by simp[roomBound];omega) (fun h=>absurd h (by omega)) (fun h=>⟨by simp;omega, ?_⟩)
 have e1:(k:Int).toNat+ (l.drop (k+1)).length=l.length-1:=by simp;omega
 rw[e1]
 conv=>whnf
 refine k_eq (sl_lohi_eq rfl (by omega) (by omega) (by simp;omega)) ?_
 conv=>whnf
 refine clr_raw rfl (by simp;omega) rfl ?_
 conv=>whnf
 refine at_end [some 0] (hN:=⟨⟨_,rfl,Go'.preR ?_ ?_⟩,trivial⟩)
 ·have hA:(l.take k++l.drop (k+1)).length=l.length-1:=by simp;omega
  have hT:∀X:List Jb,(l.take k++l.drop (k+1)++X).take (l.length-1)=l.take k++l.drop (k+1):=fun X=>by rw[←hA,List.take_left]
  rw[List.eraseIdx_eq_take_drop_succ,show((k:Int)).toNat=k from rfl,show(((l.length-1:Nat):Int)).toNat=l.length-1 from rfl,←List.map_take,hT,List.append_assoc]
  exact List.prefix_append _ _
 ·intro r hr
  obtain⟨a,_,rfl⟩:=List.mem_map.1 hr
  simp
theorem deleteM_ok(l:List Mc)(k:Nat)(hk:k<l.length)(hl:(l.length:Int)≤1000000):AC PR 92 [.slc 0 0 l.length none,i64 k,i64 (k+1:Nat)] [some (.rows 57 7 (l.map mcA))] (.slc 0 0 (l.length-1) none) [some (.rows 57 7 ((l.eraseIdx k).map mcA))]:=by
 apply A92
 conv=>whnf
 refine k_eq (sl_3_eq rfl (by omega) (by omega) (by omega) (by simp)) ?_
 conv=>whnf
 generalize hq:decide ((k:Int)=((k+1:Nat):Int))=q
 cases q
 case true=>exact absurd (of_decide_eq_true hq) (by omega)
 conv=>whnf
 refine k_eq (sl_hi_eq rfl (by omega) (by simp;omega)) ?_
 conv=>whnf
 refine k_eq (sl_lo_eq rfl (by omega) (by omega) (by simp)) ?_
 conv=>whnf
 refine app_map (f:=mcA) (l:=l) (new:=l.drop (k+1)) rfl (view_o (l:=l) rfl (by omega) (by rw[List.take_of_length_le (by simp)];rfl)) (by omega) (by simp[roomBound];omega) (fun h=>absurd h (by omega)) (fun h=>⟨by simp;omega, ?_⟩)
 have e1:(k:Int).toNat+ (l.drop (k+1)).length=l.length-1:=by simp;omega
 rw[e1]
 conv=>whnf
 refine k_eq (sl_lohi_eq rfl (by omega) (by omega) (by simp;omega)) ?_
 conv=>whnf
 refine clr_raw rfl (by simp;omega) rfl ?_
 conv=>whnf
 refine at_end [some 0] (hN:=⟨⟨_,rfl,Go'.preR ?_ ?_⟩,trivial⟩)
 ·have hA:(l.take k++l.drop (k+1)).length=l.length-1:=by simp;omega
  have hT:∀X:List Mc,(l.take k++l.drop (k+1)++X).take (l.length-1)=l.take k++l.drop (k+1):=fun X=>by rw[←hA,List.take_left]
  rw[List.eraseIdx_eq_take_drop_succ,show((k:Int)).toNat=k from rfl,show(((l.length-1:Nat):Int)).toNat=l.length-1 from rfl,←List.map_take,hT,List.append_assoc]
  exact List.prefix_append _ _
 ·intro r hr
  obtain⟨a,_,rfl⟩:=List.mem_map.1 hr
  simp
theorem deleteQ_ok(l:List Qu)(k:Nat)(hk:k<l.length)(hl:(l.length:Int)≤1000000):AC PR 99 [.slc 0 0 l.length none,i64 k,i64 (k+1:Nat)] [some (.rows 45 4 (l.map quR))] (.slc 0 0 (l.length-1) none) [some (.rows 45 4 ((l.eraseIdx k).map quR))]:=by
 apply A99
 conv=>whnf
 refine k_eq (sl_3_eq rfl (by omega) (by omega) (by omega) (by simp)) ?_
 conv=>whnf
 generalize hq:decide ((k:Int)=((k+1:Nat):Int))=q
 cases q
 case true=>exact absurd (of_decide_eq_true hq) (by omega)
 conv=>whnf
 refine k_eq (sl_hi_eq rfl (by omega) (by simp;omega)) ?_
 conv=>whnf
 refine k_eq (sl_lo_eq rfl (by omega) (by omega) (by simp)) ?_
 conv=>whnf
 refine app_map (f:=quR) (l:=l) (new:=l.drop (k+1)) rfl (view_o (l:=l) rfl (by omega) (by rw[List.take_of_length_le (by simp)];rfl)) (by omega) (by simp[roomBound];omega) (fun h=>absurd h (by omega)) (fun h=>⟨by simp;omega, ?_⟩)
 have e1:(k:Int).toNat+ (l.drop (k+1)).length=l.length-1:=by simp;omega
 rw[e1]
 conv=>whnf
 refine k_eq (sl_lohi_eq rfl (by omega) (by omega) (by simp;omega)) ?_
 conv=>whnf
 refine clr_raw rfl (by simp;omega) rfl ?_
 conv=>whnf
 refine at_end [some 0] (hN:=⟨⟨_,rfl,Go'.preR ?_ ?_⟩,trivial⟩)
 ·have hA:(l.take k++l.drop (k+1)).length=l.length-1:=by simp;omega
  have hT:∀X:List Qu,(l.take k++l.drop (k+1)++X).take (l.length-1)=l.take k++l.drop (k+1):=fun X=>by rw[←hA,List.take_left]
  rw[List.eraseIdx_eq_take_drop_succ,show((k:Int)).toNat=k from rfl,show(((l.length-1:Nat):Int)).toNat=l.length-1 from rfl,←List.map_take,hT,List.append_assoc]
  exact List.prefix_append _ _
 ·intro r hr
  obtain⟨a,_,rfl⟩:=List.mem_map.1 hr
  simp
abbrev rowsM(l:List Mc):Option AObj:=some (.rows 57 7 (l.map mcA))
abbrev rowsQ(l:List Qu):Option AObj:=some (.rows 45 4 (l.map quR))
abbrev rowsJ(l:List Jb):Option AObj:=some (.rows 63 13 (l.map jbA))
theorem copy_ok(s:St)(hz:StSz s):AC PR 27 [stA s] [] (.agg [i64 s.clock,i64 s.next, .slc 0 0 s.machines.length none, .slc 1 0 s.queues.length none, .slc 2 0 s.jobs.length none]) [rowsM s.machines,rowsQ s.queues,rowsJ s.jobs]:=by
 have hzm:=hz.m
 have hzq:=hz.q
 have hzj:=hz.j
 apply A27
 conv=>whnf
 refine call_fr [] [] [rowsM s.machines] (cloneM_ok s.machines hzm) ?_
 conv=>whnf
 refine loop_to s.machines.length (fun k e H=>e=[(1, .ptr 0 0 0),(2, .ptr 1 0 0),(12, .slc 2 0 s.machines.length none),(13,i64 s.machines.length),(14,i64 k)]∧H=[some (.rows 31 5 [.agg [i64 s.clock,i64 s.next, .slc 2 0 s.machines.length none, .lst 4 (s.queues.map quR) none, .lst 13 (s.jobs.map jbA) none]]),some (.rows 31 5 [.agg [i64 0,i64 0, .nilslc, .nilslc, .nilslc]]),rowsM s.machines]) ?_ ?_
 ·rintro k e H hk ⟨rfl,rfl⟩
  conv=>whnf
  generalize hq:decide ((k:Int)<((s.machines.length:Nat):Int))=q
  cases q
  case false=>
   conv=>whnf
   refine call_fr [] [] [rowsQ s.queues] (cloneQ_ok s.queues hzq) ?_
   conv=>whnf
   refine call_fr [] [] [rowsJ s.jobs] (cloneJ_ok s.jobs hzj) ?_
   conv=>whnf
   refine loop_to s.jobs.length (fun k e H=>e=[(1, .ptr 0 0 0),(2, .ptr 1 0 0),(39, .slc 4 0 s.jobs.length none),(40,i64 s.jobs.length),(41,i64 k)]∧H=[some (.rows 31 5 [.agg [i64 s.clock,i64 s.next, .slc 2 0 s.machines.length none, .slc 3 0 s.queues.length none, .slc 4 0 s.jobs.length none]]),some (.rows 31 5 [.agg [i64 0,i64 0, .nilslc, .nilslc, .nilslc]]),rowsM s.machines,rowsQ s.queues,rowsJ s.jobs]) ?_ ?_
   ·rintro k e H hk ⟨rfl,rfl⟩
    conv=>whnf
    generalize hq:decide ((k:Int)<((s.jobs.length:Nat):Int))=q
    cases q
    case false=>
     conv=>whnf
     exact at_end [some 2,some 3,some 4]
    have hk2:k<s.jobs.length:=by have:=of_decide_eq_true hq;omega
    have hgo:=List.getElem?_eq_getElem hk2
    have hlx:=hz.w _ (List.getElem_mem hk2)
    generalize s.jobs[k]=x at hgo hlx
    conv=>whnf
    refine tA ?_
    refine call_fr [] [] [some (.rows 65 2 (x.task.wants.map lb))] (cloneL_ok x.task.wants hlx) ?_
    conv=>whnf
    refine tA ?_
    refine f_raw ?_
    conv=>whnf
    refine tA ?_
    refine at_head [some 0,some 1,some 2,some 3,some 4] _ [(1, .ptr 0 0 0),(2, .ptr 1 0 0),(39, .slc 4 0 s.jobs.length none),(40,i64 s.jobs.length),(41,i64 (k+1:Nat))] ⟨hk2,rfl,rfl⟩ (hN:=by exact autoG)
   ·conv=>whnf
    exact at_head [some 0,some 1,some 2,some 3,some 4] _ _ ⟨rfl,rfl⟩
  have hk2:k<s.machines.length:=by have:=of_decide_eq_true hq;omega
  have hgo:=List.getElem?_eq_getElem hk2
  have hlx:=hz.l _ (List.getElem_mem hk2)
  generalize s.machines[k]=x at hgo hlx
  conv=>whnf
  refine tA ?_
  refine call_fr [] [] [some (.rows 65 2 (x.node.labels.map lb))] (cloneL_ok x.node.labels hlx) ?_
  conv=>whnf
  refine tA ?_
  refine f_raw ?_
  conv=>whnf
  refine tA ?_
  refine at_head [some 0,some 1,some 2] _ [(1, .ptr 0 0 0),(2, .ptr 1 0 0),(12, .slc 2 0 s.machines.length none),(13,i64 s.machines.length),(14,i64 (k+1:Nat))] ⟨hk2,rfl,rfl⟩ (hN:=by exact autoG)
 ·conv=>whnf
  exact at_head [some 0,some 1,some 2] _ _ ⟨rfl,rfl⟩
theorem copyO_ok(s:St)(hz:StSz s):AC PR 27 [.agg [i64 s.clock,i64 s.next, .slc 0 0 s.machines.length none, .slc 1 0 s.queues.length none, .slc 2 0 s.jobs.length none]] [rowsM s.machines,rowsQ s.queues,rowsJ s.jobs] (.agg [i64 s.clock,i64 s.next, .slc 3 0 s.machines.length none, .slc 4 0 s.queues.length none, .slc 5 0 s.jobs.length none]) [rowsM s.machines,rowsQ s.queues,rowsJ s.jobs,rowsM s.machines,rowsQ s.queues,rowsJ s.jobs]:=by
 have hzm:=hz.m
 have hzq:=hz.q
 have hzj:=hz.j
 apply A27
 conv=>whnf
 refine call_fr [0] [] [rowsM s.machines,rowsM s.machines] (cloneM_own s.machines hzm) ?_
 conv=>whnf
 refine loop_to s.machines.length (fun k e H=>e=[(1, .ptr 3 0 0),(2, .ptr 4 0 0),(12, .slc 5 0 s.machines.length none),(13,i64 s.machines.length),(14,i64 k)]∧H=[rowsM s.machines,rowsQ s.queues,rowsJ s.jobs,some (.rows 31 5 [.agg [i64 s.clock,i64 s.next, .slc 5 0 s.machines.length none, .slc 1 0 s.queues.length none, .slc 2 0 s.jobs.length none]]),some (.rows 31 5 [.agg [i64 0,i64 0, .nilslc, .nilslc, .nilslc]]),rowsM s.machines]) ?_ ?_
 ·rintro k e H hk ⟨rfl,rfl⟩
  conv=>whnf
  generalize hq:decide ((k:Int)<((s.machines.length:Nat):Int))=q
  cases q
  case false=>
   conv=>whnf
   refine call_fr [1] [] [rowsQ s.queues,rowsQ s.queues] (cloneQ_own s.queues hzq) ?_
   conv=>whnf
   refine call_fr [2] [] [rowsJ s.jobs,rowsJ s.jobs] (cloneJ_own s.jobs hzj) ?_
   conv=>whnf
   refine loop_to s.jobs.length (fun k e H=>e=[(1, .ptr 3 0 0),(2, .ptr 4 0 0),(39, .slc 7 0 s.jobs.length none),(40,i64 s.jobs.length),(41,i64 k)]∧H=[rowsM s.machines,rowsQ s.queues,rowsJ s.jobs,some (.rows 31 5 [.agg [i64 s.clock,i64 s.next, .slc 5 0 s.machines.length none, .slc 6 0 s.queues.length none, .slc 7 0 s.jobs.length none]]),some (.rows 31 5 [.agg [i64 0,i64 0, .nilslc, .nilslc, .nilslc]]),rowsM s.machines,rowsQ s.queues,rowsJ s.jobs]) ?_ ?_
   ·rintro k e H hk ⟨rfl,rfl⟩
    conv=>whnf
    generalize hq:decide ((k:Int)<((s.jobs.length:Nat):Int))=q
    cases q
    case false=>
     conv=>whnf
     exact at_end [some 0,some 1,some 2,some 5,some 6,some 7]
    have hk2:k<s.jobs.length:=by have:=of_decide_eq_true hq;omega
    have hgo:=List.getElem?_eq_getElem hk2
    have hlx:=hz.w _ (List.getElem_mem hk2)
    generalize s.jobs[k]=x at hgo hlx
    conv=>whnf
    refine tA ?_
    refine call_fr [] [] [some (.rows 65 2 (x.task.wants.map lb))] (cloneL_ok x.task.wants hlx) ?_
    conv=>whnf
    refine tA ?_
    refine f_raw ?_
    conv=>whnf
    refine tA ?_
    refine at_head [some 0,some 1,some 2,some 3,some 4,some 5,some 6,some 7] _ [(1, .ptr 3 0 0),(2, .ptr 4 0 0),(39, .slc 7 0 s.jobs.length none),(40,i64 s.jobs.length),(41,i64 (k+1:Nat))] ⟨hk2,rfl,rfl⟩ (hN:=by exact autoG)
   ·conv=>whnf
    exact at_head [some 0,some 1,some 2,some 3,some 4,some 5,some 6,some 7] _ _ ⟨rfl,rfl⟩
  have hk2:k<s.machines.length:=by have:=of_decide_eq_true hq;omega
  have hgo:=List.getElem?_eq_getElem hk2
  have hlx:=hz.l _ (List.getElem_mem hk2)
  generalize s.machines[k]=x at hgo hlx
  conv=>whnf
  refine tA ?_
  refine call_fr [] [] [some (.rows 65 2 (x.node.labels.map lb))] (cloneL_ok x.node.labels hlx) ?_
  conv=>whnf
  refine tA ?_
  refine f_raw ?_
  conv=>whnf
  refine tA ?_
  refine at_head [some 0,some 1,some 2,some 3,some 4,some 5] _ [(1, .ptr 3 0 0),(2, .ptr 4 0 0),(12, .slc 5 0 s.machines.length none),(13,i64 s.machines.length),(14,i64 (k+1:Nat))] ⟨hk2,rfl,rfl⟩ (hN:=by exact autoG)
 ·conv=>whnf
  exact at_head [some 0,some 1,some 2,some 3,some 4,some 5] _ _ ⟨rfl,rfl⟩
abbrev gRow(s:St):AV:= .agg [i64 s.clock,i64 s.next, .slc 1 0 s.machines.length none, .slc 2 0 s.queues.length none, .slc 3 0 s.jobs.length none]
abbrev gH(s:St):AHeap:=[some (.rows 68 5 [gRow s]),rowsM s.machines,rowsQ s.queues,rowsJ s.jobs]
abbrev St.new:St:=⟨0,1,[],[],[]⟩
theorem new_ok:AC PR 14 [] [] (.ptr 0 0 0) (gH St.new):=by
 apply A14
 conv=>whnf
 exact at_end [some 0,none,none,none]
theorem state_ok(s:St)(hz:StSz s)(hn:s.next≠0):AC PR 20 [.ptr 0 0 0] (gH s) (stA s) (gH s):=by
 apply A20
 conv=>whnf
 rw[decide_eq_false hn]
 conv=>whnf
 refine call_fr (R:= .agg [i64 s.clock,i64 s.next, .slc 5 0 s.machines.length none, .slc 6 0 s.queues.length none, .slc 7 0 s.jobs.length none]) [1,2,3] [] [rowsM s.machines,rowsQ s.queues,rowsJ s.jobs,rowsM s.machines,rowsQ s.queues,rowsJ s.jobs] (copyO_ok s hz) ?_
 conv=>whnf
 exact at_end [some 0,some 1,some 2,some 3]
theorem refuse_ok(e:Int):AC PR 44 [i64 e] [] (anA ⟨e,[]⟩) []:=by
 apply A44
 conv=>whnf
 exact at_end []
abbrev no(e:Int):An:=⟨e,[]⟩
structure StW(s:St):Prop extends StSz s where
 c0:0≤s.clock
 c1:s.clock≤1073741824
 n0:0≤s.next
 n1:s.next≤1073741824
def beatS(s:St)(k:Nat):St:=match s.machines[k]? with
 |some m=> {s with machines:=s.machines.set k {m with up:=true,til:=s.clock+4}}
 |none=>s
def beatG(s:St)(name:ByteArray):An×St:=if machF s.machines name<0 then(no 7,s)else(no 0,beatS s (machF s.machines name).toNat)
theorem idxB_lt {α:Type}(p:α→Bool)(l:List α)(h:¬idxB p l<0):(idxB p l).toNat<l.length∧idxB p l=((idxB p l).toNat:Nat)∧∃x,l[(idxB p l).toNat]? =some x∧p x=true:=by
 unfold idxB at h⊢
 cases hf:l.findIdx? p with
 |none=>rw[hf]at h;exact absurd (by decide) h
 |some i=>
  rw[List.findIdx?_eq_some_iff_getElem]at hf
  obtain⟨hi,hp,_⟩:=hf
  exact⟨hi,rfl,_,List.getElem?_eq_getElem hi,hp⟩
theorem beat_ok(s:St)(name:ByteArray)(hz:StW s):AC PR 50 [.ptr 0 0 0, .str name] (gH s) (anA (beatG s name).1) (gH (beatG s name).2):=by
 have c1:=machine_ok s name hz.m
 have hB:beatG s name=if machF s.machines name<0 then(no 7,s)else(no 0,beatS s (machF s.machines name).toNat):=rfl
 have hi:=idxB_lt (fun m:Mc=>decide (m.node.name=name)) s.machines
 rw[show idxB (fun m:Mc=>decide (m.node.name=name)) s.machines=machF s.machines name from rfl]at hi
 have hc0:=hz.c0
 have hc1:=hz.c1
 generalize machF s.machines name=i at c1 hB hi
 apply A50
 conv=>whnf
 refine call_fr [] [1,2,3] [] c1 ?_
 conv=>whnf
 generalize hq:decide (i<0)=q
 cases q
 case true=>
  rw[if_pos (of_decide_eq_true hq)]at hB
  rw[hB]
  conv=>whnf
  refine call_closed (refuse_ok 7) ?_
  conv=>whnf
  exact at_end [some 0,some 1,some 2,some 3]
 rw[if_neg (of_decide_eq_false hq)]at hB
 obtain⟨hlt,e,x,hx,_⟩:=hi (of_decide_eq_false hq)
 generalize i.toNat=k at hlt e hx hB
 subst e
 have hS:beatS s k= {s with machines:=s.machines.set k {x with up:=true,til:=s.clock+4}}:=by unfold beatS;rw[hx]
 rw[hS]at hB
 rw[hB]
 conv=>whnf
 refine tA ?_
 refine f_set (f:=mcA) {x with up:=true} rfl ?_
 conv=>whnf
 have hx2:(s.machines.set k {x with up:=true})[k]? =some {x with up:=true}:=by rw[List.getElem?_set_self hlt]
 repeat(first
  | (refine And.intro rfl ?_;conv=>whnf)
  | (refine k_idx ?_ _ rfl (by omega) (by omega);conv=>whnf)
  | (refine k_row (get_map hx2) ?_;conv=>whnf)
  | (refine k_some (get_map hx2) ?_;conv=>whnf)
  | (refine w_i64 (by omega) ?_;conv=>whnf))
 refine f_set (f:=mcA) {x with up:=true,til:=s.clock+4} rfl ?_
 rw[List.set_set]
 conv=>whnf
 exact at_end [some 0,some 1,some 2,some 3]
def upd {α:Type}(f:α→α)(k:Nat)(l:List α):List α:=(l.take k).map f++l.drop k
theorem upd_len {α:Type}(f:α→α)(k:Nat)(l:List α):(upd f k l).length=l.length:=by simp[upd];omega
theorem upd_all {α:Type}(f:α→α){k:Nat}{l:List α}(h:¬k<l.length):upd f k l=l.map f:=by
 unfold upd
 rw[List.take_of_length_le (by omega),List.drop_eq_nil_of_le (by omega),List.append_nil]
theorem upd_get {α:Type}(f:α→α){k:Nat}{l:List α}{x:α}(h:l[k]? =some x):(upd f k l)[k]? =some x:=by
 have hk:k<l.length:=(List.getElem?_eq_some_iff.1 h).1
 unfold upd
 rw[List.getElem?_append_right (by simp;omega)]
 simp only[List.length_map,List.length_take,List.getElem?_drop]
 rw[show k+ (k-min k l.length)=k by omega,h]
theorem upd_succ {α:Type}(f:α→α){k:Nat}{l:List α}{x:α}(h:l[k]? =some x):upd f (k+1) l=(upd f k l).set k (f x):=by
 have hk:k<l.length:=(List.getElem?_eq_some_iff.1 h).1
 apply List.ext_getElem?
 intro i
 rw[List.getElem?_set]
 by_cases h1:k=i
 ·subst h1
  rw[if_pos rfl,if_pos (by rw[upd_len];omega)]
  unfold upd
  rw[List.getElem?_append_left (by simp;omega),List.getElem?_map,List.getElem?_take,if_pos (by omega),h];rfl
 ·rw[if_neg h1]
  unfold upd
  by_cases h2:i<k
  ·rw[List.getElem?_append_left (by simp;omega),List.getElem?_append_left (by simp;omega)]
   simp only[List.getElem?_map,List.getElem?_take]
   rw[if_pos (by omega),if_pos (by omega)]
  ·rw[List.getElem?_append_right (by simp;omega),List.getElem?_append_right (by simp;omega)]
   simp only[List.length_map,List.length_take,List.getElem?_drop]
   congr 1;omega
theorem upd_same {α:Type}(f:α→α){k:Nat}{l:List α}{x:α}(h:l[k]? =some x)(hf:f x=x):upd f (k+1) l=upd f k l:=by
 rw[upd_succ f h,hf]
 have:=upd_get f h
 apply List.ext_getElem?
 intro i
 rw[List.getElem?_set]
 by_cases h1:k=i
 ·subst h1
  have hk:k<l.length:=(List.getElem?_eq_some_iff.1 h).1
  rw[if_pos rfl,if_pos (by rw[upd_len];omega),this]
 ·rw[if_neg h1]
def rel1(name:ByteArray)(j:Jb):Jb:=if j.node=name then {j with node:=⟨#[]⟩}else j
def relA(name:ByteArray)(l:List Jb):List Ac:=(l.filter fun j=>decide (j.node=name)).map fun j=>⟨3,j.task.name,name⟩
theorem relA_yes {name:ByteArray}{l:List Jb}{k:Nat}{x:Jb}(h:l[k]? =some x)(hx:x.node=name):relA name (l.take (k+1))=relA name (l.take k)++ [⟨3,x.task.name,name⟩]:=by
 rw[List.take_add_one,h]
 unfold relA
 rw[List.filter_append,List.map_append]
 simp[hx]
theorem relA_no {name:ByteArray}{l:List Jb}{k:Nat}{x:Jb}(h:l[k]? =some x)(hx:¬x.node=name):relA name (l.take (k+1))=relA name (l.take k):=by
 rw[List.take_add_one,h]
 unfold relA
 rw[List.filter_append,List.map_append]
 simp[hx]
theorem relA_len(name:ByteArray)(l:List Jb):(relA name l).length≤l.length:=by
 unfold relA
 rw[List.length_map]
 exact List.length_filter_le _ _
abbrev wj(s:St)(l:List Jb):St:= {s with jobs:=l}
theorem release_ok(s:St)(name:ByteArray)(hz:StW s):AC PR 91 [.ptr 0 0 0, .str name] (gH s) (acs (relA name s.jobs)) (gH (wj s (s.jobs.map (rel1 name)))):=by
 have hzj:=hz.j
 apply A91
 conv=>whnf
 refine loop_to s.jobs.length (fun k e H=>e=[(0, .ptr 0 0 0),(1, .str name),(5, .slc 4 0 (relA name (s.jobs.take k)).length none),(12, .slc 3 0 s.jobs.length none),(13,i64 s.jobs.length),(14,i64 k)]∧H=gH (wj s (upd (rel1 name) k s.jobs))++ [some (.rows 61 3 ((relA name (s.jobs.take k)).map acA))]) ?_ ?_
 ·rintro k e H hk ⟨rfl,rfl⟩
  have hul:=upd_len (rel1 name) k s.jobs
  have hul2:(wj s (upd (rel1 name) k s.jobs)).jobs.length=s.jobs.length:=hul
  conv=>whnf
  generalize hq:decide ((k:Int)<((s.jobs.length:Nat):Int))=q
  cases q
  case false=>
   have hk2:¬k<s.jobs.length:=by have:=of_decide_eq_false hq;omega
   rw[upd_all _ hk2,show s.jobs.take k=s.jobs from List.take_of_length_le (by omega)]
   conv=>whnf
   exact at_end [some 0,some 1,some 2,some 3]
  have hk2:k<s.jobs.length:=by have:=of_decide_eq_true hq;omega
  have hgo:=List.getElem?_eq_getElem hk2
  generalize s.jobs[k]=x at hgo
  have hg2:=upd_get (rel1 name) hgo
  conv=>whnf
  refine tA ?_
  generalize hq2:decide (x.node=name)=q2
  cases q2
  case false=>
   have hx:=of_decide_eq_false hq2
   conv=>whnf
   refine tA ?_
   have e1:=upd_same (rel1 name) hgo (by unfold rel1;rw[if_neg hx])
   have e2:=relA_no hgo hx
   refine at_head [some 0,some 1,some 2,some 3,some 4] (gH (wj s (upd (rel1 name) k s.jobs))++ [some (.rows 61 3 ((relA name (s.jobs.take k)).map acA))]) [(0, .ptr 0 0 0),(1, .str name),(5, .slc 4 0 (relA name (s.jobs.take k)).length none),(12, .slc 3 0 s.jobs.length none),(13,i64 s.jobs.length),(14,i64 (k+1:Nat))] ⟨hk2, ?_, ?_⟩
   ·rw[e2]
   ·rw[e1,e2]
  have hx:=of_decide_eq_true hq2
  have hrl:=relA_len name (s.jobs.take k)
  have e1:=upd_succ (rel1 name) hgo
  rw[show rel1 name x= {x with node:=⟨#[]⟩} by unfold rel1;rw[if_pos hx]]at e1
  have e2:=relA_yes hgo hx
  conv=>whnf
  refine app_map (f:=acA) (l:=relA name (s.jobs.take k)) (new:=[⟨3,x.task.name,name⟩]) rfl rfl (by omega) (by simp[roomBound]at hrl ⊢;omega) (fun _=> ?_) (fun h=>absurd h (by omega))
  conv=>whnf
  refine tA ?_
  refine f_set (f:=jbA) {x with node:=⟨#[]⟩} rfl ?_
  conv=>whnf
  refine tA ?_
  rw[show(k:Int).toNat=k from rfl,←e1]
  have hul3:(wj s (upd (rel1 name) (k+1) s.jobs)).jobs.length=s.jobs.length:=upd_len ..
  refine at_head [some 0,some 1,some 2,some 3,some 7] (gH (wj s (upd (rel1 name) (k+1) s.jobs))++ [some (.rows 61 3 ((relA name (s.jobs.take k)++ [(⟨3,x.task.name,name⟩:Ac)]).map acA))]) [(0, .ptr 0 0 0),(1, .str name),(5, .slc 4 0 (relA name (s.jobs.take k)++ [(⟨3,x.task.name,name⟩:Ac)]).length none),(12, .slc 3 0 s.jobs.length none),(13,i64 s.jobs.length),(14,i64 (k+1:Nat))] ⟨hk2, ?_, ?_⟩
  ·rw[e2]
  ·rw[e2]
 ·conv=>whnf
  exact at_head [some 0,some 1,some 2,some 3,none] (gH (wj s (upd (rel1 name) 0 s.jobs))++ [some (.rows 61 3 ((relA name (s.jobs.take 0)).map acA))]) _ ⟨rfl,rfl⟩
def dropNodeS(s:St)(k:Nat)(name:ByteArray):St:= {s with machines:=s.machines.eraseIdx k,jobs:=s.jobs.map (rel1 name)}
def dropNodeG(s:St)(name:ByteArray):An×St:=if machF s.machines name<0 then(no 7,s)else(⟨0,relA name s.jobs⟩,dropNodeS s (machF s.machines name).toNat name)
theorem dropNode_ok(s:St)(name:ByteArray)(hz:StW s):AC PR 46 [.ptr 0 0 0, .str name] (gH s) (anA (dropNodeG s name).1) (gH (dropNodeG s name).2):=by
 have c1:=machine_ok s name hz.m
 have c2:=release_ok s name hz
 have hB:dropNodeG s name=if machF s.machines name<0 then(no 7,s)else(⟨0,relA name s.jobs⟩,dropNodeS s (machF s.machines name).toNat name):=rfl
 have hi:=idxB_lt (fun m:Mc=>decide (m.node.name=name)) s.machines
 rw[show idxB (fun m:Mc=>decide (m.node.name=name)) s.machines=machF s.machines name from rfl]at hi
 have hzm:=hz.m
 generalize machF s.machines name=i at c1 hB hi
 apply A46
 conv=>whnf
 refine call_fr [] [1,2,3] [] c1 ?_
 conv=>whnf
 generalize hq:decide (i<0)=q
 cases q
 case true=>
  rw[if_pos (of_decide_eq_true hq)]at hB
  rw[hB]
  conv=>whnf
  refine call_closed (refuse_ok 7) ?_
  conv=>whnf
  exact at_end [some 0,some 1,some 2,some 3]
 rw[if_neg (of_decide_eq_false hq)]at hB
 obtain⟨hlt,e,x,hx,_⟩:=hi (of_decide_eq_false hq)
 generalize i.toNat=k at hlt e hx hB
 subst e
 rw[hB]
 conv=>whnf
 refine call_fr (R:=acs (relA name s.jobs)) [0,1,2,3] [] (gH (wj s (s.jobs.map (rel1 name)))) c2 ?_
 conv=>whnf
 refine w_i64 (by omega) ?_
 conv=>whnf
 refine call_fr (R:= .slc 1 0 (s.machines.length-1) none) [1] [] [rowsM (s.machines.eraseIdx k)] (deleteM_ok s.machines k hlt hzm) ?_
 conv=>whnf
 have hel:(s.machines.eraseIdx k).length=s.machines.length-1:=List.length_eraseIdx_of_lt hlt
 have hel2:(dropNodeS s k name).machines.length=s.machines.length-1:=hel
 have hel3:(dropNodeS s k name).jobs.length=s.jobs.length:=List.length_map ..
 exact at_end [some 0,some 1,some 2,some 3]
theorem is_jq_ok(s:ByteArray)(x):AC PR 98 [jbA x, .ptr 0 0 0] [some (.rows 9 1 [.str s])] (.bool ((fun j:Jb=>decide (j.task.queue=s)) x)) [some (.rows 9 1 [.str s])]:=by
 apply A98
 conv=>whnf
 exact at_end [some 0]
theorem idx_jq_ok(l)(s:ByteArray)(hl:(l.length:Int)≤1000000):AC PR 136 [.lst 13 (l.map jbA) none, .fn (.func 98) [] [.ptr 0 0 0]] [some (.rows 9 1 [.str s])] (i64 (idxB (fun j:Jb=>decide (j.task.queue=s)) l)) [some (.rows 9 1 [.str s])]:=by
 have hm:(l.map jbA).length=l.length:=List.length_map ..
 have hp:∀x,((fun j:Jb=>decide (j.task.queue=s)) x)=((fun j:Jb=>decide (j.task.queue=s)) x):=fun _=>rfl
 generalize hr:idxB (fun j:Jb=>decide (j.task.queue=s)) l=r
 have cc:=is_jq_ok s
 generalize(fun j:Jb=>decide (j.task.queue=s))=p at hr cc hp
 apply A136
 conv=>whnf
 refine loop_to l.length (fun k e H=>(∀j y,j<k→l[j]? =some y→p y=false)∧e=[(0, .lst 13 (l.map jbA) none),(1, .fn (.func 98) [] [.ptr 0 0 0]),(7,i64 (l.map jbA).length),(8,i64 k)]∧H=[some (.rows 9 1 [.str s])]) ?_ ?_
 ·rintro k e H hk ⟨hn,rfl,rfl⟩
  conv=>whnf
  generalize hq:decide ((k:Int)<((l.map jbA).length:Int))=q
  cases q
  case false=>
   have hk2:k=l.length:=by have:=of_decide_eq_false hq;omega
   subst hk2
   have:=hr.symm.trans (idxB_none hn)
   subst this
   conv=>whnf
   exact at_end [some 0]
  have hk2:k<l.length:=by have:=of_decide_eq_true hq;omega
  have hga:=List.getElem?_eq_getElem hk2
  generalize l[k]=y at hga
  have c1:=cc y
  generalize hq1:p y=q1 at c1
  conv=>whnf
  refine tA ?_
  refine callv_fr [0] [] [some (.rows 9 1 [.str s])] c1 ?_
  conv=>whnf
  cases q1<;>conv=>whnf
  ·refine w_as ((k+1:Nat):Int) (by omega) (by omega) ?_
   conv=>whnf
   exact at_head [some 0] _ [(0, .lst 13 (l.map jbA) none),(1, .fn (.func 98) [] [.ptr 0 0 0]),(7,i64 (l.map jbA).length),(8,i64 (k+1:Nat))] ⟨by omega,fun j z hj hz=>by
    by_cases e:j=k
    ·subst e;rw[hga]at hz;cases hz;exact hq1
    ·exact hn j z (by omega) hz,rfl,rfl⟩
  ·have:=hr.symm.trans (idxB_some hga hq1 hn)
   subst this
   exact at_end [some 0]
 ·conv=>whnf
  exact at_head [some 0] _ [(0, .lst 13 (l.map jbA) none),(1, .fn (.func 98) [] [.ptr 0 0 0]),(7,i64 (l.map jbA).length),(8,i64 (0:Nat))] ⟨by omega,rfl,rfl⟩
def busyB(l:List Jb)(name:ByteArray):Bool:=decide (0≤idxB (fun j:Jb=>decide (j.task.queue=name)) l)
theorem contains_jq(l:List Jb)(s:ByteArray)(hl:(l.length:Int)≤1000000):AC PR 97 [jbs l, .fn (.func 98) [] [.ptr 0 0 0]] [some (.rows 9 1 [.str s])] (.bool (busyB l s)) [some (.rows 9 1 [.str s])]:=by
 have c1:=idx_jq_ok l s hl
 rw[show busyB l s=decide (0≤idxB (fun j:Jb=>decide (j.task.queue=s)) l)from rfl]
 generalize idxB (fun j:Jb=>decide (j.task.queue=s)) l=r at c1
 apply A97
 conv=>whnf
 refine call_fr [0] [] [some (.rows 9 1 [.str s])] c1 ?_
 conv=>whnf
 exact at_end [some 0]
def dropQueueS(s:St)(k:Nat):St:= {s with queues:=s.queues.eraseIdx k}
def dropQueueG(s:St)(name:ByteArray):An×St:=if quF s.queues name<0 then(no 7,s)else if busyB s.jobs name then(no 11,s)else(no 0,dropQueueS s (quF s.queues name).toNat)
theorem dropQueue_ok(s:St)(name:ByteArray)(hz:StW s):AC PR 48 [.ptr 0 0 0, .str name] (gH s) (anA (dropQueueG s name).1) (gH (dropQueueG s name).2):=by
 have c1:=queueF_ok s name hz.q
 have c2:=contains_jq s.jobs name hz.j
 have hB:dropQueueG s name=if quF s.queues name<0 then(no 7,s)else if busyB s.jobs name then(no 11,s)else(no 0,dropQueueS s (quF s.queues name).toNat):=rfl
 have hi:=idxB_lt (fun m:Qu=>decide (m.name=name)) s.queues
 rw[show idxB (fun m:Qu=>decide (m.name=name)) s.queues=quF s.queues name from rfl]at hi
 have hzm:=hz.q
 generalize quF s.queues name=i at c1 hB hi
 generalize busyB s.jobs name=b at c2 hB
 apply A48
 conv=>whnf
 refine call_fr [] [1,2,3] [] c1 ?_
 conv=>whnf
 generalize hq:decide (i<0)=q
 cases q
 case true=>
  rw[if_pos (of_decide_eq_true hq)]at hB
  rw[hB]
  conv=>whnf
  refine call_closed (refuse_ok 7) ?_
  conv=>whnf
  exact at_end [some 0,some 1,some 2,some 3]
 rw[if_neg (of_decide_eq_false hq)]at hB
 obtain⟨hlt,e,x,hx,_⟩:=hi (of_decide_eq_false hq)
 generalize i.toNat=k at hlt e hx hB
 subst e
 conv=>whnf
 refine call_fr [4] [3] [some (.rows 9 1 [.str name])] c2 ?_
 conv=>whnf
 cases b
 case true=>
  rw[if_pos rfl]at hB
  rw[hB]
  conv=>whnf
  refine call_closed (refuse_ok 11) ?_
  conv=>whnf
  exact at_end [some 0,some 1,some 2,some 3]
 rw[if_neg (by simp)]at hB
 rw[hB]
 conv=>whnf
 refine w_i64 (by omega) ?_
 conv=>whnf
 refine call_fr (R:= .slc 2 0 (s.queues.length-1) none) [2] [] [rowsQ (s.queues.eraseIdx k)] (deleteQ_ok s.queues k hlt hzm) ?_
 conv=>whnf
 have hel:(dropQueueS s k).queues.length=s.queues.length-1:=List.length_eraseIdx_of_lt hlt
 exact at_end [some 0,some 1,some 2,some 3]
def goneJ(s:St)(name:ByteArray)(kind:Int)(k:Nat)(j:Jb):An×St:=if kind=7∧j.node=⟨#[]⟩then(no 12,s)
 else(⟨0,if kind=6∧¬j.node=⟨#[]⟩then [⟨3,name,j.node⟩]else []⟩,wj s (s.jobs.eraseIdx k))
def goneG(s:St)(name:ByteArray)(kind:Int):An×St:=if findJ s.jobs name<0 then(no 7,s)else match s.jobs[(findJ s.jobs name).toNat]? with
 |none=>(no 7,s)
 |some j=>goneJ s name kind (findJ s.jobs name).toNat j
theorem gone_ok(s:St)(name:ByteArray)(kind:Int)(hz:StW s):AC PR 52 [.ptr 0 0 0, .str name,i64 kind] (gH s) (anA (goneG s name kind).1) (gH (goneG s name kind).2):=by
 have c1:=find_ok s.jobs name hz.j
 apply A52
 conv=>whnf
 refine call_fr [] [3] [] c1 ?_
 conv=>whnf
 have hi:=idxB_lt (fun m:Jb=>decide (m.task.name=name)) s.jobs
 rw[show idxB (fun m:Jb=>decide (m.task.name=name)) s.jobs=findJ s.jobs name from rfl]at hi
 have hB:goneG s name kind=if findJ s.jobs name<0 then(no 7,s)else match s.jobs[(findJ s.jobs name).toNat]? with
 |none=>(no 7,s)
 |some j=>goneJ s name kind (findJ s.jobs name).toNat j:=rfl
 generalize findJ s.jobs name=i at hB hi
 have hzj:=hz.j
 generalize hq:decide (i<0)=q
 cases q
 case true=>
  have hlo:goneG s name kind=(no 7,s):=by rw[hB,if_pos (of_decide_eq_true hq)]
  rw[hlo]
  conv=>whnf
  refine call_closed (refuse_ok 7) ?_
  conv=>whnf
  exact at_end [some 0,some 1,some 2,some 3]
 have hneg:=of_decide_eq_false hq
 obtain⟨hlt,e,x,hx,_⟩:=hi hneg
 rw[if_neg hneg,hx]at hB
 replace hB:goneG s name kind=goneJ s name kind i.toNat x:=hB
 generalize i.toNat=k at hlt e hx hB
 subst e
 have hel:(s.jobs.eraseIdx k).length=s.jobs.length-1:=List.length_eraseIdx_of_lt hlt
 have hel2:(wj s (s.jobs.eraseIdx k)).jobs.length=s.jobs.length-1:=hel
 have c2:=waits_ok x
 unfold goneJ at hB
 conv=>whnf
 refine tA ?_
 generalize hq7:decide (kind=7)=q7
 generalize hqw:decide (x.node=⟨#[]⟩)=w at c2
 cases q7
 case false=>
  have h7:=of_decide_eq_false hq7
  rw[if_neg (fun h=>h7 h.1)]at hB
  conv=>whnf
  generalize hq6:decide (kind=6)=q6
  cases q6
  case false=>
   rw[if_neg (fun h=>of_decide_eq_false hq6 h.1)]at hB
   rw[hB]
   conv=>whnf
   refine w_i64 (by omega) ?_
   conv=>whnf
   refine call_fr (R:= .slc 3 0 (s.jobs.length-1) none) [3] [] [rowsJ (s.jobs.eraseIdx k)] (deleteJ_ok s.jobs k hlt hzj) ?_
   conv=>whnf
   exact at_end [some 0,some 1,some 2,some 3]
  have h6:=of_decide_eq_true hq6
  conv=>whnf
  refine call_closed c2 ?_
  conv=>whnf
  cases w
  case true=>
   rw[if_neg (fun h=>h.2 (of_decide_eq_true hqw))]at hB
   rw[hB]
   conv=>whnf
   refine w_i64 (by omega) ?_
   conv=>whnf
   refine call_fr (R:= .slc 3 0 (s.jobs.length-1) none) [3] [] [rowsJ (s.jobs.eraseIdx k)] (deleteJ_ok s.jobs k hlt hzj) ?_
   conv=>whnf
   exact at_end [some 0,some 1,some 2,some 3]
  rw[if_pos ⟨h6,of_decide_eq_false hqw⟩]at hB
  rw[hB]
  conv=>whnf
  refine w_i64 (by omega) ?_
  conv=>whnf
  refine call_fr (R:= .slc 3 0 (s.jobs.length-1) none) [3] [] [rowsJ (s.jobs.eraseIdx k)] (deleteJ_ok s.jobs k hlt hzj) ?_
  conv=>whnf
  exact at_end [some 0,some 1,some 2,some 3]
 have h7:=of_decide_eq_true hq7
 conv=>whnf
 refine call_closed c2 ?_
 conv=>whnf
 cases w
 case true=>
  rw[if_pos ⟨h7,of_decide_eq_true hqw⟩]at hB
  rw[hB]
  conv=>whnf
  refine call_closed (refuse_ok 12) ?_
  conv=>whnf
  exact at_end [some 0,some 1,some 2,some 3]
 rw[if_neg (fun h=>of_decide_eq_false hqw h.2)]at hB
 conv=>whnf
 generalize hq6:decide (kind=6)=q6
 cases q6
 case true=>exact absurd (of_decide_eq_true hq6) (by omega)
 rw[if_neg (fun h=>of_decide_eq_false hq6 h.1)]at hB
 rw[hB]
 conv=>whnf
 refine w_i64 (by omega) ?_
 conv=>whnf
 refine call_fr (R:= .slc 3 0 (s.jobs.length-1) none) [3] [] [rowsJ (s.jobs.eraseIdx k)] (deleteJ_ok s.jobs k hlt hzj) ?_
 conv=>whnf
 exact at_end [some 0,some 1,some 2,some 3]
theorem Go'.appF {n0:Nat}{src:List (Option Nat)}{H:AHeap}{fz:Nat→Prop}{t sz:Nat}{α:Type}{f:α→AV}{l:List α}{x:α}{r:AV}(hb:∀a,Bel n0 (f a))(h:Gv n0 src H fz r (f x)):Go' n0 src H fz (.rows t sz (l.map f++ [r])) (.rows t sz ((l++ [x]).map f)):=by
 refine .rows _ _ _ _ (by simp) fun i a b ha hb'=> ?_
 rw[List.map_append]at hb'
 by_cases hi:i<(l.map f).length
 ·rw[List.getElem?_append_left hi]at ha hb'
  rw[ha]at hb'
  cases hb'
  obtain⟨y,_,rfl⟩:=List.mem_map.1 (List.mem_of_getElem? ha)
  exact .same _ (hb y)
 ·rw[List.getElem?_append_right (by omega)]at ha hb'
  cases h0:i- (l.map f).length with
  |zero=>rw[h0]at ha hb';cases ha;cases hb';exact h
  |succ n=>rw[h0]at ha;cases ha
def admitF(q:Qu)(l:List Jb)(n:Rs):Int:=
 if¬ (queueB q=true)then 1 else if¬ (rightB n=true)then 1 else if¬ (usedF l q.name).2=0 then(usedF l q.name).2
 else if¬ (addF (usedF l q.name).1 n).2=0 then 9 else if fitsB (addF (usedF l q.name).1 n).1 q.quota then 0 else 9
theorem admit_ok(q:Qu)(l:List Jb)(n:Rs)(hl:(l.length:Int)≤1000000):AC PR 101 [quA q,jbs l,rsA n] [] (i64 (admitF q l n)) []:=by
 have c1:=queue_ok q
 have c2:=right_ok n
 have c3:=used_ok l q.name hl
 have hB:admitF q l n=if¬ (queueB q=true)then 1 else if¬ (rightB n=true)then 1 else if¬ (usedF l q.name).2=0 then(usedF l q.name).2
  else if¬ (addF (usedF l q.name).1 n).2=0 then 9 else if fitsB (addF (usedF l q.name).1 n).1 q.quota then 0 else 9:=rfl
 generalize usedF l q.name=u at c3 hB
 have c4:=add_ok u.1 n
 generalize addF u.1 n=a at c4 hB
 have c5:=fits_ok a.1 q.quota
 generalize queueB q=b1 at c1 hB
 generalize rightB n=b2 at c2 hB
 generalize fitsB a.1 q.quota=b5 at c5 hB
 obtain⟨u1,u2⟩:=u
 obtain⟨a1,a2⟩:=a
 generalize admitF q l n=r at hB
 apply A101
 conv=>whnf
 refine call_closed c1 ?_
 conv=>whnf
 cases b1
 case false=>
  conv=>whnf
  rw[if_pos (by simp)]at hB
  subst hB
  exact at_end []
 conv=>whnf
 refine call_closed c2 ?_
 conv=>whnf
 cases b2
 case false=>
  conv=>whnf
  rw[if_neg (by simp),if_pos (by simp)]at hB
  subst hB
  exact at_end []
 rw[if_neg (by simp),if_neg (by simp)]at hB
 conv=>whnf
 refine call_closed c3 ?_
 conv=>whnf
 generalize hq:decide (u2=0)=q1
 cases q1
 case false=>
  rw[if_pos (of_decide_eq_false hq)]at hB
  subst hB
  conv=>whnf
  exact at_end []
 rw[if_neg (fun h=>h (of_decide_eq_true hq))]at hB
 conv=>whnf
 refine call_closed c4 ?_
 conv=>whnf
 generalize hq2:decide (a2=0)=q2
 cases q2
 case false=>
  rw[if_pos (of_decide_eq_false hq2)]at hB
  subst hB
  conv=>whnf
  exact at_end []
 rw[if_neg (fun h=>h (of_decide_eq_true hq2))]at hB
 conv=>whnf
 refine call_closed c5 ?_
 conv=>whnf
 cases b5
 case false=>
  rw[if_neg (by simp)]at hB
  subst hB
  conv=>whnf
  exact at_end []
 rw[if_pos rfl]at hB
 subst hB
 conv=>whnf
 exact at_end []
def subS(s:St)(t:Tk):St:= {s with next:=s.next+1,jobs:=s.jobs++ [⟨t,s.next,⟨#[]⟩,0⟩]}
def submitQ(s:St)(t:Tk)(q:Qu):An×St:=
 if s.jobs.length=48 then(no 10,s)else if¬admitF q s.jobs t.need=0 then(no (admitF q s.jobs t.need),s)else if s.next=1073741824 then(no 6,s)else(no 0,subS s t)
def submitG(s:St)(t:Tk):An×St:=
 if 0≤findJ s.jobs t.name then(no 8,s)else if quF s.queues t.queue<0 then(no 7,s)
 else match s.queues[(quF s.queues t.queue).toNat]? with
  |none=>(no 7,s)
  |some q=>submitQ s t q
abbrev gKr(s:St):AV:= .agg [i64 s.clock,i64 s.next, .slc 4 0 s.machines.length none, .slc 5 0 s.queues.length none, .slc 6 0 s.jobs.length none]
abbrev gK(s:St):AHeap:=[some (.rows 68 5 [gKr s]),none,none,none,rowsM s.machines,rowsQ s.queues,rowsJ s.jobs]
theorem submit_ok(s:St)(t:Tk)(hz:StW s)(ht:(t.wants.length:Int)≤1000000):AC PR 49 [.ptr 0 0 0,tkA t] (gH s) (anA (submitG s t).1) (gK (submitG s t).2):=by
 have c1:=find_ok s.jobs t.name hz.j
 have c2:=queueF_ok s t.queue hz.q
 have hi:=idxB_lt (fun m:Qu=>decide (m.name=t.queue)) s.queues
 rw[show idxB (fun m:Qu=>decide (m.name=t.queue)) s.queues=quF s.queues t.queue from rfl]at hi
 have hB:submitG s t=if 0≤findJ s.jobs t.name then(no 8,s)else if quF s.queues t.queue<0 then(no 7,s)
  else match s.queues[(quF s.queues t.queue).toNat]? with
  |none=>(no 7,s)
  |some q=>submitQ s t q:=rfl
 have hzj:=hz.j
 have hn0:=hz.n0
 have hn1:=hz.n1
 generalize findJ s.jobs t.name=f at c1 hB
 generalize quF s.queues t.queue=i at c2 hB hi
 apply A49
 conv=>whnf
 refine call_fr [] [3] [] c1 ?_
 conv=>whnf
 generalize hq:decide (0≤f)=q1
 cases q1
 case true=>
  rw[if_pos (of_decide_eq_true hq)]at hB
  rw[hB]
  conv=>whnf
  refine call_closed (refuse_ok 8) ?_
  conv=>whnf
  exact at_end [some 0,some 1,some 2,some 3,some 1,some 2,some 3]
 rw[if_neg (of_decide_eq_false hq)]at hB
 conv=>whnf
 refine call_fr [] [1,2,3] [] c2 ?_
 conv=>whnf
 generalize hq2:decide (i<0)=q2
 cases q2
 case true=>
  rw[if_pos (of_decide_eq_true hq2)]at hB
  rw[hB]
  conv=>whnf
  refine call_closed (refuse_ok 7) ?_
  conv=>whnf
  exact at_end [some 0,some 1,some 2,some 3,some 1,some 2,some 3]
 have hneg:=of_decide_eq_false hq2
 obtain⟨hlt,e,x,hx,_⟩:=hi hneg
 rw[if_neg hneg,hx]at hB
 replace hB:submitG s t=submitQ s t x:=hB
 generalize i.toNat=k at hlt e hx hB
 subst e
 unfold submitQ at hB
 have c3:=admit_ok x s.jobs t.need hzj
 generalize admitF x s.jobs t.need=a at c3 hB
 conv=>whnf
 generalize hq3:decide ((s.jobs.length:Int)=48)=q3
 cases q3
 case true=>
  rw[if_pos (by have:=of_decide_eq_true hq3;omega)]at hB
  rw[hB]
  conv=>whnf
  refine call_closed (refuse_ok 10) ?_
  conv=>whnf
  exact at_end [some 0,some 1,some 2,some 3,some 1,some 2,some 3]
 rw[if_neg (by have:=of_decide_eq_false hq3;omega)]at hB
 conv=>whnf
 refine tA ?_
 refine call_fr [] [3] [] c3 ?_
 conv=>whnf
 generalize hq4:decide (a=0)=q4
 cases q4
 case false=>
  rw[if_pos (of_decide_eq_false hq4)]at hB
  rw[hB]
  conv=>whnf
  refine call_closed (refuse_ok a) ?_
  conv=>whnf
  exact at_end [some 0,some 1,some 2,some 3,some 1,some 2,some 3]
 rw[if_neg (fun h=>h (of_decide_eq_true hq4))]at hB
 conv=>whnf
 generalize hq5:decide (s.next=1073741824)=q5
 cases q5
 case true=>
  rw[if_pos (of_decide_eq_true hq5)]at hB
  rw[hB]
  conv=>whnf
  refine call_closed (refuse_ok 6) ?_
  conv=>whnf
  exact at_end [some 0,some 1,some 2,some 3,some 1,some 2,some 3]
 rw[if_neg (of_decide_eq_false hq5)]at hB
 rw[hB]
 conv=>whnf
 refine call_fr [] [] [some (.rows 65 2 (t.wants.map lb))] (cloneL_ok t.wants ht) ?_
 conv=>whnf
 refine tA ?_
 refine app_whole (new:=[.agg [.str t.name, .str t.queue,i64 t.prio,i64 t.need.a,i64 t.need.b,i64 t.need.c, .slc 6 0 t.wants.length none, .str t.apart, .str t.gang,i64 t.size,i64 s.next, .str ⟨#[]⟩,i64 0]]) rfl ?_ rfl (by simp) (by simp[roomBound];omega) ?_
 ·intro r hr
  simp at hr
  subst hr
  exact⟨rfl,rfl⟩
 conv=>whnf
 refine tA ?_
 have hl2:(subS s t).jobs.length=s.jobs.length+1:=List.length_append ..
 refine at_end [some 0,some 1,some 2,some 3,some 1,some 2,some 8] (hN:=by
  first
   | (refine⟨⟨_,rfl, ?_⟩,⟨_,rfl, ?_⟩,⟨_,rfl, ?_⟩,⟨_,rfl,Go'.appF (by intro a;simp) ?_⟩,trivial⟩<;>exact autoG)
   |trace_state)
end Go.Am.Pt
end
