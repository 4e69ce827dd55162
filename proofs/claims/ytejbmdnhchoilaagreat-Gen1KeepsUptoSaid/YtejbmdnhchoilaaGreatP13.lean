/- Part of the proof: what functions of the program compute, walked. No conditions. -/
import Derived.Test.YtejbmdnhchoilaaGreatP02
import Derived.Test.YtejbmdnhchoilaaGreatP04
import Derived.Test.YtejbmdnhchoilaaGreatP08
import Derived.Test.YtejbmdnhchoilaaGreatP10
set_option linter.unusedVariables false
set_option linter.unusedSimpArgs false
set_option maxRecDepth 100000
section
open Go Go.Am Go.Proofs
namespace Go.Am.Pt
def lbO(l:List Lb):Option AObj:=some (.rows 65 2 (l.map lb))
def mcI(m:Mc)(id:Nat):AV:= .agg [.str m.node.name,i64 m.node.cap.a,i64 m.node.cap.b,i64 m.node.cap.c, .slc id 0 m.node.labels.length none, .bool m.up,i64 m.til]
def jbI(j:Jb)(id:Nat):AV:= .agg [.str j.task.name, .str j.task.queue,i64 j.task.prio,i64 j.task.need.a,i64 j.task.need.b,i64 j.task.need.c, .slc id 0 j.task.wants.length none, .str j.task.apart, .str j.task.gang,i64 j.task.size,i64 j.seq, .str j.node,i64 j.bound]
def mix {α:Type}(f:α→AV)(g:α→Nat→AV):List Nat→List α→List AV
 | [],l=>l.map f
 |_::_,[]=> []
 |u::us,x::l=>g x u::mix f g us l
section
variable {α:Type} {f:α→AV} {g:α→Nat→AV}
theorem mix_get:∀ {us:List Nat} {l:List α} {x:α},l[us.length]? =some x→(mix f g us l)[us.length]? =some (f x)
 | [],l,x,h=>by simp only[mix,List.length_nil]at h ⊢;rw[List.getElem?_map,h];rfl
 |u::us,[],x,h=>by simp at h
 |u::us,y::l,x,h=>by
  simp only[mix,List.length_cons,List.getElem?_cons_succ]at h⊢
  exact mix_get h
theorem mix_set {id:Nat}:∀ {us:List Nat} {l:List α} {x:α},l[us.length]? =some x→(mix f g us l).set us.length (g x id)=mix f g (us++ [id]) l
 | [],[],x,h=>by simp at h
 | [],y::l,x,h=>by
  simp only[List.length_nil,List.getElem?_cons_zero,Option.some.injEq]at h
  subst h
  simp[mix]
 |u::us,[],x,h=>by simp at h
 |u::us,y::l,x,h=>by
  simp only[mix,List.length_cons,List.getElem?_cons_succ,List.set_cons_succ,List.cons_append]at h⊢
  rw[mix_set h]
theorem mix_len:∀ {us:List Nat} {l:List α},us.length≤l.length→(mix f g us l).length=l.length
 | [],l,_=>by simp[mix]
 |u::us,[],h=>by simp at h
 |u::us,y::l,h=>by
  simp only[List.length_cons,Nat.add_le_add_iff_right]at h
  simp[mix,mix_len h]
theorem mix_own:∀ {us:List Nat} {l:List α} {i id:Nat} {x:α},us[i]? =some id→l[i]? =some x→(mix f g us l)[i]? =some (g x id)
 | [],l,i,id,x,h,_=>by simp at h
 |u::us,[],i,id,x,_,h=>by simp at h
 |u::us,y::l,0,id,x,h1,h2=>by
  simp only[List.getElem?_cons_zero,Option.some.injEq]at h1 h2
  subst h1 h2
  rfl
 |u::us,y::l,i+1,id,x,h1,h2=>by
  simp only[List.getElem?_cons_succ,mix]at h1 h2⊢
  exact mix_own h1 h2
end
structure WL {α:Type}(lab:α→List Lb)(n0:Nat)(l:List α)(us:List Nat)(H:AHeap):Prop where
 le:us.length≤l.length
 ge:∀id∈us,n0≤id
 nd:us.Nodup
 ob:∀ (i id:Nat) (m:α),us[i]? =some id→l[i]? =some m→H[id]? =some (lbO (lab m))
section
variable {α:Type} {lab:α→List Lb} {n0:Nat} {l:List α} {us:List Nat} {H H':AHeap}
theorem WL.lt(h:WL lab n0 l us H):∀id∈us,id<H.length:=fun id hid=>by
 obtain⟨i,hi⟩:=List.getElem?_of_mem hid
 have:=(List.getElem?_eq_some_iff.1 hi).1
 have hl:=h.le
 exact live_lt (h.ob i id l[i] hi (List.getElem?_eq_getElem (by omega)))
theorem WL.mono(h:WL lab n0 l us H)(hk:∀id∈us,H'[id]? =H[id]?):WL lab n0 l us H':=
 ⟨h.le,h.ge,h.nd,fun i id m hi hm=>by rw[hk id (List.mem_of_getElem? hi)];exact h.ob i id m hi hm⟩
theorem WL.push(h:WL lab n0 l us H){x:α}(hx:l[us.length]? =some x){id:Nat}(hid:n0≤id)(hn:H.length≤id)(hk:∀id∈us,H'[id]? =H[id]?)(ho:H'[id]? =some (lbO (lab x))):WL lab n0 l (us++ [id]) H':=by
 have hlt:=h.lt
 refine⟨by have:=(List.getElem?_eq_some_iff.1 hx).1;simp;omega,fun j hj=> ?_, ?_,fun i j m hi hm=> ?_⟩
 ·rcases List.mem_append.1 hj with hj|hj
  ·exact h.ge j hj
  ·simp at hj;omega
 ·rw[List.nodup_append]
  refine⟨h.nd,by simp,fun a ha b hb=> ?_⟩
  simp at hb
  have:=hlt a ha
  omega
 ·rw[List.getElem?_append]at hi
  split at hi
  ·rw[hk j (List.mem_of_getElem? hi)];exact h.ob i j m hi hm
  ·rename_i hlt2
   have:i-us.length=0:=by
    have:=(List.getElem?_eq_some_iff.1 hi).1
    simp at this;omega
   rw[this]at hi
   simp at hi
   subst hi
   have:i=us.length:=by omega
   subst this
   rw[hx]at hm;cases hm;exact ho
theorem WL.nil:WL lab n0 l [] H:=⟨Nat.zero_le _,by simp,by simp,by simp⟩
end
theorem ld1 {H:AHeap}{id i o:Nat}{r v:AV}(hr:rowAt H id i=some r)(hv:r.cells[o]? =some v):aLoad1 H (.ptr id i o)=some v:=by
 simp only[aLoad1,hr,Option.bind_some];exact hv
theorem set_same_id {H:AHeap}{i:Nat}{o:Option AObj}(h:H[i]? =some o):H.set i o=H:=by
 apply List.ext_getElem?
 intro j
 rw[List.getElem?_set]
 split
 ·rename_i e
  subst e
  rw[h]
  split
  ·rfl
  ·rename_i q
   exact absurd (live_lt h) q
 ·rfl
theorem pre3(l:List (Option Nat)):idPre 3 (some 0::some 1::some 2::l):=fun id hid=>by
 match id,hid with
 |0,_=>rfl
 |1,_=>rfl
 |2,_=>rfl
 |n+3,h=>omega
theorem ndN:∀ (ids:List Nat) (h:AHeap),ids.Nodup→ndA (ids.map some) h=true
 | [],[],_=>rfl
 | [],_::_,_=>rfl
 |a::l,[],_=>rfl
 |a::l,none::h,hn=>by
  simp only[List.nodup_cons]at hn
  simp only[List.map_cons,ndA]
  exact ndN l h hn.2
 |a::l,some o::h,hn=>by
  simp only[List.nodup_cons]at hn
  simp only[List.map_cons,ndA,Bool.and_eq_true,Bool.not_eq_true',List.any_eq_false]
  refine⟨fun p hp=> ?_,ndN l h hn.2⟩
  obtain⟨p1,p2⟩:=p
  have:=(List.of_mem_zip hp).1
  obtain⟨e',he',rfl⟩:=List.mem_map.1 this
  have hne:a≠e':=fun q=>hn.1 (by rw[q];exact he')
  cases p2 with
  |none=>simp
  |some o=>simp[hne]
theorem gnN {n0:Nat}{src:List (Option Nat)}{H:AHeap}{fz:Nat→Prop}:∀ (ids:List Nat) (os:AHeap),ids.length=os.length→(∀ (i id:Nat) o',ids[i]? =some id→os[i]? =some o'→∃o p,o'=some p∧H[id]? =some (some o)∧Go' n0 src H fz o p)→GN n0 src H fz (ids.map some) os
 | [],[],_,_=>trivial
 | [],_::_,h,_=>by simp at h
 |_::_,[],h,_=>by simp at h
 |a::l,o'::os,h,hk=>by
  obtain⟨o,p,e,h1,h2⟩:=hk 0 a o' rfl rfl
  subst e
  exact⟨⟨o,h1,h2⟩,gnN l os (by simpa using h) fun i id q hi hq=>hk (i+1) id q hi hq⟩
def roL {α:Type}(g:α→Nat→AV):Nat→List α→List AV
 |_,[]=> []
 |b,x::l=>g x b::roL g (b+1) l
theorem roL_len {α:Type}(g:α→Nat→AV):∀ (b:Nat) (l:List α),(roL g b l).length=l.length
 |_,[]=>rfl
 |b,u::l=>by simp[roL,roL_len g (b+1) l]
theorem roL_get {α:Type}(g:α→Nat→AV):∀ (b:Nat) (l:List α) (i:Nat),(roL g b l)[i]? =l[i]?.map fun u=>g u (b+i)
 |b,[],i=>by simp[roL]
 |b,u::l,0=>rfl
 |b,u::l,i+1=>by
  simp only[roL,List.getElem?_cons_succ]
  rw[roL_get g (b+1) l i,show b+1+i=b+ (i+1) by omega]
abbrev coH(n:Nat)(s:St):AHeap:=some (.rows 57 7 (roL mcI (n+3) s.machines))::rowsQ s.queues::some (.rows 63 13 (roL jbI (n+3+s.machines.length) s.jobs))::(s.machines.map (fun m=>lbO m.node.labels)++s.jobs.map (fun j=>lbO j.task.wants))
abbrev coA(n:Nat)(s:St):AV:= .agg [i64 s.clock,i64 s.next, .slc n 0 s.machines.length none, .slc (n+1) 0 s.queues.length none, .slc (n+2) 0 s.jobs.length none]
theorem coc {s:St} {H:AHeap} (us vs:List Nat) (qi:Nat) (hl2:2<qi) (hlt:∀id∈us,id<qi) (hus:us.length=s.machines.length) (hvs:vs.length=s.jobs.length) (h2:H[2]? =some (some (.rows 57 7 (mix mcA mcI us s.machines)))) (hq:H[qi]? =some (rowsQ s.queues)) (hj:H[qi+1]? =some (some (.rows 63 13 (mix jbA jbI vs s.jobs))))
  (hW:WL (fun m:Mc=>m.node.labels) 3 s.machines us H) (hV:WL (fun j:Jb=>j.task.wants) (qi+2) s.jobs vs H) (hK:∀ (i:Nat) o,([]:AHeap)[i]? =some o→H[i]? =some o):
  Fin [] (.agg [i64 s.clock,i64 s.next, .slc 2 0 s.machines.length none, .slc qi 0 s.queues.length none, .slc (qi+1) 0 s.jobs.length none]) H (coA 0 s) ([]++coH 0 s):=by
 have hnd:(us++vs).Nodup:=by
  rw[List.nodup_append]
  refine⟨hW.nd,hV.nd,fun a ha b hb=> ?_⟩
  have:=hlt a ha
  have:=hV.ge b hb
  omega
 have hge:∀id∈us++vs,3≤id∧id≠qi∧id≠qi+1:=fun id hid=>by
  rcases List.mem_append.1 hid with hid|hid
  ·have:=hlt id hid;have:=hW.ge id hid;omega
  ·have:=hV.ge id hid;omega
 have hall:(2::qi::(qi+1)::(us++vs)).Nodup:=by
  simp only[List.nodup_cons,List.mem_cons,not_or]
  repeat' apply And.intro
  all_goals first|exact hnd|omega|exact fun hc=>by have:=hge _ hc;omega
 have hsrc:∀ (i id:Nat),(us++vs)[i]? =some id→((2::qi::(qi+1)::(us++vs)).map some)[0+3+i]? =some (some id):=fun i id hi=>by
  rw[List.getElem?_map,show 0+3+i=i+ (0+3) by omega]
  simp only[List.getElem?_cons_succ]
  rw[hi];rfl
 refine fin_gc ((2::qi::(qi+1)::(us++vs)).map some) (fun id hid=>absurd hid (Nat.not_lt_zero _)) (ndN _ _ hall) (⟨⟨_,h2, .rows _ _ _ _ (by rw[roL_len,mix_len hW.le]) fun i a b ha hb=> ?_⟩,⟨_,hq, .same _ _ _ (by intro r hr;obtain⟨a,_,rfl⟩:=List.mem_map.1 hr;simp)⟩,⟨_,hj, .rows _ _ _ _ (by rw[roL_len,mix_len hV.le]) fun i a b ha hb=> ?_⟩,gnN (us++vs) _ (by simp[hus,hvs]) fun i id o' hi ho=> ?_⟩) (.aggL ⟨.same _ (by simp), .same _ (by simp), .slc _ _ _ _ _ rfl, .slc _ _ _ _ _ rfl, .slc _ _ _ _ _ rfl,trivial⟩)
 ·rw[roL_get]at hb
  cases hm:s.machines[i]? with
  |none=>rw[hm]at hb;cases hb
  |some x=>
   have hi:i<us.length:=by have:=(List.getElem?_eq_some_iff.1 hm).1;omega
   have hu:=List.getElem?_eq_getElem hi
   rw[mix_own hu hm]at ha
   rw[hm]at hb
   cases ha;cases hb
   exact .aggL ⟨.same _ (by simp), .same _ (by simp), .same _ (by simp), .same _ (by simp), .slc _ _ _ _ _ (hsrc i _ (by rw[List.getElem?_append_left hi];exact hu)), .same _ (by simp), .same _ (by simp),trivial⟩
 ·rw[roL_get]at hb
  cases hm:s.jobs[i]? with
  |none=>rw[hm]at hb;cases hb
  |some x=>
   have hi:i<vs.length:=by have:=(List.getElem?_eq_some_iff.1 hm).1;omega
   have hu:=List.getElem?_eq_getElem hi
   rw[mix_own hu hm]at ha
   rw[hm]at hb
   cases ha;cases hb
   exact .aggL ⟨.same _ (by simp), .same _ (by simp), .same _ (by simp), .same _ (by simp), .same _ (by simp), .same _ (by simp), .slc _ _ _ _ _ (by rw[←hus,Nat.add_assoc];exact hsrc (us.length+i) _ (by rw[List.getElem?_append_right (by omega),Nat.add_sub_cancel_left];exact hu)), .same _ (by simp), .same _ (by simp), .same _ (by simp), .same _ (by simp), .same _ (by simp), .same _ (by simp),trivial⟩
 ·rw[List.getElem?_append]at hi ho
  rw[List.length_map,←hus]at ho
  split at hi
  ·rename_i hlt2
   rw[if_pos hlt2]at ho
   rw[List.getElem?_map,Option.map_eq_some_iff]at ho
   obtain⟨m,hm,rfl⟩:=ho
   exact⟨_,_,rfl,hW.ob i id m hi hm, .same _ _ _ (by intro r hr;obtain⟨a,_,rfl⟩:=List.mem_map.1 hr;simp)⟩
  ·rename_i hlt2
   rw[if_neg hlt2]at ho
   rw[List.getElem?_map,Option.map_eq_some_iff]at ho
   obtain⟨m,hm,rfl⟩:=ho
   exact⟨_,_,rfl,hV.ob _ id m hi hm, .same _ _ _ (by intro r hr;obtain⟨a,_,rfl⟩:=List.mem_map.1 hr;simp)⟩
set_option maxHeartbeats 2000000 in
theorem copyWc(s:St)(hz:StSz s):AC PR 27 [stA s] [] (coA 0 s) ([]++coH 0 s):=by
 have hzm:=hz.m
 have hzq:=hz.q
 have hzj:=hz.j
 apply A27
 conv=>whnf
 refine call_fr [] [] [rowsM s.machines] (cloneM_ok s.machines hzm) ?_
 conv=>whnf
 refine loop_to s.machines.length (fun k e H=>∃us,WL (fun m:Mc=>m.node.labels) 3 s.machines us H∧us.length=k∧e=[(1, .ptr 0 0 0),(2, .ptr 1 0 0),(12, .slc 2 0 s.machines.length none),(13,i64 s.machines.length),(14,i64 k)]∧H[0]? =some (some (.rows 31 5 [.agg [i64 s.clock,i64 s.next, .slc 2 0 s.machines.length none, .lst 4 (s.queues.map quR) none, .lst 13 (s.jobs.map jbA) none]]))∧H[1]? =some (some (.rows 31 5 [.agg [i64 0,i64 0, .nilslc, .nilslc, .nilslc]]))∧H[2]? =some (some (.rows 57 7 (mix mcA mcI us s.machines)))∧∀ (i:Nat) o,([]:AHeap)[i]? =some o→H[i]? =some o) ?_ ?_
 rotate_left
 ·conv=>whnf
  exact at_head [some 0,some 1,some 2] ([]++ [some (.rows 31 5 [.agg [i64 s.clock,i64 s.next, .slc 2 0 s.machines.length none, .lst 4 (s.queues.map quR) none, .lst 13 (s.jobs.map jbA) none]]),some (.rows 31 5 [.agg [i64 0,i64 0, .nilslc, .nilslc, .nilslc]]),rowsM s.machines]) [(1, .ptr 0 0 0),(2, .ptr 1 0 0),(12, .slc 2 0 s.machines.length none),(13,i64 s.machines.length),(14,i64 (0:Nat))] ⟨[], .nil,rfl,rfl,rfl,rfl,rfl,by simp⟩
 rintro k e H hk ⟨us,hW,rfl,rfl,h0,h1,h2,hK⟩
 conv=>whnf
 generalize hq:decide ((us.length:Int)<((s.machines.length:Nat):Int))=q
 cases q
 case false=>
  have hus:us.length=s.machines.length:=by have:=of_decide_eq_false hq;omega
  have hl0:=live_lt h0
  have hl1:=live_lt h1
  have hl2:=live_lt h2
  have hlt:=hW.lt
  conv=>whnf
  refine k_cell (rowAt_of h0 rfl) ?_
  conv=>whnf
  refine call_fr (R:= .slc H.length 0 s.queues.length none) [] [] [rowsQ s.queues] (cloneQ_ok s.queues hzq) ?_
  obtain⟨H1,e1,n1,g1,f1⟩:=app_facts H (rowsQ s.queues)
  refine fs_to H1 e1.symm ?_
  clear e1
  conv=>whnf
  obtain⟨H2,e2,n2,g2,f2⟩:=set_facts H1 0 (some (.rows 31 5 [.agg [i64 s.clock,i64 s.next, .slc 2 0 s.machines.length none, .slc H.length 0 s.queues.length none, .lst 13 (s.jobs.map jbA) none]])) (by omega)
  refine k_stH H2 (r:= .agg [i64 s.clock,i64 s.next, .slc 2 0 s.machines.length none, .lst 4 (s.queues.map quR) none, .lst 13 (s.jobs.map jbA) none]) rfl ((f1 0 (by omega)).trans h0) ⟨rfl,by decide,by decide,rfl⟩ (by rw[e2];rfl) ?_
  clear e2
  conv=>whnf
  refine k_cell (rowAt_of g2 rfl) ?_
  conv=>whnf
  refine call_fr (R:= .slc H2.length 0 s.jobs.length none) [] [] [rowsJ s.jobs] (cloneJ_ok s.jobs hzj) ?_
  obtain⟨H3,e3,n3,g3,f3⟩:=app_facts H2 (rowsJ s.jobs)
  refine fs_to H3 e3.symm ?_
  clear e3
  conv=>whnf
  obtain⟨H4,e4,n4,g4,f4⟩:=set_facts H3 0 (some (.rows 31 5 [.agg [i64 s.clock,i64 s.next, .slc 2 0 s.machines.length none, .slc H.length 0 s.queues.length none, .slc H2.length 0 s.jobs.length none]])) (by omega)
  refine k_stH H4 (r:= .agg [i64 s.clock,i64 s.next, .slc 2 0 s.machines.length none, .slc H.length 0 s.queues.length none, .lst 13 (s.jobs.map jbA) none]) rfl ((f3 0 (by omega)).trans g2) ⟨rfl,by decide,by decide,rfl⟩ (by rw[e4];rfl) ?_
  clear e4
  conv=>whnf
  refine k_cell (rowAt_of g4 rfl) ?_
  conv=>whnf
  have f14:∀id,id<H.length→id≠0→H4[id]? =H[id]? :=fun id h hne=>by rw[f4 _ hne,f3 _ (by omega),f2 _ hne,f1 _ h]
  have pq:H4[H.length]? =some (rowsQ s.queues):=by rw[f4 _ (by omega),f3 _ (by omega),f2 _ (by omega)];exact g1
  have pj:H4[H2.length]? =some (rowsJ s.jobs):=by rw[f4 _ (by omega)];exact g3
  have hW4:WL (fun m:Mc=>m.node.labels) 3 s.machines us H4:=hW.mono fun id hid=>f14 id (hlt id hid) (by have:=hW.ge id hid;omega)
  have p1:=(f14 1 hl1 (by decide)).trans h1
  have p2:=(f14 2 hl2 (by decide)).trans h2
  have hK4:∀ (i:Nat) o,([]:AHeap)[i]? =some o→H4[i]? =some o:=fun i o hi=>by
   have:=hK i o hi
   have hi2:=live_lt this
   have hi3:=live_lt hi
   rw[f14 i hi2 (by simp at hi3<;>omega)];exact this
  clear f14 f4 f3 f2 f1 g1 g3 g2 hK hW h0 h1 h2
  try clear hK2
  have hji:H2.length=H.length+1:=by omega
  generalize H2.length=ji at*
  generalize H.length=qi at*
  clear n1 n2 n3 n4 H1 H2 H3
  subst hji
  refine loop_to s.jobs.length (fun k e H=>∃vs,WL (fun j:Jb=>j.task.wants) (qi+2) s.jobs vs H∧vs.length=k∧e=[(1, .ptr 0 0 0),(2, .ptr 1 0 0),(39, .slc (qi+1) 0 s.jobs.length none),(40,i64 s.jobs.length),(41,i64 k)]∧H[0]? =some (some (.rows 31 5 [.agg [i64 s.clock,i64 s.next, .slc 2 0 s.machines.length none, .slc qi 0 s.queues.length none, .slc (qi+1) 0 s.jobs.length none]]))∧H[1]? =some (some (.rows 31 5 [.agg [i64 0,i64 0, .nilslc, .nilslc, .nilslc]]))∧H[2]? =some (some (.rows 57 7 (mix mcA mcI us s.machines)))∧H[qi]? =some (rowsQ s.queues)∧H[qi+1]? =some (some (.rows 63 13 (mix jbA jbI vs s.jobs)))∧WL (fun m:Mc=>m.node.labels) 3 s.machines us H∧∀ (i:Nat) o,([]:AHeap)[i]? =some o→H[i]? =some o) ?_ ?_
  rotate_left
  ·have hl4:=live_lt pj
   exact gcp_id (by simp<;>omega) ⟨[], .nil,rfl,rfl,g4,p1,p2,pq,pj,hW4,hK4⟩
  clear g4 p1 p2 pq pj hW4 hK4 H4 H
  rintro k e H hk ⟨vs,hV,rfl,rfl,h0,h1,h2,hq2,hj2,hW,hK⟩
  conv=>whnf
  generalize hq:decide ((vs.length:Int)<((s.jobs.length:Nat):Int))=q
  cases q
  case false=>
   have hvs:vs.length=s.jobs.length:=by have:=of_decide_eq_false hq;omega
   conv=>whnf
   refine k_row (rowAt_of h0 rfl) ?_
   conv=>whnf
   have hl1':=live_lt h1
   obtain⟨H5,e5,n5,g5,f5⟩:=set_facts H 1 (some (.rows 31 5 [.agg [i64 s.clock,i64 s.next, .slc 2 0 s.machines.length none, .slc qi 0 s.queues.length none, .slc (qi+1) 0 s.jobs.length none]])) hl1'
   refine k_stH H5 (r:= .agg [i64 0,i64 0, .nilslc, .nilslc, .nilslc]) rfl h1 ⟨rfl,by decide,by decide,rfl⟩ (by rw[e5];rfl) ?_
   clear e5
   conv=>whnf
   refine k_row (rowAt_of g5 rfl) ?_
   conv=>whnf
   have i2:=(f5 2 (by decide)).trans h2
   have i3:=(f5 qi (by omega)).trans hq2
   have i4:=(f5 (qi+1) (by omega)).trans hj2
   have i5:WL (fun m:Mc=>m.node.labels) 3 s.machines us H5:=hW.mono fun id hid=>f5 id (by have:=hW.ge id hid;omega)
   have i6:WL (fun j:Jb=>j.task.wants) (qi+2) s.jobs vs H5:=hV.mono fun id hid=>f5 id (by have:=hV.ge id hid;omega)
   have i7:∀ (i:Nat) o,([]:AHeap)[i]? =some o→H5[i]? =some o:=fun i o hi=>by
    have hi3:=live_lt hi
    rw[f5 i (by simp at hi3<;>omega)];exact hK i o hi
   exact⟨coc us vs qi hl2 hlt hus hvs i2 i3 i4 i5 i6 i7⟩
  have hk2:vs.length<s.jobs.length:=by have:=of_decide_eq_true hq;omega
  have hgo:=List.getElem?_eq_getElem hk2
  have hlx:=hz.w _ (List.getElem_mem hk2)
  generalize s.jobs[vs.length]=x at hgo hlx
  have hmx:=mix_get (f:=jbA) (g:=jbI) hgo
  conv=>whnf
  refine k_idx ?_ _ (rowsOf_of hj2) (by omega) (by omega)
  conv=>whnf
  refine k_row (rowAt_of hj2 hmx) ?_
  conv=>whnf
  refine forceS_any ?_
  conv=>whnf
  have hl0:=live_lt h0
  have hl1:=live_lt h1
  have hl2:=live_lt h2
  have hlq:=live_lt hq2
  have hlj:=live_lt hj2
  have hltV:=hV.lt
  obtain⟨H1,e1,n1,g1,f1⟩:=app_facts H (some (.rows 63 13 [jbA x]))
  refine k_stH H1 (r:= .agg [.str ⟨#[]⟩, .str ⟨#[]⟩,i64 0,i64 0,i64 0,i64 0, .nilslc, .str ⟨#[]⟩, .str ⟨#[]⟩,i64 0,i64 0, .str ⟨#[]⟩,i64 0]) rfl (get_app0 H _) ⟨rfl,by decide,by decide,rfl⟩ (by rw[set_app0,e1];rfl) ?_
  clear e1
  conv=>whnf
  refine k_cell (rowAt_of ((f1 0 (by omega)).trans h0) rfl) ?_
  conv=>whnf
  refine k_cell (rowAt_of g1 rfl) ?_
  conv=>whnf
  have c1:=cloneL_ok x.task.wants hlx
  refine call_fr (R:= .slc H1.length 0 x.task.wants.length none) [] [] [some (.rows 65 2 (x.task.wants.map lb))] c1 ?_
  obtain⟨H2,e2,n2,g2,f2⟩:=app_facts H1 (some (.rows 65 2 (x.task.wants.map lb)))
  refine fs_to H2 e2.symm ?_
  clear e2
  have f12:∀id,id<H.length→H2[id]? =H[id]? :=fun id h=>(f2 id (by omega)).trans (f1 id h)
  conv=>whnf
  refine e_eq (ld1 (r:= .agg [i64 s.clock,i64 s.next, .slc 2 0 s.machines.length none, .slc qi 0 s.queues.length none, .slc (qi+1) 0 s.jobs.length none]) (rowAt_of ((f12 0 (by omega)).trans h0) rfl) rfl) ?_
  conv=>whnf
  have h22:=(f12 (qi+1) (by omega)).trans hj2
  refine k_idx ?_ _ (rowsOf_of h22) (by omega) (by omega)
  conv=>whnf
  obtain⟨H3,e3,n3,g3,f3⟩:=set_facts H2 (qi+1) (some (.rows 63 13 (mix jbA jbI (vs++ [H1.length]) s.jobs))) (by omega)
  refine k_stH H3 (r:=jbA x) hmx h22 ⟨rfl,by decide,by decide,rfl⟩ (by rw[e3,←mix_set hgo];rfl) ?_
  clear e3
  conv=>whnf
  refine w_i64 (by omega) ?_
  conv=>whnf
  have f13:∀id,id<H.length→id≠qi+1→H3[id]? =H[id]? :=fun id h hne=>(f3 id hne).trans (f12 id h)
  refine gcp_id (by simp<;>omega) ⟨hk2,vs++ [H1.length],hV.push hgo (by omega) (by omega) (fun id hid=>f13 id (hltV id hid) (by have:=hV.ge id hid;omega)) ?_,by simp,rfl,(f13 _ hl0 (by omega)).trans h0,(f13 _ hl1 (by omega)).trans h1,(f13 _ hl2 (by omega)).trans h2,(f13 _ hlq (by omega)).trans hq2,g3,hW.mono (fun id hid=>f13 id (hW.lt id hid) (by have:=hlt id hid;omega)),fun i o hi=> ?_⟩
  ·rw[f3 _ (by omega)];exact g2
  ·have:=hK i o hi
   have hi2:=live_lt this
   have hi3:=live_lt hi
   rw[f13 i hi2 (by simp at hi3<;>omega)];exact this
 have hk2:us.length<s.machines.length:=by have:=of_decide_eq_true hq;omega
 have hgo:=List.getElem?_eq_getElem hk2
 have hlx:=hz.l _ (List.getElem_mem hk2)
 generalize s.machines[us.length]=x at hgo hlx
 have hmx:=mix_get (f:=mcA) (g:=mcI) hgo
 conv=>whnf
 refine k_idx ?_ _ (rowsOf_of h2) (by omega) (by omega)
 conv=>whnf
 refine k_row (rowAt_of h2 hmx) ?_
 conv=>whnf
 refine forceS_any ?_
 conv=>whnf
 have hl0:=live_lt h0
 have hl1:=live_lt h1
 have hl2:=live_lt h2
 have hlt:=hW.lt
 obtain⟨H1,e1,n1,g1,f1⟩:=app_facts H (some (.rows 57 7 [mcA x]))
 refine k_stH H1 (r:= .agg [.str ⟨#[]⟩,i64 0,i64 0,i64 0, .nilslc, .bool false,i64 0]) rfl (get_app0 H _) ⟨rfl,by decide,by decide,rfl⟩ (by rw[set_app0,e1];rfl) ?_
 clear e1
 conv=>whnf
 refine k_cell (rowAt_of ((f1 0 (by omega)).trans h0) rfl) ?_
 conv=>whnf
 refine k_cell (rowAt_of g1 rfl) ?_
 conv=>whnf
 have c1:=cloneL_ok x.node.labels hlx
 refine call_fr (R:= .slc H1.length 0 x.node.labels.length none) [] [] [some (.rows 65 2 (x.node.labels.map lb))] c1 ?_
 obtain⟨H2,e2,n2,g2,f2⟩:=app_facts H1 (some (.rows 65 2 (x.node.labels.map lb)))
 refine fs_to H2 e2.symm ?_
 clear e2
 have f12:∀id,id<H.length→H2[id]? =H[id]? :=fun id h=>(f2 id (by omega)).trans (f1 id h)
 conv=>whnf
 refine e_eq (ld1 (r:= .agg [i64 s.clock,i64 s.next, .slc 2 0 s.machines.length none, .lst 4 (s.queues.map quR) none, .lst 13 (s.jobs.map jbA) none]) (rowAt_of ((f12 0 (by omega)).trans h0) rfl) rfl) ?_
 conv=>whnf
 have h22:=(f12 2 (by omega)).trans h2
 refine k_idx ?_ _ (rowsOf_of h22) (by omega) (by omega)
 conv=>whnf
 obtain⟨H3,e3,n3,g3,f3⟩:=set_facts H2 2 (some (.rows 57 7 (mix mcA mcI (us++ [H1.length]) s.machines))) (by omega)
 refine k_stH H3 (r:=mcA x) hmx h22 ⟨rfl,by decide,by decide,rfl⟩ (by rw[e3,←mix_set hgo];rfl) ?_
 clear e3
 conv=>whnf
 refine w_i64 (by omega) ?_
 conv=>whnf
 refine gcp_id (by simp<;>omega) ⟨hk2,us++ [H1.length],hW.push hgo (by omega) (by omega) (fun id hid=> ?_) ?_,by simp,rfl, ?_, ?_,g3,fun i o hi=> ?_⟩
 ·rw[f3 id (by have:=hW.ge id hid;omega),f12 id (hlt id hid)]
 ·rw[f3 _ (by omega)];exact g2
 ·rw[f3 _ (by omega),f12 _ (by omega)];exact h0
 ·rw[f3 _ (by omega),f12 _ (by omega)];exact h1
 ·have:=hK i o hi
  have hi2:=live_lt this
  have hi3:=live_lt hi
  rw[f3 _ (by simp at hi3<;>omega),f12 _ (by omega)];exact this
theorem coo {s:St} {H:AHeap} (us vs:List Nat) (qi:Nat) (hl2:5<qi) (hlt:∀id∈us,id<qi) (hus:us.length=s.machines.length) (hvs:vs.length=s.jobs.length) (h2:H[5]? =some (some (.rows 57 7 (mix mcA mcI us s.machines)))) (hq:H[qi]? =some (rowsQ s.queues)) (hj:H[qi+1]? =some (some (.rows 63 13 (mix jbA jbI vs s.jobs))))
  (hW:WL (fun m:Mc=>m.node.labels) 6 s.machines us H) (hV:WL (fun j:Jb=>j.task.wants) (qi+2) s.jobs vs H) (hK:∀ (i:Nat) o,([rowsM s.machines,rowsQ s.queues,rowsJ s.jobs]:AHeap)[i]? =some o→H[i]? =some o):
  Fin [rowsM s.machines,rowsQ s.queues,rowsJ s.jobs] (.agg [i64 s.clock,i64 s.next, .slc 5 0 s.machines.length none, .slc qi 0 s.queues.length none, .slc (qi+1) 0 s.jobs.length none]) H (coA 3 s) ([rowsM s.machines,rowsQ s.queues,rowsJ s.jobs]++coH 3 s):=by
 have hnd:(us++vs).Nodup:=by
  rw[List.nodup_append]
  refine⟨hW.nd,hV.nd,fun a ha b hb=> ?_⟩
  have:=hlt a ha
  have:=hV.ge b hb
  omega
 have hge:∀id∈us++vs,6≤id∧id≠qi∧id≠qi+1:=fun id hid=>by
  rcases List.mem_append.1 hid with hid|hid
  ·have:=hlt id hid;have:=hW.ge id hid;omega
  ·have:=hV.ge id hid;omega
 have hall:(0::1::2::5::qi::(qi+1)::(us++vs)).Nodup:=by
  simp only[List.nodup_cons,List.mem_cons,not_or]
  repeat' apply And.intro
  all_goals first|exact hnd|omega|exact fun hc=>by have:=hge _ hc;omega
 have hsrc:∀ (i id:Nat),(us++vs)[i]? =some id→((0::1::2::5::qi::(qi+1)::(us++vs)).map some)[3+3+i]? =some (some id):=fun i id hi=>by
  rw[List.getElem?_map,show 3+3+i=i+ (3+3) by omega]
  simp only[List.getElem?_cons_succ]
  rw[hi];rfl
 refine fin_gc ((0::1::2::5::qi::(qi+1)::(us++vs)).map some) (pre3 _) (ndN _ _ hall) (⟨⟨_,hK 0 _ rfl, .same _ _ _ (by intro r hr;obtain⟨a,_,rfl⟩:=List.mem_map.1 hr;simp)⟩,⟨_,hK 1 _ rfl, .same _ _ _ (by intro r hr;obtain⟨a,_,rfl⟩:=List.mem_map.1 hr;simp)⟩,⟨_,hK 2 _ rfl, .same _ _ _ (by intro r hr;obtain⟨a,_,rfl⟩:=List.mem_map.1 hr;simp)⟩,⟨⟨_,h2, .rows _ _ _ _ (by rw[roL_len,mix_len hW.le]) fun i a b ha hb=> ?_⟩,⟨_,hq, .same _ _ _ (by intro r hr;obtain⟨a,_,rfl⟩:=List.mem_map.1 hr;simp)⟩,⟨_,hj, .rows _ _ _ _ (by rw[roL_len,mix_len hV.le]) fun i a b ha hb=> ?_⟩,gnN (us++vs) _ (by simp[hus,hvs]) fun i id o' hi ho=> ?_⟩⟩) (.aggL ⟨.same _ (by simp), .same _ (by simp), .slc _ _ _ _ _ rfl, .slc _ _ _ _ _ rfl, .slc _ _ _ _ _ rfl,trivial⟩)
 ·rw[roL_get]at hb
  cases hm:s.machines[i]? with
  |none=>rw[hm]at hb;cases hb
  |some x=>
   have hi:i<us.length:=by have:=(List.getElem?_eq_some_iff.1 hm).1;omega
   have hu:=List.getElem?_eq_getElem hi
   rw[mix_own hu hm]at ha
   rw[hm]at hb
   cases ha;cases hb
   exact .aggL ⟨.same _ (by simp), .same _ (by simp), .same _ (by simp), .same _ (by simp), .slc _ _ _ _ _ (hsrc i _ (by rw[List.getElem?_append_left hi];exact hu)), .same _ (by simp), .same _ (by simp),trivial⟩
 ·rw[roL_get]at hb
  cases hm:s.jobs[i]? with
  |none=>rw[hm]at hb;cases hb
  |some x=>
   have hi:i<vs.length:=by have:=(List.getElem?_eq_some_iff.1 hm).1;omega
   have hu:=List.getElem?_eq_getElem hi
   rw[mix_own hu hm]at ha
   rw[hm]at hb
   cases ha;cases hb
   exact .aggL ⟨.same _ (by simp), .same _ (by simp), .same _ (by simp), .same _ (by simp), .same _ (by simp), .same _ (by simp), .slc _ _ _ _ _ (by rw[←hus,Nat.add_assoc];exact hsrc (us.length+i) _ (by rw[List.getElem?_append_right (by omega),Nat.add_sub_cancel_left];exact hu)), .same _ (by simp), .same _ (by simp), .same _ (by simp), .same _ (by simp), .same _ (by simp), .same _ (by simp),trivial⟩
 ·rw[List.getElem?_append]at hi ho
  rw[List.length_map,←hus]at ho
  split at hi
  ·rename_i hlt2
   rw[if_pos hlt2]at ho
   rw[List.getElem?_map,Option.map_eq_some_iff]at ho
   obtain⟨m,hm,rfl⟩:=ho
   exact⟨_,_,rfl,hW.ob i id m hi hm, .same _ _ _ (by intro r hr;obtain⟨a,_,rfl⟩:=List.mem_map.1 hr;simp)⟩
  ·rename_i hlt2
   rw[if_neg hlt2]at ho
   rw[List.getElem?_map,Option.map_eq_some_iff]at ho
   obtain⟨m,hm,rfl⟩:=ho
   exact⟨_,_,rfl,hV.ob _ id m hi hm, .same _ _ _ (by intro r hr;obtain⟨a,_,rfl⟩:=List.mem_map.1 hr;simp)⟩
set_option maxHeartbeats 2000000 in
theorem copyWo(s:St)(hz:StSz s):AC PR 27 [.agg [i64 s.clock,i64 s.next, .slc 0 0 s.machines.length none, .slc 1 0 s.queues.length none, .slc 2 0 s.jobs.length none]] [rowsM s.machines,rowsQ s.queues,rowsJ s.jobs] (coA 3 s) ([rowsM s.machines,rowsQ s.queues,rowsJ s.jobs]++coH 3 s):=by
 have hzm:=hz.m
 have hzq:=hz.q
 have hzj:=hz.j
 apply A27
 conv=>whnf
 refine call_fr [0] [] [rowsM s.machines,rowsM s.machines] (cloneM_own s.machines hzm) ?_
 conv=>whnf
 refine loop_to s.machines.length (fun k e H=>∃us,WL (fun m:Mc=>m.node.labels) 6 s.machines us H∧us.length=k∧e=[(1, .ptr 3 0 0),(2, .ptr 4 0 0),(12, .slc 5 0 s.machines.length none),(13,i64 s.machines.length),(14,i64 k)]∧H[3]? =some (some (.rows 31 5 [.agg [i64 s.clock,i64 s.next, .slc 5 0 s.machines.length none, .slc 1 0 s.queues.length none, .slc 2 0 s.jobs.length none]]))∧H[4]? =some (some (.rows 31 5 [.agg [i64 0,i64 0, .nilslc, .nilslc, .nilslc]]))∧H[5]? =some (some (.rows 57 7 (mix mcA mcI us s.machines)))∧∀ (i:Nat) o,([rowsM s.machines,rowsQ s.queues,rowsJ s.jobs]:AHeap)[i]? =some o→H[i]? =some o) ?_ ?_
 rotate_left
 ·conv=>whnf
  exact at_head [some 0,some 1,some 2,some 3,some 4,some 5] ([rowsM s.machines,rowsQ s.queues,rowsJ s.jobs]++ [some (.rows 31 5 [.agg [i64 s.clock,i64 s.next, .slc 5 0 s.machines.length none, .slc 1 0 s.queues.length none, .slc 2 0 s.jobs.length none]]),some (.rows 31 5 [.agg [i64 0,i64 0, .nilslc, .nilslc, .nilslc]]),rowsM s.machines]) [(1, .ptr 3 0 0),(2, .ptr 4 0 0),(12, .slc 5 0 s.machines.length none),(13,i64 s.machines.length),(14,i64 (0:Nat))] ⟨[], .nil,rfl,rfl,rfl,rfl,rfl,fun i o hi=>(Go.Am.get_app (live_lt hi) _).trans hi⟩
 rintro k e H hk ⟨us,hW,rfl,rfl,h0,h1,h2,hK⟩
 conv=>whnf
 generalize hq:decide ((us.length:Int)<((s.machines.length:Nat):Int))=q
 cases q
 case false=>
  have hus:us.length=s.machines.length:=by have:=of_decide_eq_false hq;omega
  have hl0:=live_lt h0
  have hl1:=live_lt h1
  have hl2:=live_lt h2
  have hlt:=hW.lt
  conv=>whnf
  refine k_cell (rowAt_of h0 rfl) ?_
  conv=>whnf
  refine call_fr (R:= .slc H.length 0 s.queues.length none) [1] [] [rowsQ s.queues,rowsQ s.queues] (cloneQ_own s.queues hzq) ?_ (hσ:=by simp[ltAll];omega) (hN:=⟨⟨_,hK 1 _ rfl, .same _ _ _ (by intro r hr;obtain⟨a,_,rfl⟩:=List.mem_map.1 hr;simp)⟩,trivial⟩) (hargs:=⟨.slc _ _ _ _ _ rfl,trivial⟩)
  rw[show place H [1] [rowsQ s.queues,rowsQ s.queues]=H++ [rowsQ s.queues] by simp[place,set_same_id (hK 1 _ rfl)]]
  obtain⟨H1,e1,n1,g1,f1⟩:=app_facts H (rowsQ s.queues)
  refine fs_to H1 e1.symm ?_
  clear e1
  conv=>whnf
  obtain⟨H2,e2,n2,g2,f2⟩:=set_facts H1 3 (some (.rows 31 5 [.agg [i64 s.clock,i64 s.next, .slc 5 0 s.machines.length none, .slc H.length 0 s.queues.length none, .slc 2 0 s.jobs.length none]])) (by omega)
  refine k_stH H2 (r:= .agg [i64 s.clock,i64 s.next, .slc 5 0 s.machines.length none, .slc 1 0 s.queues.length none, .slc 2 0 s.jobs.length none]) rfl ((f1 3 (by omega)).trans h0) ⟨rfl,by decide,by decide,rfl⟩ (by rw[e2];rfl) ?_
  clear e2
  conv=>whnf
  refine k_cell (rowAt_of g2 rfl) ?_
  conv=>whnf
  have hK2:H2[2]? =some (rowsJ s.jobs):=by rw[f2 2 (by decide),f1 2 (by omega)];exact hK 2 _ rfl
  refine call_fr (R:= .slc H2.length 0 s.jobs.length none) [2] [] [rowsJ s.jobs,rowsJ s.jobs] (cloneJ_own s.jobs hzj) ?_ (hσ:=by simp[ltAll];omega) (hN:=⟨⟨_,hK2, .same _ _ _ (by intro r hr;obtain⟨a,_,rfl⟩:=List.mem_map.1 hr;simp)⟩,trivial⟩) (hargs:=⟨.slc _ _ _ _ _ rfl,trivial⟩)
  rw[show place H2 [2] [rowsJ s.jobs,rowsJ s.jobs]=H2++ [rowsJ s.jobs] by simp[place,set_same_id hK2]]
  obtain⟨H3,e3,n3,g3,f3⟩:=app_facts H2 (rowsJ s.jobs)
  refine fs_to H3 e3.symm ?_
  clear e3
  conv=>whnf
  obtain⟨H4,e4,n4,g4,f4⟩:=set_facts H3 3 (some (.rows 31 5 [.agg [i64 s.clock,i64 s.next, .slc 5 0 s.machines.length none, .slc H.length 0 s.queues.length none, .slc H2.length 0 s.jobs.length none]])) (by omega)
  refine k_stH H4 (r:= .agg [i64 s.clock,i64 s.next, .slc 5 0 s.machines.length none, .slc H.length 0 s.queues.length none, .slc 2 0 s.jobs.length none]) rfl ((f3 3 (by omega)).trans g2) ⟨rfl,by decide,by decide,rfl⟩ (by rw[e4];rfl) ?_
  clear e4
  conv=>whnf
  refine k_cell (rowAt_of g4 rfl) ?_
  conv=>whnf
  have f14:∀id,id<H.length→id≠3→H4[id]? =H[id]? :=fun id h hne=>by rw[f4 _ hne,f3 _ (by omega),f2 _ hne,f1 _ h]
  have pq:H4[H.length]? =some (rowsQ s.queues):=by rw[f4 _ (by omega),f3 _ (by omega),f2 _ (by omega)];exact g1
  have pj:H4[H2.length]? =some (rowsJ s.jobs):=by rw[f4 _ (by omega)];exact g3
  have hW4:WL (fun m:Mc=>m.node.labels) 6 s.machines us H4:=hW.mono fun id hid=>f14 id (hlt id hid) (by have:=hW.ge id hid;omega)
  have p1:=(f14 4 hl1 (by decide)).trans h1
  have p2:=(f14 5 hl2 (by decide)).trans h2
  have hK4:∀ (i:Nat) o,([rowsM s.machines,rowsQ s.queues,rowsJ s.jobs]:AHeap)[i]? =some o→H4[i]? =some o:=fun i o hi=>by
   have:=hK i o hi
   have hi2:=live_lt this
   have hi3:=live_lt hi
   rw[f14 i hi2 (by simp at hi3<;>omega)];exact this
  clear f14 f4 f3 f2 f1 g1 g3 g2 hK hW h0 h1 h2
  try clear hK2
  have hji:H2.length=H.length+1:=by omega
  generalize H2.length=ji at*
  generalize H.length=qi at*
  clear n1 n2 n3 n4 H1 H2 H3
  subst hji
  refine loop_to s.jobs.length (fun k e H=>∃vs,WL (fun j:Jb=>j.task.wants) (qi+2) s.jobs vs H∧vs.length=k∧e=[(1, .ptr 3 0 0),(2, .ptr 4 0 0),(39, .slc (qi+1) 0 s.jobs.length none),(40,i64 s.jobs.length),(41,i64 k)]∧H[3]? =some (some (.rows 31 5 [.agg [i64 s.clock,i64 s.next, .slc 5 0 s.machines.length none, .slc qi 0 s.queues.length none, .slc (qi+1) 0 s.jobs.length none]]))∧H[4]? =some (some (.rows 31 5 [.agg [i64 0,i64 0, .nilslc, .nilslc, .nilslc]]))∧H[5]? =some (some (.rows 57 7 (mix mcA mcI us s.machines)))∧H[qi]? =some (rowsQ s.queues)∧H[qi+1]? =some (some (.rows 63 13 (mix jbA jbI vs s.jobs)))∧WL (fun m:Mc=>m.node.labels) 6 s.machines us H∧∀ (i:Nat) o,([rowsM s.machines,rowsQ s.queues,rowsJ s.jobs]:AHeap)[i]? =some o→H[i]? =some o) ?_ ?_
  rotate_left
  ·have hl4:=live_lt pj
   exact gcp_id (by simp<;>omega) ⟨[], .nil,rfl,rfl,g4,p1,p2,pq,pj,hW4,hK4⟩
  clear g4 p1 p2 pq pj hW4 hK4 H4 H
  rintro k e H hk ⟨vs,hV,rfl,rfl,h0,h1,h2,hq2,hj2,hW,hK⟩
  conv=>whnf
  generalize hq:decide ((vs.length:Int)<((s.jobs.length:Nat):Int))=q
  cases q
  case false=>
   have hvs:vs.length=s.jobs.length:=by have:=of_decide_eq_false hq;omega
   conv=>whnf
   refine k_row (rowAt_of h0 rfl) ?_
   conv=>whnf
   have hl1':=live_lt h1
   obtain⟨H5,e5,n5,g5,f5⟩:=set_facts H 4 (some (.rows 31 5 [.agg [i64 s.clock,i64 s.next, .slc 5 0 s.machines.length none, .slc qi 0 s.queues.length none, .slc (qi+1) 0 s.jobs.length none]])) hl1'
   refine k_stH H5 (r:= .agg [i64 0,i64 0, .nilslc, .nilslc, .nilslc]) rfl h1 ⟨rfl,by decide,by decide,rfl⟩ (by rw[e5];rfl) ?_
   clear e5
   conv=>whnf
   refine k_row (rowAt_of g5 rfl) ?_
   conv=>whnf
   have i2:=(f5 5 (by decide)).trans h2
   have i3:=(f5 qi (by omega)).trans hq2
   have i4:=(f5 (qi+1) (by omega)).trans hj2
   have i5:WL (fun m:Mc=>m.node.labels) 6 s.machines us H5:=hW.mono fun id hid=>f5 id (by have:=hW.ge id hid;omega)
   have i6:WL (fun j:Jb=>j.task.wants) (qi+2) s.jobs vs H5:=hV.mono fun id hid=>f5 id (by have:=hV.ge id hid;omega)
   have i7:∀ (i:Nat) o,([rowsM s.machines,rowsQ s.queues,rowsJ s.jobs]:AHeap)[i]? =some o→H5[i]? =some o:=fun i o hi=>by
    have hi3:=live_lt hi
    rw[f5 i (by simp at hi3<;>omega)];exact hK i o hi
   exact⟨coo us vs qi hl2 hlt hus hvs i2 i3 i4 i5 i6 i7⟩
  have hk2:vs.length<s.jobs.length:=by have:=of_decide_eq_true hq;omega
  have hgo:=List.getElem?_eq_getElem hk2
  have hlx:=hz.w _ (List.getElem_mem hk2)
  generalize s.jobs[vs.length]=x at hgo hlx
  have hmx:=mix_get (f:=jbA) (g:=jbI) hgo
  conv=>whnf
  refine k_idx ?_ _ (rowsOf_of hj2) (by omega) (by omega)
  conv=>whnf
  refine k_row (rowAt_of hj2 hmx) ?_
  conv=>whnf
  refine forceS_any ?_
  conv=>whnf
  have hl0:=live_lt h0
  have hl1:=live_lt h1
  have hl2:=live_lt h2
  have hlq:=live_lt hq2
  have hlj:=live_lt hj2
  have hltV:=hV.lt
  obtain⟨H1,e1,n1,g1,f1⟩:=app_facts H (some (.rows 63 13 [jbA x]))
  refine k_stH H1 (r:= .agg [.str ⟨#[]⟩, .str ⟨#[]⟩,i64 0,i64 0,i64 0,i64 0, .nilslc, .str ⟨#[]⟩, .str ⟨#[]⟩,i64 0,i64 0, .str ⟨#[]⟩,i64 0]) rfl (get_app0 H _) ⟨rfl,by decide,by decide,rfl⟩ (by rw[set_app0,e1];rfl) ?_
  clear e1
  conv=>whnf
  refine k_cell (rowAt_of ((f1 3 (by omega)).trans h0) rfl) ?_
  conv=>whnf
  refine k_cell (rowAt_of g1 rfl) ?_
  conv=>whnf
  have c1:=cloneL_ok x.task.wants hlx
  refine call_fr (R:= .slc H1.length 0 x.task.wants.length none) [] [] [some (.rows 65 2 (x.task.wants.map lb))] c1 ?_
  obtain⟨H2,e2,n2,g2,f2⟩:=app_facts H1 (some (.rows 65 2 (x.task.wants.map lb)))
  refine fs_to H2 e2.symm ?_
  clear e2
  have f12:∀id,id<H.length→H2[id]? =H[id]? :=fun id h=>(f2 id (by omega)).trans (f1 id h)
  conv=>whnf
  refine e_eq (ld1 (r:= .agg [i64 s.clock,i64 s.next, .slc 5 0 s.machines.length none, .slc qi 0 s.queues.length none, .slc (qi+1) 0 s.jobs.length none]) (rowAt_of ((f12 3 (by omega)).trans h0) rfl) rfl) ?_
  conv=>whnf
  have h22:=(f12 (qi+1) (by omega)).trans hj2
  refine k_idx ?_ _ (rowsOf_of h22) (by omega) (by omega)
  conv=>whnf
  obtain⟨H3,e3,n3,g3,f3⟩:=set_facts H2 (qi+1) (some (.rows 63 13 (mix jbA jbI (vs++ [H1.length]) s.jobs))) (by omega)
  refine k_stH H3 (r:=jbA x) hmx h22 ⟨rfl,by decide,by decide,rfl⟩ (by rw[e3,←mix_set hgo];rfl) ?_
  clear e3
  conv=>whnf
  refine w_i64 (by omega) ?_
  conv=>whnf
  have f13:∀id,id<H.length→id≠qi+1→H3[id]? =H[id]? :=fun id h hne=>(f3 id hne).trans (f12 id h)
  refine gcp_id (by simp<;>omega) ⟨hk2,vs++ [H1.length],hV.push hgo (by omega) (by omega) (fun id hid=>f13 id (hltV id hid) (by have:=hV.ge id hid;omega)) ?_,by simp,rfl,(f13 _ hl0 (by omega)).trans h0,(f13 _ hl1 (by omega)).trans h1,(f13 _ hl2 (by omega)).trans h2,(f13 _ hlq (by omega)).trans hq2,g3,hW.mono (fun id hid=>f13 id (hW.lt id hid) (by have:=hlt id hid;omega)),fun i o hi=> ?_⟩
  ·rw[f3 _ (by omega)];exact g2
  ·have:=hK i o hi
   have hi2:=live_lt this
   have hi3:=live_lt hi
   rw[f13 i hi2 (by simp at hi3<;>omega)];exact this
 have hk2:us.length<s.machines.length:=by have:=of_decide_eq_true hq;omega
 have hgo:=List.getElem?_eq_getElem hk2
 have hlx:=hz.l _ (List.getElem_mem hk2)
 generalize s.machines[us.length]=x at hgo hlx
 have hmx:=mix_get (f:=mcA) (g:=mcI) hgo
 conv=>whnf
 refine k_idx ?_ _ (rowsOf_of h2) (by omega) (by omega)
 conv=>whnf
 refine k_row (rowAt_of h2 hmx) ?_
 conv=>whnf
 refine forceS_any ?_
 conv=>whnf
 have hl0:=live_lt h0
 have hl1:=live_lt h1
 have hl2:=live_lt h2
 have hlt:=hW.lt
 obtain⟨H1,e1,n1,g1,f1⟩:=app_facts H (some (.rows 57 7 [mcA x]))
 refine k_stH H1 (r:= .agg [.str ⟨#[]⟩,i64 0,i64 0,i64 0, .nilslc, .bool false,i64 0]) rfl (get_app0 H _) ⟨rfl,by decide,by decide,rfl⟩ (by rw[set_app0,e1];rfl) ?_
 clear e1
 conv=>whnf
 refine k_cell (rowAt_of ((f1 3 (by omega)).trans h0) rfl) ?_
 conv=>whnf
 refine k_cell (rowAt_of g1 rfl) ?_
 conv=>whnf
 have c1:=cloneL_ok x.node.labels hlx
 refine call_fr (R:= .slc H1.length 0 x.node.labels.length none) [] [] [some (.rows 65 2 (x.node.labels.map lb))] c1 ?_
 obtain⟨H2,e2,n2,g2,f2⟩:=app_facts H1 (some (.rows 65 2 (x.node.labels.map lb)))
 refine fs_to H2 e2.symm ?_
 clear e2
 have f12:∀id,id<H.length→H2[id]? =H[id]? :=fun id h=>(f2 id (by omega)).trans (f1 id h)
 conv=>whnf
 refine e_eq (ld1 (r:= .agg [i64 s.clock,i64 s.next, .slc 5 0 s.machines.length none, .slc 1 0 s.queues.length none, .slc 2 0 s.jobs.length none]) (rowAt_of ((f12 3 (by omega)).trans h0) rfl) rfl) ?_
 conv=>whnf
 have h22:=(f12 5 (by omega)).trans h2
 refine k_idx ?_ _ (rowsOf_of h22) (by omega) (by omega)
 conv=>whnf
 obtain⟨H3,e3,n3,g3,f3⟩:=set_facts H2 5 (some (.rows 57 7 (mix mcA mcI (us++ [H1.length]) s.machines))) (by omega)
 refine k_stH H3 (r:=mcA x) hmx h22 ⟨rfl,by decide,by decide,rfl⟩ (by rw[e3,←mix_set hgo];rfl) ?_
 clear e3
 conv=>whnf
 refine w_i64 (by omega) ?_
 conv=>whnf
 refine gcp_id (by simp<;>omega) ⟨hk2,us++ [H1.length],hW.push hgo (by omega) (by omega) (fun id hid=> ?_) ?_,by simp,rfl, ?_, ?_,g3,fun i o hi=> ?_⟩
 ·rw[f3 id (by have:=hW.ge id hid;omega),f12 id (hlt id hid)]
 ·rw[f3 _ (by omega)];exact g2
 ·rw[f3 _ (by omega),f12 _ (by omega)];exact h0
 ·rw[f3 _ (by omega),f12 _ (by omega)];exact h1
 ·have:=hK i o hi
  have hi2:=live_lt this
  have hi3:=live_lt hi
  rw[f3 _ (by simp at hi3<;>omega),f12 _ (by omega)];exact this
end Go.Am.Pt
end
section
open Go Go.Am Go.Proofs
namespace Go.Am.Pt
def nodeI(n:Nd)(id:Nat):AV:= .agg [.str n.name,i64 n.cap.a,i64 n.cap.b,i64 n.cap.c, .slc id 0 n.labels.length none]
def tkI(t:Tk)(id:Nat):AV:= .agg [.str t.name, .str t.queue,i64 t.prio,i64 t.need.a,i64 t.need.b,i64 t.need.c, .slc id 0 t.wants.length none, .str t.apart, .str t.gang,i64 t.size]
abbrev gKo(os:AHeap)(s:St):AHeap:=some (.rows 68 5 [gRowAt (4+os.length) (5+os.length) (6+os.length) s])::none::none::none::(os++ [rowsM s.machines,rowsQ s.queues,rowsJ s.jobs])
theorem addNodeO_ok(s:St)(n:Nd)(hz:StW s)(hn:(n.labels.length:Int)≤1000000)(hl:(s.machines.length:Int)≤999999):AC PR 45 [.ptr 0 0 0,nodeI n 4] (gH s++ [lbO n.labels]) (anA (addNodeG s n).1) (gKo [lbO n.labels] (addNodeG s n).2):=by
 have c1:=searchM_ok s.machines n.name hz.m
 have hp:posM s.machines n.name≤s.machines.length:=bs_le _ _ _ _ (by omega)
 have hB:addNodeG s n=if atB (fun x:Mc=>decide (cmpS x.node.name n.name=0)) s.machines (posM s.machines n.name)then(no 8,s)else if s.machines.length=16 then(no 10,s)else(no 0,{s with machines:=insAt (posM s.machines n.name) ⟨n,true,s.clock+4⟩ s.machines}):=rfl
 rw[show bs (atB (fun x:Mc=>decide (cmpS x.node.name n.name<0)) s.machines) s.machines.length 0 s.machines.length=posM s.machines n.name from rfl]at c1
 generalize atB (fun x:Mc=>decide (cmpS x.node.name n.name=0)) s.machines (posM s.machines n.name)=b at c1 hB
 generalize posM s.machines n.name=p at c1 hB hp
 have hc0:=hz.c0
 have hc1:=hz.c1
 apply A45
 conv=>whnf
 refine call_fr [] [1] [] c1 ?_
 conv=>whnf
 refine tB ?_
 cases b
 case true=>
  rw[if_pos rfl]at hB
  rw[hB]
  conv=>whnf
  refine call_closed (refuse_ok 8) ?_
  conv=>whnf
  exact at_end [some 0,some 1,some 2,some 3,some 4,some 1,some 2,some 3]
 rw[if_neg (by simp)]at hB
 conv=>whnf
 generalize hq3:decide ((s.machines.length:Int)=16)=q3
 cases q3
 case true=>
  rw[if_pos (by have:=of_decide_eq_true hq3;omega)]at hB
  rw[hB]
  conv=>whnf
  refine call_closed (refuse_ok 10) ?_
  conv=>whnf
  exact at_end [some 0,some 1,some 2,some 3,some 4,some 1,some 2,some 3]
 rw[if_neg (by have:=of_decide_eq_false hq3;omega)]at hB
 rw[hB]
 conv=>whnf
 refine call_fr (R:= .slc 7 0 n.labels.length none) [4] [] [lbO n.labels,lbO n.labels] (cloneL_own n.labels hn) ?_
 conv=>whnf
 refine w_i64 (by omega) ?_
 conv=>whnf
 refine call_fz (args:=[.slc 1 0 s.machines.length none,i64 p, .slc 8 0 1 none]) [some 0,some 1,some 2,some 3,some 4,some 5,some 6,some 7,some 8] [some (.rows 68 5 [gRow s]),rowsM s.machines,rowsQ s.queues,rowsJ s.jobs,lbO n.labels,none,some (.rows 36 2 [.agg [i64 0, .nilslc]]),none,rowsM [⟨n,true,s.clock+4⟩]] ?_
 refine call_fr (R:= .slc 9 0 (s.machines.length+1) none) [1,8] [] [none,rowsM [⟨n,true,s.clock+4⟩],rowsM (insAt p ⟨n,true,s.clock+4⟩ s.machines)] (insertM_ok s.machines ⟨n,true,s.clock+4⟩ p hp hl) ?_
 conv=>whnf
 have hlen:(insAt p (⟨n,true,s.clock+4⟩:Mc) s.machines).length=s.machines.length+1:=by simp[insAt];omega
 exact at_end [some 0,some 1,some 2,some 3,some 4,some 9,some 2,some 3]
theorem submitO_ok(s:St)(t:Tk)(hz:StW s)(ht:(t.wants.length:Int)≤1000000):AC PR 49 [.ptr 0 0 0,tkI t 4] (gH s++ [lbO t.wants]) (anA (submitG s t).1) (gKo [lbO t.wants] (submitG s t).2):=by
 have c1:=find_ok s.jobs t.name hz.j
 have c2:=queueF_ok s t.queue hz.q
 have hi:=idxB_lt (fun m:Qu=>decide (m.name=t.queue)) s.queues
 rw[show idxB (fun m:Qu=>decide (m.name=t.queue)) s.queues=quF s.queues t.queue from rfl]at hi
 have hB:submitG s t=if 0≤findJ s.jobs t.name then(no 8,s)else if quF s.queues t.queue<0 then(no 7,s)
  else match s.queues[(quF s.queues t.queue).toNat]? with
  |none=>(no 7,s)
  |some q=>submitQ s t q:=rfl
 have hzj:=hz.j
 have hn0:=hz.n0
 have hn1:=hz.n1
 generalize findJ s.jobs t.name=f at c1 hB
 generalize quF s.queues t.queue=i at c2 hB hi
 apply A49
 conv=>whnf
 refine call_fr [] [3] [] c1 ?_
 conv=>whnf
 generalize hq:decide (0≤f)=q1
 cases q1
 case true=>
  rw[if_pos (of_decide_eq_true hq)]at hB
  rw[hB]
  conv=>whnf
  refine call_closed (refuse_ok 8) ?_
  conv=>whnf
  exact at_end [some 0,some 1,some 2,some 3,some 4,some 1,some 2,some 3]
 rw[if_neg (of_decide_eq_false hq)]at hB
 conv=>whnf
 refine call_fr [] [1,2,3] [] c2 ?_
 conv=>whnf
 generalize hq2:decide (i<0)=q2
 cases q2
 case true=>
  rw[if_pos (of_decide_eq_true hq2)]at hB
  rw[hB]
  conv=>whnf
  refine call_closed (refuse_ok 7) ?_
  conv=>whnf
  exact at_end [some 0,some 1,some 2,some 3,some 4,some 1,some 2,some 3]
 have hneg:=of_decide_eq_false hq2
 obtain⟨hlt,e,x,hx,_⟩:=hi hneg
 rw[if_neg hneg,hx]at hB
 replace hB:submitG s t=submitQ s t x:=hB
 generalize i.toNat=k at hlt e hx hB
 subst e
 unfold submitQ at hB
 have c3:=admit_ok x s.jobs t.need hzj
 generalize admitF x s.jobs t.need=a at c3 hB
 conv=>whnf
 generalize hq3:decide ((s.jobs.length:Int)=48)=q3
 cases q3
 case true=>
  rw[if_pos (by have:=of_decide_eq_true hq3;omega)]at hB
  rw[hB]
  conv=>whnf
  refine call_closed (refuse_ok 10) ?_
  conv=>whnf
  exact at_end [some 0,some 1,some 2,some 3,some 4,some 1,some 2,some 3]
 rw[if_neg (by have:=of_decide_eq_false hq3;omega)]at hB
 conv=>whnf
 refine tA ?_
 refine call_fr [] [3] [] c3 ?_
 conv=>whnf
 generalize hq4:decide (a=0)=q4
 cases q4
 case false=>
  rw[if_pos (of_decide_eq_false hq4)]at hB
  rw[hB]
  conv=>whnf
  refine call_closed (refuse_ok a) ?_
  conv=>whnf
  exact at_end [some 0,some 1,some 2,some 3,some 4,some 1,some 2,some 3]
 rw[if_neg (fun h=>h (of_decide_eq_true hq4))]at hB
 conv=>whnf
 generalize hq5:decide (s.next=1073741824)=q5
 cases q5
 case true=>
  rw[if_pos (of_decide_eq_true hq5)]at hB
  rw[hB]
  conv=>whnf
  refine call_closed (refuse_ok 6) ?_
  conv=>whnf
  exact at_end [some 0,some 1,some 2,some 3,some 4,some 1,some 2,some 3]
 rw[if_neg (of_decide_eq_false hq5)]at hB
 rw[hB]
 conv=>whnf
 refine call_fr (R:= .slc 7 0 t.wants.length none) [4] [] [lbO t.wants,lbO t.wants] (cloneL_own t.wants ht) ?_
 conv=>whnf
 refine tA ?_
 refine app_whole (new:=[.agg [.str t.name, .str t.queue,i64 t.prio,i64 t.need.a,i64 t.need.b,i64 t.need.c, .slc 7 0 t.wants.length none, .str t.apart, .str t.gang,i64 t.size,i64 s.next, .str ⟨#[]⟩,i64 0]]) rfl ?_ rfl (by simp) (by simp[roomBound];omega) ?_
 ·intro r hr
  simp at hr
  subst hr
  exact⟨rfl,rfl⟩
 conv=>whnf
 refine tA ?_
 have hl2:(subS s t).jobs.length=s.jobs.length+1:=List.length_append ..
 refine at_end [some 0,some 1,some 2,some 3,some 4,some 1,some 2,some 9] (hN:=by
  first
   | (refine⟨⟨_,rfl, ?_⟩,⟨_,rfl, ?_⟩,⟨_,rfl, ?_⟩,⟨_,rfl, ?_⟩,⟨_,rfl,Go'.appF (by intro a;simp) ?_⟩,trivial⟩<;>exact autoG)
   |trace_state)
def opI(o:Op')(a b:Nat):AV:= .agg [i64 o.kind, .str o.node.name,i64 o.node.cap.a,i64 o.node.cap.b,i64 o.node.cap.c, .slc a 0 o.node.labels.length none, .str o.queue.name,i64 o.queue.quota.a,i64 o.queue.quota.b,i64 o.queue.quota.c,
 .str o.task.name, .str o.task.queue,i64 o.task.prio,i64 o.task.need.a,i64 o.task.need.b,i64 o.task.need.c, .slc b 0 o.task.wants.length none, .str o.task.apart, .str o.task.gang,i64 o.task.size, .str o.name]
theorem doO_ok(s:St)(o:Op')(hs:Fits s)(ho:Sized o.task)(hn:(o.node.labels.length:Int)≤1000000)(ht:(o.task.wants.length:Int)≤1000000):AC PR 18 [.ptr 0 0 0,opI o 4 5] (gH s++ [lbO o.node.labels,lbO o.task.wants]) (anA (doG s o).1) (gKo [lbO o.node.labels,lbO o.task.wants] (doG s o).2):=by
 have c0:=opRight_ok o ho
 have hB:doG s o=if opR o=true then doK (nxS s) o else(no 1,s):=rfl
 have hn0:=hs.w.n0
 have hn1:=hs.w.n1
 generalize opR o=r at c0 hB
 apply A18
 conv=>whnf
 refine tA ?_
 refine call_fr [] [4,5] [] c0 ?_
 conv=>whnf
 cases r
 case false=>
  simp only[Bool.false_eq_true,if_false]at hB
  rw[hB]
  conv=>whnf
  refine call_closed (refuse_ok 1) ?_
  conv=>whnf
  exact at_end [some 0,some 1,some 2,some 3,some 4,some 5,some 1,some 2,some 3]
 simp only[if_true]at hB
 conv=>whnf
 have hw:StW (nxS s):=⟨⟨hs.w.m,hs.w.q,hs.w.j,hs.w.l,hs.w.w⟩,hs.w.c0,hs.w.c1,by simp only;split<;>omega,by simp only;split<;>omega⟩
 have hm:=hs.m
 have hq:=hs.q
 have hj:=hs.j
 have ho:=hs.o
 unfold doK at hB
 generalize hq1:decide (o.kind=1)=q
 cases q
 case true=>
  rw[if_pos (of_decide_eq_true hq1)]at hB
  have c1:=addNodeO_ok (nxS s) o.node hw hn (by simp only;omega)
  rw[←hB]at c1
  generalize doG s o=d at c1
  obtain⟨a,s2⟩:=d
  simp only at c1
  conv=>whnf
  refine tA ?_
  refine call_fr (R:=anA a) [0,1,2,3,4] [] [some (.rows 68 5 [gRowAt 8 9 10 s2]),none,none,none,lbO o.node.labels,rowsM s2.machines,rowsQ s2.queues,rowsJ s2.jobs] c1 ?_
  conv=>whnf
  exact at_end [some 0,some 1,some 2,some 3,some 4,some 5,some 8,some 9,some 10]
 rw[if_neg (of_decide_eq_false hq1)]at hB
 conv=>whnf
 generalize hq2:decide (o.kind=2)=q
 cases q
 case true=>
  rw[if_pos (of_decide_eq_true hq2)]at hB
  have c1:=dropNode_ok (nxS s) o.name hw
  rw[←hB]at c1
  generalize doG s o=d at c1
  obtain⟨a,s2⟩:=d
  simp only at c1
  conv=>whnf
  refine tA ?_
  refine call_fr (R:=anA a) [0,1,2,3] [] (gH s2) c1 ?_
  conv=>whnf
  exact at_end [some 0,some 1,some 2,some 3,some 4,some 5,some 1,some 2,some 3]
 rw[if_neg (of_decide_eq_false hq2)]at hB
 conv=>whnf
 generalize hq3:decide (o.kind=3)=q
 cases q
 case true=>
  rw[if_pos (of_decide_eq_true hq3)]at hB
  have c1:=addQueue_ok (nxS s) o.queue hw (by simp only;omega)
  rw[←hB]at c1
  generalize doG s o=d at c1
  obtain⟨a,s2⟩:=d
  simp only at c1
  conv=>whnf
  refine tA ?_
  refine call_fr (R:=anA a) [0,1,2,3] [] [some (.rows 68 5 [gRowAt 8 9 10 s2]),none,none,none,rowsM s2.machines,rowsQ s2.queues,rowsJ s2.jobs] c1 ?_
  conv=>whnf
  exact at_end [some 0,some 1,some 2,some 3,some 4,some 5,some 8,some 9,some 10]
 rw[if_neg (of_decide_eq_false hq3)]at hB
 conv=>whnf
 generalize hq4:decide (o.kind=4)=q
 cases q
 case true=>
  rw[if_pos (of_decide_eq_true hq4)]at hB
  have c1:=dropQueue_ok (nxS s) o.name hw
  rw[←hB]at c1
  generalize doG s o=d at c1
  obtain⟨a,s2⟩:=d
  simp only at c1
  conv=>whnf
  refine tA ?_
  refine call_fr (R:=anA a) [0,1,2,3] [] (gH s2) c1 ?_
  conv=>whnf
  exact at_end [some 0,some 1,some 2,some 3,some 4,some 5,some 1,some 2,some 3]
 rw[if_neg (of_decide_eq_false hq4)]at hB
 conv=>whnf
 generalize hq5:decide (o.kind=5)=q
 cases q
 case true=>
  rw[if_pos (of_decide_eq_true hq5)]at hB
  have c1:=submitO_ok (nxS s) o.task hw ht
  rw[←hB]at c1
  generalize doG s o=d at c1
  obtain⟨a,s2⟩:=d
  simp only at c1
  conv=>whnf
  refine tA ?_
  refine call_fr (R:=anA a) [0,1,2,3,5] [] [some (.rows 68 5 [gRowAt 8 9 10 s2]),none,none,none,lbO o.task.wants,rowsM s2.machines,rowsQ s2.queues,rowsJ s2.jobs] c1 ?_
  conv=>whnf
  exact at_end [some 0,some 1,some 2,some 3,some 4,some 5,some 8,some 9,some 10]
 rw[if_neg (of_decide_eq_false hq5)]at hB
 conv=>whnf
 generalize hq8:decide (o.kind=8)=q
 cases q
 case true=>
  rw[if_pos (of_decide_eq_true hq8)]at hB
  have c1:=beat_ok (nxS s) o.name hw
  rw[←hB]at c1
  generalize doG s o=d at c1
  obtain⟨a,s2⟩:=d
  simp only at c1
  conv=>whnf
  refine tA ?_
  refine call_fr (R:=anA a) [0,1,2,3] [] (gH s2) c1 ?_
  conv=>whnf
  exact at_end [some 0,some 1,some 2,some 3,some 4,some 5,some 1,some 2,some 3]
 rw[if_neg (of_decide_eq_false hq8)]at hB
 conv=>whnf
 generalize hq9:decide (o.kind=9)=q
 cases q
 case true=>
  rw[if_pos (of_decide_eq_true hq9)]at hB
  have c1:=tick_ok (nxS s) hw (by simp only;omega) (by simp only;omega) ho
  rw[←hB]at c1
  generalize doG s o=d at c1
  obtain⟨a,s2⟩:=d
  simp only at c1
  conv=>whnf
  refine tA ?_
  refine call_fr (R:=anA a) [0,1,2,3] [] [some (.rows 68 5 [gRowAt 8 9 10 s2]),none,none,none,rowsM s2.machines,rowsQ s2.queues,rowsJ s2.jobs] c1 ?_
  conv=>whnf
  exact at_end [some 0,some 1,some 2,some 3,some 4,some 5,some 8,some 9,some 10]
 rw[if_neg (of_decide_eq_false hq9)]at hB
 conv=>whnf
 have c1:=gone_ok (nxS s) o.name o.kind hw
 rw[←hB]at c1
 generalize doG s o=d at c1
 obtain⟨a,s2⟩:=d
 simp only at c1
 conv=>whnf
 refine tA ?_
 refine call_fr (R:=anA a) [0,1,2,3] [] (gH s2) c1 ?_
 conv=>whnf
 exact at_end [some 0,some 1,some 2,some 3,some 4,some 5,some 1,some 2,some 3]
end Go.Am.Pt
end
