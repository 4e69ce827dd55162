/- Part of the proof: what functions of the program compute, walked. No conditions. -/
import Derived.Test.YtejbmdnhchoilaaGreatCa
import Derived.Test.YtejbmdnhchoilaaGreatCb
import Derived.Test.YtejbmdnhchoilaaGreatCc
import Derived.Test.YtejbmdnhchoilaaGreatCe
import Derived.Test.YtejbmdnhchoilaaGreatP02
import Derived.Test.YtejbmdnhchoilaaGreatP10
import Derived.Test.YtejbmdnhchoilaaGreatP11
import Derived.Test.YtejbmdnhchoilaaGreatP12
import Derived.Test.YtejbmdnhchoilaaGreatP13
set_option linter.unusedVariables false
set_option linter.unusedSimpArgs false
set_option maxRecDepth 100000
section
open Go Go.Am Go.Proofs
namespace Go.Am.Pt
structure Sh(s:St)(n:Nat)(H:AHeap):Prop where
 m:∃R,H[n]? =some (some (.rows 57 7 R))∧R.length=s.machines.length∧∀ (i:Nat) x,s.machines[i]? =some x→∃y:Mc,R[i]? =some (mcI y (n+3+i))∧y.node.labels.length=x.node.labels.length
 ml:∀ (i:Nat) x,s.machines[i]? =some x→∃L:List Lb,L.length=x.node.labels.length∧H[n+3+i]? =some (lbO L)
 q:∃l:List Qu,l.length=s.queues.length∧H[n+1]? =some (rowsQ l)
 j:∃R,H[n+2]? =some (some (.rows 63 13 R))∧R.length=s.jobs.length∧∀ (i:Nat) x,s.jobs[i]? =some x→∃y:Jb,R[i]? =some (jbI y (n+3+s.machines.length+i))∧y.task.wants.length=x.task.wants.length
 jl:∀ (i:Nat) x,s.jobs[i]? =some x→∃L:List Lb,L.length=x.task.wants.length∧H[n+3+s.machines.length+i]? =some (lbO L)
theorem coH_len(n:Nat)(s:St):(coH n s).length=3+s.machines.length+s.jobs.length:=by simp[coH];omega
theorem coH_m(n:Nat)(s:St){i:Nat}{x:Mc}(h:s.machines[i]? =some x):(coH n s)[3+i]? =some (lbO x.node.labels):=by
 have:=(List.getElem?_eq_some_iff.1 h).1
 rw[show 3+i=i+1+1+1 by omega]
 simp only[coH,List.getElem?_cons_succ]
 rw[List.getElem?_append_left (by simpa using this),List.getElem?_map,h];rfl
theorem coH_j(n:Nat)(s:St){i:Nat}{x:Jb}(h:s.jobs[i]? =some x):(coH n s)[3+s.machines.length+i]? =some (lbO x.task.wants):=by
 rw[show 3+s.machines.length+i=s.machines.length+i+1+1+1 by omega]
 simp only[coH,List.getElem?_cons_succ]
 rw[List.getElem?_append_right (by simp),List.length_map,Nat.add_sub_cancel_left,List.getElem?_map,h];rfl
theorem Sh.of {s:St}{n:Nat}{H:AHeap}(h:∀ (i:Nat) o,(coH n s)[i]? =some o→H[n+i]? =some o):Sh s n H:=by
 refine⟨⟨_,h 0 _ rfl,roL_len _ _ _,fun i x hx=>⟨x,by rw[roL_get,hx];rfl,rfl⟩⟩,fun i x hx=>⟨_,rfl, ?_⟩,⟨_,rfl,h 1 _ rfl⟩,⟨_,h 2 _ rfl,roL_len _ _ _,fun i x hx=>⟨x,by rw[roL_get,hx];rfl,rfl⟩⟩,fun i x hx=>⟨_,rfl, ?_⟩⟩
 ·rw[Nat.add_assoc];exact h _ _ (coH_m n s hx)
 ·rw[Nat.add_assoc,Nat.add_assoc,←Nat.add_assoc 3];exact h _ _ (coH_j n s hx)
section
variable {s:St} {n:Nat} {H H':AHeap}
theorem Sh.setM(h:Sh s n H){R:List AV}{i:Nat}{x:Mc}(hx:s.machines[i]? =some x)(hR:H[n]? =some (some (.rows 57 7 R))){y:Mc}(hy:y.node.labels.length=x.node.labels.length)(g:H'[n]? =some (some (.rows 57 7 (R.set i (mcI y (n+3+i))))))(f:∀id,id≠n→H'[id]? =H[id]?):Sh s n H':=by
 obtain⟨R0,h1,h2,h3⟩:=h.m
 rw[h1]at hR
 cases hR
 have hi:=(List.getElem?_eq_some_iff.1 hx).1
 refine⟨⟨_,g,by simpa using h2,fun k z hz=> ?_⟩,fun k z hz=>by rw[f _ (by omega)];exact h.ml k z hz,by rw[f _ (by omega)];exact h.q,by rw[f _ (by omega)];exact h.j,fun k z hz=>by rw[f _ (by omega)];exact h.jl k z hz⟩
 by_cases e:i=k
 ·subst e
  rw[hx]at hz;cases hz
  exact⟨y,by rw[List.getElem?_set_self (by omega)],hy⟩
 ·obtain⟨w,w1,w2⟩:=h3 k z hz
  exact⟨w,by rw[List.getElem?_set_ne e];exact w1,w2⟩
theorem Sh.setJ(h:Sh s n H){R:List AV}{i:Nat}{x:Jb}(hx:s.jobs[i]? =some x)(hR:H[n+2]? =some (some (.rows 63 13 R))){y:Jb}(hy:y.task.wants.length=x.task.wants.length)(g:H'[n+2]? =some (some (.rows 63 13 (R.set i (jbI y (n+3+s.machines.length+i))))))(f:∀id,id≠n+2→H'[id]? =H[id]?):Sh s n H':=by
 obtain⟨R0,h1,h2,h3⟩:=h.j
 rw[h1]at hR
 cases hR
 have hi:=(List.getElem?_eq_some_iff.1 hx).1
 refine⟨by rw[f _ (by omega)];exact h.m,fun k z hz=>by rw[f _ (by omega)];exact h.ml k z hz,by rw[f _ (by omega)];exact h.q,⟨_,g,by simpa using h2,fun k z hz=> ?_⟩,fun k z hz=>by rw[f _ (by omega)];exact h.jl k z hz⟩
 by_cases e:i=k
 ·subst e
  rw[hx]at hz;cases hz
  exact⟨y,by rw[List.getElem?_set_self (by omega)],hy⟩
 ·obtain⟨w,w1,w2⟩:=h3 k z hz
  exact⟨w,by rw[List.getElem?_set_ne e];exact w1,w2⟩
theorem Sh.setQ(h:Sh s n H){l:List Qu}(hl:l.length=s.queues.length)(g:H'[n+1]? =some (rowsQ l))(f:∀id,id≠n+1→H'[id]? =H[id]?):Sh s n H':=
 ⟨by rw[f _ (by omega)];exact h.m,fun k z hz=>by rw[f _ (by omega)];exact h.ml k z hz,⟨l,hl,g⟩,by rw[f _ (by omega)];exact h.j,fun k z hz=>by rw[f _ (by omega)];exact h.jl k z hz⟩
theorem Sh.setML(h:Sh s n H){i:Nat}{x:Mc}(hx:s.machines[i]? =some x){L:List Lb}(hL:L.length=x.node.labels.length)(g:H'[n+3+i]? =some (lbO L))(f:∀id,id≠n+3+i→H'[id]? =H[id]?):Sh s n H':=by
 have hi:=(List.getElem?_eq_some_iff.1 hx).1
 refine⟨by rw[f _ (by omega)];exact h.m,fun k z hz=> ?_,by rw[f _ (by omega)];exact h.q,by rw[f _ (by omega)];exact h.j,fun k z hz=>by rw[f _ (by omega)];exact h.jl k z hz⟩
 by_cases e:i=k
 ·subst e
  rw[hx]at hz;cases hz
  exact⟨L,hL,g⟩
 ·rw[f _ (by omega)];exact h.ml k z hz
theorem Sh.setJL(h:Sh s n H){i:Nat}{x:Jb}(hx:s.jobs[i]? =some x){L:List Lb}(hL:L.length=x.task.wants.length)(g:H'[n+3+s.machines.length+i]? =some (lbO L))(f:∀id,id≠n+3+s.machines.length+i→H'[id]? =H[id]?):Sh s n H':=by
 have hi:=(List.getElem?_eq_some_iff.1 hx).1
 refine⟨by rw[f _ (by omega)];exact h.m,fun k z hz=> ?_,by rw[f _ (by omega)];exact h.q,by rw[f _ (by omega)];exact h.j,fun k z hz=> ?_⟩
 ·have:=(List.getElem?_eq_some_iff.1 hz).1
  rw[f _ (by omega)];exact h.ml k z hz
 ·by_cases e:i=k
  ·subst e
   rw[hx]at hz;cases hz
   exact⟨L,hL,g⟩
  ·rw[f _ (by omega)];exact h.jl k z hz
end
theorem gnr_map {α:Type}{τ:List Nat}{nb:Prop}{f:α→List Lb}:∀l:List α,GNr τ nb (l.map fun x=>lbO (f x)) (l.map fun x=>lbO (f x))
 | []=>trivial
 |x::l=>⟨.flat _ _ _ (by intro r hr;obtain⟨a,_,rfl⟩:=List.mem_map.1 hr;simp),gnr_map l⟩
theorem gnr_app {τ:List Nat}{nb:Prop}:∀ {a b c d:AHeap},GNr τ nb a b→GNr τ nb c d→GNr τ nb (a++c) (b++d)
 | [],[],_,_,_,h=>h
 |none::l,none::m,_,_,h,k=>gnr_app (a:=l) (b:=m) h k
 |some _::l,none::m,_,_,h,k=>gnr_app (a:=l) (b:=m) h k
 |some o::l,some O::m,_,_,h,k=>⟨h.1,gnr_app (a:=l) (b:=m) h.2 k⟩
 |none::_,some _::_,_,_,h,_=>h.elim
 | [],none::_,_,_,h,_=>h.elim
 | [],some _::_,_,_,h,_=>h.elim
 |none::_,[],_,_,h,_=>h.elim
 |some _::_,[],_,_,h,_=>h.elim
theorem coH_fr {nb:Prop}(s:St)(τ:List Nat)(b n:Nat)(hτ:∀i,i<3+s.machines.length+s.jobs.length→τ[b+i]? =some (n+i)):GNr τ nb (coH b s) (coH n s):=by
 refine⟨.rows _ _ _ _ (by simp[roL_len]) fun i x y hx hy=> ?_, .flat _ _ _ (by intro r hr;obtain⟨a,_,rfl⟩:=List.mem_map.1 hr;simp), .rows _ _ _ _ (by simp[roL_len]) fun i x y hx hy=> ?_,gnr_app (gnr_map _) (gnr_map _)⟩
 ·rw[roL_get]at hx hy
  cases hi:s.machines[i]? with
  |none=>rw[hi]at hx;cases hx
  |some u=>
   have hil:=(List.getElem?_eq_some_iff.1 hi).1
   rw[hi]at hx hy
   simp only[Option.map_some,Option.some.injEq]at hx hy
   subst hx hy
   exact .aggL ⟨.flat _ (by simp), .flat _ (by simp), .flat _ (by simp), .flat _ (by simp), .slc _ _ _ _ _ (by rw[Nat.add_assoc,hτ _ (by omega)];congr 1;omega), .flat _ (by simp), .flat _ (by simp),trivial⟩
 ·rw[roL_get]at hx hy
  cases hi:s.jobs[i]? with
  |none=>rw[hi]at hx;cases hx
  |some u=>
   have hil:=(List.getElem?_eq_some_iff.1 hi).1
   rw[hi]at hx hy
   simp only[Option.map_some,Option.some.injEq]at hx hy
   subst hx hy
   exact .aggL ⟨.flat _ (by simp), .flat _ (by simp), .flat _ (by simp), .flat _ (by simp), .flat _ (by simp), .flat _ (by simp), .slc _ _ _ _ _ (by rw[Nat.add_assoc,Nat.add_assoc,hτ _ (by omega)];congr 1;omega), .flat _ (by simp), .flat _ (by simp), .flat _ (by simp), .flat _ (by simp), .flat _ (by simp), .flat _ (by simp),trivial⟩
theorem coH_lend {n0:Nat}{src:List (Option Nat)}{H:AHeap}{fz:Nat→Prop}(s:St)(n:Nat)(h:∀ (i:Nat) o,(coH n s)[i]? =some o→H[n+i]? =some o)(hf:∀id,n≤id→id<n+3+s.machines.length+s.jobs.length→fz id):Gv n0 src H fz (coA n s) (stA s):=by
 refine .aggL ⟨.same _ (by simp), .same _ (by simp), ?_, ?_, ?_,trivial⟩
 ·have hg:∀ (p:Nat) a b,(roL mcI (n+3) s.machines)[0+p]? =some a→(s.machines.map mcA)[p]? =some b→GL n0 src H fz a.cells b.cells:=fun p a b ha hb=>by
   rw[Nat.zero_add,roL_get]at ha
   rw[List.getElem?_map]at hb
   cases hi:s.machines[p]? with
   |none=>rw[hi]at ha;cases ha
   |some u=>
    have hil:=(List.getElem?_eq_some_iff.1 hi).1
    rw[hi]at ha hb
    cases ha;cases hb
    exact⟨.same _ (by simp), .same _ (by simp), .same _ (by simp), .same _ (by simp), .lend (f:=lb) (l:=u.node.labels) (t:=65) (hf _ (by omega) (by omega)) (by rw[Nat.add_assoc];exact h _ _ (coH_m n s hi)) rfl (by intro a;simp), .same _ (by simp), .same _ (by simp),trivial⟩
  exact .frzN _ _ _ _ 57 _ (roL mcI (n+3) s.machines) _ (hf _ (by omega) (by omega)) (h 0 _ rfl) (by simp[roL_len]) (by simp) (by intro r hr;obtain⟨a,_,rfl⟩:=List.mem_map.1 hr;simp) (fun p a b ha hb=>(hg p a b ha hb).all.1) (fun p q a b x y ha hb hx hy=>(hg p a b ha hb).all.2 q x y hx hy)
 ·exact .lend (f:=quR) (l:=s.queues) (t:=45) (hf _ (by omega) (by omega)) (h 1 _ rfl) rfl (by intro a;simp)
 ·have hg:∀ (p:Nat) a b,(roL jbI (n+3+s.machines.length) s.jobs)[0+p]? =some a→(s.jobs.map jbA)[p]? =some b→GL n0 src H fz a.cells b.cells:=fun p a b ha hb=>by
   rw[Nat.zero_add,roL_get]at ha
   rw[List.getElem?_map]at hb
   cases hi:s.jobs[p]? with
   |none=>rw[hi]at ha;cases ha
   |some u=>
    have hil:=(List.getElem?_eq_some_iff.1 hi).1
    rw[hi]at ha hb
    cases ha;cases hb
    exact⟨.same _ (by simp), .same _ (by simp), .same _ (by simp), .same _ (by simp), .same _ (by simp), .same _ (by simp), .lend (f:=lb) (l:=u.task.wants) (t:=65) (hf _ (by omega) (by omega)) (by rw[Nat.add_assoc,Nat.add_assoc,←Nat.add_assoc 3];exact h _ _ (coH_j n s hi)) rfl (by intro a;simp), .same _ (by simp), .same _ (by simp), .same _ (by simp), .same _ (by simp), .same _ (by simp), .same _ (by simp),trivial⟩
  exact .frzN _ _ _ _ 63 _ (roL jbI (n+3+s.machines.length) s.jobs) _ (hf _ (by omega) (by omega)) (h 2 _ rfl) (by simp[roL_len]) (by simp) (by intro r hr;obtain⟨a,_,rfl⟩:=List.mem_map.1 hr;simp) (fun p a b ha hb=>(hg p a b ha hb).all.1) (fun p q a b x y ha hb hx hy=>(hg p a b ha hb).all.2 q x y hx hy)
end Go.Am.Pt
end
section
open Go Go.Am Go.Proofs
namespace Go.Am.Pt
theorem coH_gn {n0:Nat}{src:List (Option Nat)}{H:AHeap}{fz:Nat→Prop}(s:St)(a b:Nat)(h:∀ (i:Nat) o,(coH a s)[i]? =some o→H[a+i]? =some o)(hs:∀i,i<3+s.machines.length+s.jobs.length→src[b+i]? =some (some (a+i))):
  GN n0 src H fz ((List.range' a (3+s.machines.length+s.jobs.length)).map some) (coH b s):=by
 refine gnN _ _ (by rw[coH_len];simp) fun i id o' hi ho=> ?_
 have hil:=(List.getElem?_eq_some_iff.1 hi).1
 rw[List.length_range']at hil
 rw[List.getElem?_range' hil]at hi
 have hid:id=a+i:=by simp at hi;omega
 subst hid
 match i with
 |0=>
  cases ho
  refine⟨_,_,rfl,h 0 _ rfl, .rows _ _ _ _ (by simp[roL_len]) fun i x y hx hy=> ?_⟩
  rw[roL_get]at hx hy
  cases hm:s.machines[i]? with
  |none=>rw[hm]at hx;cases hx
  |some u=>
   have hl:=(List.getElem?_eq_some_iff.1 hm).1
   rw[hm]at hx hy
   cases hx;cases hy
   exact .aggL ⟨.same _ (by simp), .same _ (by simp), .same _ (by simp), .same _ (by simp), .slc _ _ _ _ _ (by rw[Nat.add_assoc,Nat.add_assoc];exact hs _ (by omega)), .same _ (by simp), .same _ (by simp),trivial⟩
 |1=>
  cases ho
  exact⟨_,_,rfl,h 1 _ rfl, .same _ _ _ (by intro r hr;obtain⟨a,_,rfl⟩:=List.mem_map.1 hr;simp)⟩
 |2=>
  cases ho
  refine⟨_,_,rfl,h 2 _ rfl, .rows _ _ _ _ (by simp[roL_len]) fun i x y hx hy=> ?_⟩
  rw[roL_get]at hx hy
  cases hm:s.jobs[i]? with
  |none=>rw[hm]at hx;cases hx
  |some u=>
   have hl:=(List.getElem?_eq_some_iff.1 hm).1
   rw[hm]at hx hy
   cases hx;cases hy
   exact .aggL ⟨.same _ (by simp), .same _ (by simp), .same _ (by simp), .same _ (by simp), .same _ (by simp), .same _ (by simp), .slc _ _ _ _ _ (by rw[Nat.add_assoc,Nat.add_assoc,Nat.add_assoc,Nat.add_assoc];exact hs _ (by omega)), .same _ (by simp), .same _ (by simp), .same _ (by simp), .same _ (by simp), .same _ (by simp), .same _ (by simp),trivial⟩
 |i+3=>
  have h3:=h (i+3) o' ho
  simp only[coH,List.getElem?_cons_succ]at ho
  obtain⟨L,rfl⟩:∃L,o'=lbO L:=by
   rcases List.mem_append.1 (List.mem_of_getElem? ho)with hm|hm<;>obtain⟨x,_,rfl⟩:=List.mem_map.1 hm<;>exact⟨_,rfl⟩
  exact⟨_,_,rfl,h3, .same _ _ _ (by intro r hr;obtain⟨a,_,rfl⟩:=List.mem_map.1 hr;simp)⟩
theorem stateW_ok(s:St)(hz:StSz s)(hn:s.next≠0):AC PR 20 [.ptr 0 0 0] (gH s) (coA 4 s) (gH s++coH 4 s):=by
 have cw:=copyWo s hz
 apply A20
 conv=>whnf
 rw[decide_eq_false hn]
 conv=>whnf
 have hlen:([rowsM s.machines,rowsQ s.queues,rowsJ s.jobs]++coH 3 s).length- [1,2,3].length=3+s.machines.length+s.jobs.length:=by
  rw[List.length_append,coH_len];simp
 have hτ:∀ (i:Nat),i<3+s.machines.length+s.jobs.length→([1,2,3]++List.range' 5 (([rowsM s.machines,rowsQ s.queues,rowsJ s.jobs]++coH 3 s).length- [1,2,3].length))[3+i]? =some (5+i):=fun i hi=>by
  rw[hlen,List.getElem?_append_right (by simp),List.getElem?_range' (by simpa using hi)]
  simp
 refine call_fr (R:=coA 5 s) [1,2,3] [] ([rowsM s.machines,rowsQ s.queues,rowsJ s.jobs]++coH 5 s) cw ?_ (hO:=⟨by exact autoH,by exact autoH,by exact autoH,coH_fr s _ 3 5 hτ⟩) (hr:= .aggL ⟨.flat _ (by simp), .flat _ (by simp), .slc _ _ _ _ _ (hτ 0 (by omega)), .slc _ _ _ _ _ (hτ 1 (by omega)), .slc _ _ _ _ _ (hτ 2 (by omega)),trivial⟩)
 obtain⟨H1,e1,n1,h0,h1,h2,h3,h4,hc⟩:∃H1:AHeap,H1=gH s++ [some (.rows 31 5 [.agg [i64 0,i64 0, .nilslc, .nilslc, .nilslc]])]++coH 5 s∧H1.length=8+s.machines.length+s.jobs.length∧H1[0]? =some (some (.rows 68 5 [gRow s]))∧H1[1]? =some (rowsM s.machines)∧H1[2]? =some (rowsQ s.queues)∧H1[3]? =some (rowsJ s.jobs)∧H1[4]? =some (some (.rows 31 5 [.agg [i64 0,i64 0, .nilslc, .nilslc, .nilslc]]))∧∀ (i:Nat) o,(coH 5 s)[i]? =some o→H1[5+i]? =some o:=
  ⟨_,rfl,by rw[List.length_append,coH_len];simp;omega,rfl,rfl,rfl,rfl,rfl,fun i o h=>by rw[Nat.add_comm];exact h⟩
 refine fs_to H1 (by rw[e1];rfl) ?_
 clear e1
 conv=>whnf
 obtain⟨H2,e2,n2,g2,f2⟩:=set_facts H1 4 (some (.rows 31 5 [coA 5 s])) (by omega)
 refine k_stH H2 (r:= .agg [i64 0,i64 0, .nilslc, .nilslc, .nilslc]) rfl h4 ⟨rfl,by decide,by decide,rfl⟩ (by rw[e2];rfl) ?_
 clear e2
 conv=>whnf
 refine k_row (rowAt_of g2 rfl) ?_
 conv=>whnf
 have kc:∀ (i:Nat) o,(coH 5 s)[i]? =some o→H2[5+i]? =some o:=fun i o h=>by rw[f2 _ (by omega)];exact hc i o h
 have hsrc:∀i,i<3+s.machines.length+s.jobs.length→((0::1::2::3::List.range' 5 (3+s.machines.length+s.jobs.length)).map some)[4+i]? =some (some (5+i)):=fun i hi=>by
  rw[List.getElem?_map,show 4+i=i+1+1+1+1 by omega]
  simp only[List.getElem?_cons_succ]
  rw[List.getElem?_range' hi];simp
 have hR:=fun(α:Type) (f:α→AV) (l:List α) (hb:∀a,Bel 4 (f a))=>(show∀r∈l.map f,Bel 4 r by intro r hr;obtain⟨a,_,rfl⟩:=List.mem_map.1 hr;exact hb a)
 refine⟨fin_gc ((0::1::2::3::List.range' 5 (3+s.machines.length+s.jobs.length)).map some) (fun id hid=> ?_) (ndN _ _ ?_) ⟨⟨_,(f2 0 (by decide)).trans h0,by exact autoH⟩,⟨_,(f2 1 (by decide)).trans h1, .same _ _ _ (hR _ _ _ (by intro a;simp))⟩,⟨_,(f2 2 (by decide)).trans h2, .same _ _ _ (hR _ _ _ (by intro a;simp))⟩,⟨_,(f2 3 (by decide)).trans h3, .same _ _ _ (hR _ _ _ (by intro a;simp))⟩,coH_gn s 5 4 kc hsrc⟩ (.aggL ⟨.same _ (by simp), .same _ (by simp), .slc _ _ _ _ _ (hsrc 0 (by omega)), .slc _ _ _ _ _ (hsrc 1 (by omega)), .slc _ _ _ _ _ (hsrc 2 (by omega)),trivial⟩)⟩
 ·match id,hid with
  |0,_=>rfl
  |1,_=>rfl
  |2,_=>rfl
  |3,_=>rfl
  |n+4,h=>exact absurd h (by simp)
 ·simp only[List.nodup_cons,List.mem_cons,List.mem_range'_1,not_or]
  refine⟨by omega,by omega,by omega,by omega,List.nodup_range' ..⟩
theorem doO_good {Bd:Bool}{s:St}(h:Gd Bd s){o:Op'}(hz:OpB o)(hs:smallB o=true):AC PR 18 [.ptr 0 0 0,opI o 4 5] (gH s++ [lbO o.node.labels,lbO o.task.wants]) (anA (doG s o).1) (gKo [lbO o.node.labels,lbO o.task.wants] (doG s o).2):=by
 obtain⟨hn,ht⟩:=smallB_len hs
 exact doO_ok s o h.inv.fits hz.sized hn ht
set_option maxHeartbeats 4000000 in
theorem lawKeeps_ok(l:List Op')(hl:(l.length:Int)≤1048576)(hz:∀o∈l,OpB o):AC PR 6 [ops l] [] (.bool true) []:=by
 have hm:(l.map opE).length=l.length:=List.length_map ..
 have cf:=few_ok l hl hz
 have hall:= @fewB_all l
 generalize fewB l=q at cf hall
 apply A6
 conv=>whnf
 refine call_closed awake_ok ?_
 conv=>whnf
 repeat(first
  | (refine And.intro rfl ?_;conv=>whnf))
 refine call_closed cf ?_
 conv=>whnf
 cases q
 case false=>
  conv=>whnf
  refine call_closed awake_ok ?_
  conv=>whnf
  exact at_end []
 obtain⟨h150,hsm⟩:=hall rfl
 conv=>whnf
 refine call_fr (R:= .ptr 0 0 0) [] [] [gRw 1 2 3 St.new,rowsM [],rowsQ [],rowsJ []] new_ok ?_
 conv=>whnf
 refine call_fr (R:= .ptr 4 0 0) [] [] [gRw 5 6 7 St.new,rowsM [],rowsQ [],rowsJ []] new_ok ?_
 conv=>whnf
 rw[hm]
 refine loop_to l.length (fun k e H=>∃s:St,Good s∧e=[(0,ops l),(3, .ptr 0 0 0),(4, .ptr 4 0 0),(34,i64 l.length),(35,i64 k)]∧H=gS s) ?_ ?_
 rotate_left
 ·conv=>whnf
  exact at_head [some 0,some 1,some 2,some 3,some 4,some 5,some 6,some 7] (gS St.new) [(0,ops l),(3, .ptr 0 0 0),(4, .ptr 4 0 0),(34,i64 l.length),(35,i64 (0:Nat))] ⟨St.new,good_new,rfl,rfl⟩
 rintro k e H hk ⟨s,hg,rfl,rfl⟩
 conv=>whnf
 generalize hq:decide ((k:Int)<(l.length:Int))=q
 cases q
 case false=>
  have hw:=hg.inv.fits.w.toStSz
  have zm:=hw.m
  have zq:=hw.q
  have zj:=hw.j
  have cs:=stateW_ok s hw (by have:=hg.inv.n0;omega)
  have cst:=state_ok s hw (by have:=hg.inv.n0;omega)
  have csame:=stSelf_ok s hw
  conv=>whnf
  have hlen:(gH s++coH 4 s).length- [0,1,2,3].length=3+s.machines.length+s.jobs.length:=by
   rw[List.length_append,coH_len];simp
  have hτ:∀ (i:Nat),i<3+s.machines.length+s.jobs.length→([0,1,2,3]++List.range' 8 ((gH s++coH 4 s).length- [0,1,2,3].length))[4+i]? =some (8+i):=fun i hi=>by
   rw[hlen,List.getElem?_append_right (by simp),List.getElem?_range' (by simpa using hi)]
   simp
  refine call_fr (R:=coA 8 s) [0,1,2,3] [] ([gRw 1 2 3 s,rowsM s.machines,rowsQ s.queues,rowsJ s.jobs]++coH 8 s) cs ?_ (hO:=⟨by exact autoH,by exact autoH,by exact autoH,by exact autoH,coH_fr s _ 4 8 hτ⟩) (hr:= .aggL ⟨.flat _ (by simp), .flat _ (by simp), .slc _ _ _ _ _ (hτ 0 (by omega)), .slc _ _ _ _ _ (hτ 1 (by omega)), .slc _ _ _ _ _ (hτ 2 (by omega)),trivial⟩)
  obtain⟨H1,e1,n1,h0,hc⟩:∃H1:AHeap,H1=gS s++coH 8 s∧H1.length=11+s.machines.length+s.jobs.length∧(∀ (i:Nat) o,(gS s)[i]? =some o→H1[i]? =some o)∧∀ (i:Nat) o,(coH 8 s)[i]? =some o→H1[8+i]? =some o:=
   ⟨_,rfl,by rw[List.length_append,coH_len];simp;omega,fun i o h=>(Go.Am.get_app (live_lt h) _).trans h,fun i o h=>by rw[Nat.add_comm];exact h⟩
  refine fs_to H1 (by rw[e1];rfl) ?_
  clear e1
  conv=>whnf
  obtain⟨H2,e2,n2,g2,f2⟩:=app_facts H1 (some (.rows 31 5 [.agg [i64 0,i64 0, .nilslc, .nilslc, .nilslc]]))
  refine fs_to H2 e2.symm ?_
  clear e2
  conv=>whnf
  obtain⟨H3,e3,n3,ka,f3⟩:=set_facts H2 H1.length (some (.rows 31 5 [coA 8 s])) (by omega)
  refine k_stH H3 (r:= .agg [i64 0,i64 0, .nilslc, .nilslc, .nilslc]) rfl g2 ⟨rfl,by decide,by decide,rfl⟩ (by rw[e3];rfl) ?_
  clear e3
  conv=>whnf
  have kg:∀ (i:Nat) o,(gS s)[i]? =some o→H3[i]? =some o:=fun i o h=>by
   have:=live_lt (h0 i o h)
   rw[f3 _ (by omega),f2 _ (by omega)];exact h0 i o h
  have kc:∀ (i:Nat) o,(coH 8 s)[i]? =some o→H3[8+i]? =some o:=fun i o h=>by
   have:=live_lt (hc i o h)
   rw[f3 _ (by omega),f2 _ (by omega)];exact hc i o h
  clear f3 f2 h0 hc g2 n3 n2
  generalize H1.length=N at*
  clear H1 H2
  refine k_cell (rowAt_of ka rfl) ?_
  conv=>whnf
  refine loop_to s.machines.length (fun k e H=>Sh s 8 H∧(∀id,id<8∨N≤id→H[id]? =H3[id]?)∧e=[(3, .ptr 0 0 0),(4, .ptr 4 0 0),(13, .ptr N 0 0),(102,i64 s.machines.length),(103,i64 k)]) ?_ ?_
  rotate_left
  ·exact gcp_id (Nat.zero_le _) ⟨.of kc,fun _ _=>rfl,rfl⟩
  rintro k e H hk ⟨hS,hF,rfl⟩
  conv=>whnf
  generalize hq:decide ((k:Int)<(s.machines.length:Int))=q
  cases q
  case false=>
   conv=>whnf
   refine k_cell (rowAt_of ((hF _ (by omega)).trans ka) rfl) ?_
   conv=>whnf
   refine loop_to s.jobs.length (fun k e H=>Sh s 8 H∧(∀id,id<8∨N≤id→H[id]? =H3[id]?)∧e=[(3, .ptr 0 0 0),(4, .ptr 4 0 0),(13, .ptr N 0 0),(136,i64 s.jobs.length),(137,i64 k)]) ?_ ?_
   rotate_left
   ·exact gcp_id (Nat.zero_le _) ⟨hS,hF,rfl⟩
   clear hS hF H
   rintro k e H hk ⟨hS,hF,rfl⟩
   conv=>whnf
   generalize hq:decide ((k:Int)<(s.jobs.length:Int))=q
   cases q
   case false=>
    have hl0:=live_lt ((hF 7 (by omega)).trans (kg 7 _ rfl))
    have kg':∀ (i:Nat) o,(gS s)[i]? =some o→H[i]? =some o:=fun i o h=>(hF i (.inl (live_lt h))).trans (kg i o h)
    conv=>whnf
    refine call_fr (R:=stA s) [0,1,2,3] [] [gRw 1 2 3 s,rowsM s.machines,rowsQ s.queues,rowsJ s.jobs] cst ?_ (hσ:=by simp[ltAll];omega) (hN:=⟨⟨_,kg' 0 _ rfl,by exact autoH⟩,⟨_,kg' 1 _ rfl,by exact autoH⟩,⟨_,kg' 2 _ rfl,by exact autoH⟩,⟨_,kg' 3 _ rfl,by exact autoH⟩,trivial⟩)
    refine fs_to H (by simp only[place];rw[set_same_id (kg' 0 _ rfl),set_same_id (kg' 1 _ rfl),set_same_id (kg' 2 _ rfl),set_same_id (kg' 3 _ rfl)];exact List.append_nil _) ?_
    conv=>whnf
    refine call_fr (R:=stA s) [4,5,6,7] [] [gRw 5 6 7 s,rowsM s.machines,rowsQ s.queues,rowsJ s.jobs] cst ?_ (hσ:=by simp[ltAll];omega) (hN:=⟨⟨_,kg' 4 _ rfl,by exact autoH⟩,⟨_,kg' 5 _ rfl,by exact autoH⟩,⟨_,kg' 6 _ rfl,by exact autoH⟩,⟨_,kg' 7 _ rfl,by exact autoH⟩,trivial⟩)
    refine fs_to H (by simp only[place];rw[set_same_id (kg' 4 _ rfl),set_same_id (kg' 5 _ rfl),set_same_id (kg' 6 _ rfl),set_same_id (kg' 7 _ rfl)];exact List.append_nil _) ?_
    conv=>whnf
    refine call_closed csame ?_
    conv=>whnf
    exact at_end []
   have hk2:k<s.jobs.length:=by have:=of_decide_eq_true hq;omega
   have hgo:=List.getElem?_eq_getElem hk2
   generalize s.jobs[k]=x at hgo
   obtain⟨R,m1,m2,m3⟩:=hS.j
   obtain⟨y,y1,y2⟩:=m3 k x hgo
   conv=>whnf
   refine k_cell (rowAt_of ((hF _ (by omega)).trans ka) rfl) ?_
   conv=>whnf
   refine k_idx ?_ _ (rowsOf_of m1) (by omega) (by omega)
   conv=>whnf
   obtain⟨H1,e1,n9,g1,f1⟩:=set_facts H (8+2) (some (.rows 63 13 (R.set k (jbI {y with node:=⟨#[111,116,104,101,114]⟩} (8+3+s.machines.length+k))))) (live_lt m1)
   refine k_stH H1 (r:=jbI y (8+3+s.machines.length+k)) y1 m1 ⟨rfl,by decide,by decide,rfl⟩ (by rw[e1];rfl) ?_
   clear e1
   have hS1:=hS.setJ hgo m1 (y:= {y with node:=⟨#[111,116,104,101,114]⟩}) y2 g1 f1
   conv=>whnf
   refine w_i64 (by omega) ?_
   conv=>whnf
   exact gcp_id (Nat.zero_le _) ⟨hk2,hS1,fun id h=>(f1 id (by omega)).trans (hF id h),rfl⟩
  have hk2:k<s.machines.length:=by have:=of_decide_eq_true hq;omega
  have hgo:=List.getElem?_eq_getElem hk2
  generalize s.machines[k]=x at hgo
  have hxl:=hw.l x (List.mem_of_getElem? hgo)
  obtain⟨R,m1,m2,m3⟩:=hS.m
  obtain⟨y,y1,y2⟩:=m3 k x hgo
  conv=>whnf
  refine k_cell (rowAt_of ((hF _ (by omega)).trans ka) rfl) ?_
  conv=>whnf
  refine k_idx ?_ _ (rowsOf_of m1) (by omega) (by omega)
  conv=>whnf
  obtain⟨H1,e1,n9,g1,f1⟩:=set_facts H 8 (some (.rows 57 7 (R.set k (mcI {y with up:=false} (8+3+k))))) (live_lt m1)
  refine k_stH H1 (r:=mcI y (8+3+k)) y1 m1 ⟨rfl,by decide,by decide,rfl⟩ (by rw[e1];rfl) ?_
  clear e1
  have hS1:=hS.setM hgo m1 (y:= {y with up:=false}) y2 g1 f1
  have hF1:∀id,id<8∨N≤id→H1[id]? =H3[id]? :=fun id h=>(f1 id (by omega)).trans (hF id h)
  conv=>whnf
  refine k_cell (rowAt_of ((hF1 _ (by omega)).trans ka) rfl) ?_
  conv=>whnf
  refine k_idx ?_ _ (rowsOf_of g1) (by omega) (by omega)
  conv=>whnf
  refine k_cell (rowAt_of g1 (List.getElem?_set_self (by omega))) ?_
  conv=>whnf
  refine loop_to y.node.labels.length (fun k2 e H=>Sh s 8 H∧(∀id,id<8∨N≤id→H[id]? =H3[id]?)∧e=[(3, .ptr 0 0 0),(4, .ptr 4 0 0),(13, .ptr N 0 0),(14,i64 k),(102,i64 s.machines.length),(103,i64 k),(118,i64 y.node.labels.length),(119,i64 k2)]) ?_ ?_
  rotate_left
  ·exact gcp_id (Nat.zero_le _) ⟨hS1,hF1,rfl⟩
  clear hS1 hF1 g1 f1 n9 H1 hS hF m1 m2 m3 y1 H R
  rintro k2 e H hkk ⟨hS,hF,rfl⟩
  conv=>whnf
  generalize hq2:decide ((k2:Int)<(y.node.labels.length:Int))=q
  cases q
  case false=>
   conv=>whnf
   refine w_i64 (by omega) ?_
   conv=>whnf
   exact gcp_id (Nat.zero_le _) ⟨hk2,hS,hF,rfl⟩
  have hkl:k2<y.node.labels.length:=by have:=of_decide_eq_true hq2;omega
  obtain⟨R,m1,m2,m3⟩:=hS.m
  obtain⟨z,z1,z2⟩:=m3 k x hgo
  obtain⟨L,l1,l2⟩:=hS.ml k x hgo
  obtain⟨u,hu⟩:∃u,L[k2]? =some u:=⟨_,List.getElem?_eq_getElem (by omega)⟩
  conv=>whnf
  refine k_cell (rowAt_of ((hF _ (by omega)).trans ka) rfl) ?_
  conv=>whnf
  refine k_idx ?_ _ (rowsOf_of m1) (by omega) (by omega)
  conv=>whnf
  refine k_cell (rowAt_of m1 z1) ?_
  conv=>whnf
  refine k_idx ?_ _ (rowsOf_of l2) (by omega) (by omega)
  conv=>whnf
  obtain⟨H2,e2,_,g2,f2⟩:=set_facts H (8+3+k) (lbO (L.set k2 (⟨#[111,116,104,101,114]⟩,u.2))) (live_lt l2)
  refine k_stH H2 (r:=lb u) (get_map hu) l2 ⟨rfl,by decide,by decide,rfl⟩ (by rw[e2,lbO,List.map_set];rfl) ?_
  clear e2
  have hS2:=hS.setML hgo (L:=L.set k2 (⟨#[111,116,104,101,114]⟩,u.2)) (by rw[List.length_set];exact l1) g2 f2
  conv=>whnf
  refine w_i64 (by omega) ?_
  conv=>whnf
  exact gcp_id (Nat.zero_le _) ⟨hkl,hS2,fun id h=>(f2 id (by omega)).trans (hF id h),rfl⟩
 have hk2:k<l.length:=by have:=of_decide_eq_true hq;omega
 have hgo:=List.getElem?_eq_getElem hk2
 have hx':l[((k:Nat):Int).toNat]? =some l[k]:=hgo
 have hxm:l[k]∈l:=List.getElem_mem _
 generalize l[k]=x at hgo hx' hxm
 obtain⟨d1,hg2,d3⟩:=do_good hg (hz x hxm) (hsm x hxm)
 have d2:=doO_good hg (hz x hxm) (hsm x hxm)
 obtain⟨hn,ht⟩:=smallB_len (hsm x hxm)
 generalize doG s x=d at d1 hg2 d3 d2
 obtain⟨a,s2⟩:=d
 simp only at d1 hg2 d3 d2
 conv=>whnf
 refine tA ?_
 refine app_map (f:=lb) (l:=[]) (new:=x.node.labels) rfl rfl (Nat.zero_le _) (by simp[roomBound];omega) (fun _=> ?_) (fun h=>absurd h (by simp))
 conv=>whnf
 refine tA ?_
 refine app_map (f:=lb) (l:=[]) (new:=x.task.wants) rfl rfl (Nat.zero_le _) (by simp[roomBound];omega) (fun _=> ?_) (fun h=>absurd h (by simp))
 conv=>whnf
 refine tA ?_
 refine tB ?_
 refine call_fr (R:=anA a) [0,1,2,3,9,11] [] [gRw 13 14 15 s2,none,none,none,lbO x.node.labels,lbO x.task.wants,rowsM s2.machines,rowsQ s2.queues,rowsJ s2.jobs] d2 ?_
 conv=>whnf
 refine tB ?_
 refine call_fr (R:=anA a) [4,5,6,7] [] [gRw 16 17 18 s2,none,none,none,rowsM s2.machines,rowsQ s2.queues,rowsJ s2.jobs] d1 ?_
 conv=>whnf
 refine tB ?_
 refine call_closed d3 ?_
 conv=>whnf
 rw[show(List.replicate 0 (AV.agg [AV.str ⟨#[]⟩,AV.str ⟨#[]⟩])).length+x.node.labels.length=x.node.labels.length from Nat.zero_add _]
 refine loop_to x.node.labels.length (fun k2 e H=>∃L:List Lb,L.length=x.node.labels.length∧e=[(0,ops l),(3, .ptr 0 0 0),(4, .ptr 4 0 0),(6, .slc 8 0 x.node.labels.length none),(7, .slc 9 0 x.task.wants.length none),(34,i64 l.length),(35,i64 (k:Nat)),(78,i64 x.node.labels.length),(79,i64 (k2:Nat))]∧H=gS s2++ [lbO L,lbO x.task.wants]) ?_ ?_
 rotate_left
 ·conv=>whnf
  exact at_head [some 0,some 13,some 14,some 15,some 4,some 16,some 17,some 18,some 9,some 11] (gS s2++ [lbO x.node.labels,lbO x.task.wants]) ((fun k2:Nat=> [(0,ops l),(3, .ptr 0 0 0),(4, .ptr 4 0 0),(6, .slc 8 0 x.node.labels.length none),(7, .slc 9 0 x.task.wants.length none),(34,i64 l.length),(35,i64 (k:Nat)),(78,i64 x.node.labels.length),(79,i64 (k2:Nat))]) 0) ⟨_,rfl,rfl,rfl⟩
 rintro k2 e H hkk ⟨L,hL,rfl,rfl⟩
 conv=>whnf
 generalize hq2:decide ((k2:Int)<(x.node.labels.length:Int))=q
 cases q
 case false=>
  conv=>whnf
  refine loop_to x.task.wants.length (fun k3 e H=>∃L:List Lb,L.length=x.task.wants.length∧e=[(0,ops l),(3, .ptr 0 0 0),(4, .ptr 4 0 0),(7, .slc 8 0 x.task.wants.length none),(34,i64 l.length),(35,i64 (k:Nat)),(88,i64 x.task.wants.length),(89,i64 (k3:Nat))]∧H=gS s2++ [lbO L]) ?_ ?_
  rotate_left
  ·conv=>whnf
   exact at_head [some 0,some 1,some 2,some 3,some 4,some 5,some 6,some 7,some 9] (gS s2++ [lbO x.task.wants]) ((fun k3:Nat=> [(0,ops l),(3, .ptr 0 0 0),(4, .ptr 4 0 0),(7, .slc 8 0 x.task.wants.length none),(34,i64 l.length),(35,i64 (k:Nat)),(88,i64 x.task.wants.length),(89,i64 (k3:Nat))]) 0) ⟨_,rfl,rfl,rfl⟩
  rintro k3 e H hkk3 ⟨L,hL,rfl,rfl⟩
  conv=>whnf
  generalize hq3:decide ((k3:Int)<(x.task.wants.length:Int))=q
  cases q
  case false=>
   conv=>whnf
   refine w_i64 (by omega) ?_
   conv=>whnf
   exact at_head [some 0,some 1,some 2,some 3,some 4,some 5,some 6,some 7] (gS s2) [(0,ops l),(3, .ptr 0 0 0),(4, .ptr 4 0 0),(34,i64 l.length),(35,i64 (k+1:Nat))] ⟨hk2,s2,hg2,rfl,rfl⟩
  have hk4:k3<x.task.wants.length:=by have:=of_decide_eq_true hq3;omega
  obtain⟨u,hu⟩:∃u,L[k3]? =some u:=⟨_,List.getElem?_eq_getElem (by omega)⟩
  have hu':L[((k3:Nat):Int).toNat]? =some u:=hu
  conv=>whnf
  refine tA ?_
  refine f_set (f:=lb) (u.1,⟨#[111,116,104,101,114]⟩) rfl ?_
  conv=>whnf
  refine w_i64 (by omega) ?_
  conv=>whnf
  exact at_head [some 0,some 1,some 2,some 3,some 4,some 5,some 6,some 7,some 8] (gS s2++ [lbO (L.set k3 (u.1,⟨#[111,116,104,101,114]⟩))]) ((fun k3:Nat=> [(0,ops l),(3, .ptr 0 0 0),(4, .ptr 4 0 0),(7, .slc 8 0 x.task.wants.length none),(34,i64 l.length),(35,i64 (k:Nat)),(88,i64 x.task.wants.length),(89,i64 (k3:Nat))]) (k3+1)) ⟨hk4,_,by rw[List.length_set];exact hL,rfl,rfl⟩
 have hk4:k2<x.node.labels.length:=by have:=of_decide_eq_true hq2;omega
 obtain⟨u,hu⟩:∃u,L[k2]? =some u:=⟨_,List.getElem?_eq_getElem (by omega)⟩
 have hu':L[((k2:Nat):Int).toNat]? =some u:=hu
 conv=>whnf
 refine tA ?_
 refine f_set (f:=lb) (u.1,⟨#[111,116,104,101,114]⟩) rfl ?_
 conv=>whnf
 refine w_i64 (by omega) ?_
 conv=>whnf
 exact at_head [some 0,some 1,some 2,some 3,some 4,some 5,some 6,some 7,some 8,some 9] (gS s2++ [lbO (L.set k2 (u.1,⟨#[111,116,104,101,114]⟩)),lbO x.task.wants]) ((fun k2:Nat=> [(0,ops l),(3, .ptr 0 0 0),(4, .ptr 4 0 0),(6, .slc 8 0 x.node.labels.length none),(7, .slc 9 0 x.task.wants.length none),(34,i64 l.length),(35,i64 (k:Nat)),(78,i64 x.node.labels.length),(79,i64 (k2:Nat))]) (k2+1)) ⟨hk4,_,by rw[List.length_set];exact hL,rfl,rfl⟩
structure StB(s:St):Prop where
 m:s.machines.length≤1048576
 q:s.queues.length≤1048576
 j:s.jobs.length≤1048576
 ml:∀m∈s.machines,m.node.labels.length≤1048576∧m.node.name.size≤1048576
 jw:∀j∈s.jobs,j.task.wants.length≤1048576∧j.task.name.size≤1048576∧j.node.size≤1048576
def stmB(m:Mc):Bool:= !decide (20<(m.node.labels.length:Int)) && !decide (1000<(m.node.name.size:Int))
def stjB(j:Jb):Bool:= !decide (20<(j.task.wants.length:Int)) && !decide (2000<(j.task.name.size:Int)+j.node.size)
def stateB(s:St):Bool:= !decide (40<(s.machines.length:Int)) && (!decide (40<(s.queues.length:Int)) && (!decide (100<(s.jobs.length:Int)) && (s.machines.all stmB&&s.jobs.all stjB)))
theorem state_ok2(s:St)(hz:StB s):AC PR 26 [stA s] [] (.bool (stateB s)) []:=by
 have hB:stateB s=(!decide (40<(s.machines.length:Int)) && (!decide (40<(s.queues.length:Int)) && (!decide (100<(s.jobs.length:Int)) && (s.machines.all stmB&&s.jobs.all stjB)))):=rfl
 have hm:(s.machines.map mcA).length=s.machines.length:=List.length_map ..
 have hq:(s.queues.map quR).length=s.queues.length:=List.length_map ..
 have hj:(s.jobs.map jbA).length=s.jobs.length:=List.length_map ..
 have z1:=hz.m
 have z3:=hz.j
 generalize stateB s=B at hB
 apply A26
 conv=>whnf
 rw[hm]
 generalize decide (40<(s.machines.length:Int))=q1 at hB
 cases q1<;>conv=>whnf
 case true=>rw[hB];exact at_end []
 rw[hq]
 generalize decide (40<(s.queues.length:Int))=q1 at hB
 cases q1<;>conv=>whnf
 case true=>rw[hB];exact at_end []
 rw[hj]
 generalize decide (100<(s.jobs.length:Int))=q1 at hB
 cases q1<;>conv=>whnf
 case true=>rw[hB];exact at_end []
 simp only[Bool.not_false,Bool.true_and]at hB
 rw[hm]
 refine loop_to s.machines.length (fun k e H=>((s.machines.drop k).all stmB&&s.jobs.all stjB)=B∧e=[(1, .ptr 0 0 0),(23,i64 s.machines.length),(24,i64 k)]∧H=[some (.rows 31 5 [stA s])]) ?_ ?_
 rotate_left
 ·conv=>whnf
  exact at_head [some 0] [some (.rows 31 5 [stA s])] [(1, .ptr 0 0 0),(23,i64 s.machines.length),(24,i64 (0:Nat))] ⟨hB.symm,rfl,rfl⟩
 rintro k e H hk ⟨hb,rfl,rfl⟩
 conv=>whnf
 generalize hq:decide ((k:Int)<(s.machines.length:Int))=q
 cases q
 case false=>
  rw[all_at (by have:=of_decide_eq_false hq;omega),Bool.true_and]at hb
  conv=>whnf
  rw[hj]
  refine loop_to s.jobs.length (fun k e H=>(s.jobs.drop k).all stjB=B∧e=[(1, .ptr 0 0 0),(50,i64 s.jobs.length),(51,i64 k)]∧H=[some (.rows 31 5 [stA s])]) ?_ ?_
  rotate_left
  ·conv=>whnf
   exact at_head [some 0] [some (.rows 31 5 [stA s])] [(1, .ptr 0 0 0),(50,i64 s.jobs.length),(51,i64 (0:Nat))] ⟨hb,rfl,rfl⟩
  rintro k e H hk ⟨hb,rfl,rfl⟩
  conv=>whnf
  generalize hq:decide ((k:Int)<(s.jobs.length:Int))=q
  cases q
  case false=>
   rw[all_at (by have:=of_decide_eq_false hq;omega)]at hb
   subst hb
   conv=>whnf
   exact at_end []
  have hk2:k<s.jobs.length:=by have:=of_decide_eq_true hq;omega
  have hgo:=List.getElem?_eq_getElem hk2
  have hx':s.jobs[((k:Nat):Int).toNat]? =some s.jobs[k]:=hgo
  have hxm:s.jobs[k]∈s.jobs:=List.getElem_mem _
  generalize s.jobs[k]=x at hgo hx' hxm
  rw[all_drop hgo]at hb
  obtain⟨b1,b2,b3⟩:=hz.jw x hxm
  unfold stjB at hb
  have hwl:(x.task.wants.map lb).length=x.task.wants.length:=List.length_map ..
  conv=>whnf
  refine tA ?_
  rw[hwl]
  generalize decide (20<(x.task.wants.length:Int))=q1 at hb
  cases q1<;>conv=>whnf
  case true=>simp only[Bool.not_true,Bool.false_and]at hb;subst hb;exact at_end []
  simp only[Bool.not_false,Bool.true_and]at hb
  refine tA ?_
  generalize decide (2000<(x.task.name.size:Int)+x.node.size)=q1 at hb
  cases q1<;>conv=>whnf
  case true=>simp only[Bool.not_true,Bool.false_and]at hb;subst hb;exact at_end []
  simp only[Bool.not_false,Bool.true_and]at hb
  refine w_i64 (by omega) ?_
  conv=>whnf
  exact at_head [some 0] [some (.rows 31 5 [stA s])] [(1, .ptr 0 0 0),(50,i64 s.jobs.length),(51,i64 (k+1:Nat))] ⟨hk2,hb,rfl,rfl⟩
 have hk2:k<s.machines.length:=by have:=of_decide_eq_true hq;omega
 have hgo:=List.getElem?_eq_getElem hk2
 have hx':s.machines[((k:Nat):Int).toNat]? =some s.machines[k]:=hgo
 have hxm:s.machines[k]∈s.machines:=List.getElem_mem _
 generalize s.machines[k]=x at hgo hx' hxm
 rw[all_drop hgo,Bool.and_assoc]at hb
 obtain⟨b1,b2⟩:=hz.ml x hxm
 unfold stmB at hb
 have hwl:(x.node.labels.map lb).length=x.node.labels.length:=List.length_map ..
 conv=>whnf
 refine tA ?_
 rw[hwl]
 generalize decide (20<(x.node.labels.length:Int))=q1 at hb
 cases q1<;>conv=>whnf
 case true=>simp only[Bool.not_true,Bool.false_and]at hb;subst hb;exact at_end []
 simp only[Bool.not_false,Bool.true_and]at hb
 refine tA ?_
 generalize decide (1000<(x.node.name.size:Int))=q1 at hb
 cases q1<;>conv=>whnf
 case true=>simp only[Bool.not_true,Bool.false_and]at hb;subst hb;exact at_end []
 simp only[Bool.not_false,Bool.true_and]at hb
 refine w_i64 (by omega) ?_
 conv=>whnf
 exact at_head [some 0] [some (.rows 31 5 [stA s])] [(1, .ptr 0 0 0),(23,i64 s.machines.length),(24,i64 (k+1:Nat))] ⟨hk2,hb,rfl,rfl⟩
theorem stateB_z {s:St}(h:stateB s=true):StSz s:=by
 simp only[stateB,Bool.and_eq_true,Bool.not_eq_true',decide_eq_false_iff_not,List.all_eq_true]at h
 obtain⟨h1,h2,h3,h4,h5⟩:=h
 refine⟨by omega,by omega,by omega,fun m hm=> ?_,fun m hm=> ?_⟩
 ·have:=h4 m hm
  simp only[stmB,Bool.and_eq_true,Bool.not_eq_true',decide_eq_false_iff_not]at this
  omega
 ·have:=h5 m hm
  simp only[stjB,Bool.and_eq_true,Bool.not_eq_true',decide_eq_false_iff_not]at this
  omega
end Go.Am.Pt
end
section
open Go Go.Am Go.Proofs
namespace Go.Am.Pt
set_option maxHeartbeats 2000000 in
theorem lawCopies_ok(s0:St)(hs0:StB s0):AC PR 8 [stA s0] [] (.bool true) []:=by
 have ct:=state_ok2 s0 hs0
 have hsz:= @stateB_z s0
 generalize stateB s0=q2 at ct hsz
 apply A8
 conv=>whnf
 refine call_closed awake_ok ?_
 conv=>whnf
 repeat(first
  | (refine And.intro rfl ?_;conv=>whnf))
 refine call_closed ct ?_
 conv=>whnf
 cases q2
 case false=>
  conv=>whnf
  refine call_closed awake_ok ?_
  conv=>whnf
  exact at_end []
 have hz0:=hsz rfl
 have cw:=copyWc s0 hz0
 have cc:=copy_ok s0 hz0
 have csame:=stSelf_ok s0 hz0
 have zm:=hz0.m
 have zq:=hz0.q
 have zj:=hz0.j
 conv=>whnf
 refine tB ?_
 have hτ:∀ (i:Nat),i<3+s0.machines.length+s0.jobs.length→(([]:List Nat)++List.range' 1 (([]++coH 0 s0).length- ([]:List Nat).length))[0+i]? =some (1+i):=fun i hi=>by
  rw[List.nil_append,List.nil_append,coH_len,Nat.zero_add,List.getElem?_range' (by simpa using hi)]
  simp
 refine call_fr (R:=coA 1 s0) [] [] (coH 1 s0) cw ?_ (hO:=coH_fr s0 _ 0 1 hτ) (hr:= .aggL ⟨.flat _ (by simp), .flat _ (by simp), .slc _ _ _ _ _ (hτ 0 (by omega)), .slc _ _ _ _ _ (hτ 1 (by omega)), .slc _ _ _ _ _ (hτ 2 (by omega)),trivial⟩)
 ·obtain⟨H1,e1,n1,h0,hc⟩:∃H1:AHeap,H1=[some (.rows 31 5 [stA s0])]++coH 1 s0∧H1.length=4+s0.machines.length+s0.jobs.length∧H1[0]? =some (some (.rows 31 5 [stA s0]))∧∀ (i:Nat) o,(coH 1 s0)[i]? =some o→H1[1+i]? =some o:=
   ⟨_,rfl,by simp[coH];omega,rfl,fun i o h=>by rw[Nat.add_comm];exact h⟩
  refine fs_to H1 e1.symm ?_
  clear e1
  conv=>whnf
  refine And.intro (by simp;omega) ?_
  conv=>whnf
  refine e_row (rowAt_of h0 rfl) rfl ?_
  conv=>whnf
  refine tB ?_
  refine call_fr (R:= .agg [i64 s0.clock,i64 s0.next, .slc H1.length 0 s0.machines.length none, .slc (H1.length+1) 0 s0.queues.length none, .slc (H1.length+2) 0 s0.jobs.length none]) [] [] [rowsM s0.machines,rowsQ s0.queues,rowsJ s0.jobs] cc ?_
  obtain⟨H2,e2,n2,f2,q0,q1,q2⟩:∃H2:AHeap,H2=H1++ [rowsM s0.machines,rowsQ s0.queues,rowsJ s0.jobs]∧H2.length=H1.length+3∧(∀id,id<H1.length→H2[id]? =H1[id]?)∧H2[H1.length]? =some (rowsM s0.machines)∧H2[H1.length+1]? =some (rowsQ s0.queues)∧H2[H1.length+2]? =some (rowsJ s0.jobs):=
   ⟨_,rfl,by simp,fun _ h=>Go.Am.get_app h _,get_app0 _ _,get_appj _ _ 1,get_appj _ _ 2⟩
  refine fs_to H2 e2.symm ?_
  clear e2
  conv=>whnf
  refine And.intro (by omega) ?_
  conv=>whnf
  refine tB ?_
  obtain⟨H3,e3,n3,g3,f3⟩:=app_facts H2 (some (.rows 31 5 [.agg [i64 0,i64 0, .nilslc, .nilslc, .nilslc]]))
  refine fs_to H3 e3.symm ?_
  clear e3
  conv=>whnf
  repeat(refine And.intro (by first|omega| (simp;done) | (simp;omega)) ?_;conv=>whnf)
  obtain⟨H4,e4,n4,g4,f4⟩:=app_facts H3 (some (.rows 31 5 [.agg [i64 0,i64 0, .nilslc, .nilslc, .nilslc]]))
  refine fs_to H4 e4.symm ?_
  clear e4
  conv=>whnf
  repeat(refine And.intro (by first|omega| (simp;done) | (simp;omega)) ?_;conv=>whnf)
  obtain⟨H5,e5,n5,g5,f5⟩:=set_facts H4 H2.length (some (.rows 31 5 [coA 1 s0])) (by omega)
  refine k_stH H5 (r:= .agg [i64 0,i64 0, .nilslc, .nilslc, .nilslc]) rfl ((f4 _ (by omega)).trans g3) ⟨rfl,by decide,by decide,rfl⟩ (by rw[e5];rfl) ?_
  clear e5
  conv=>whnf
  repeat(refine And.intro (by first|omega| (simp;done) | (simp;omega)) ?_;conv=>whnf)
  obtain⟨H6,e6,n6,g6,f6⟩:=set_facts H5 H3.length (some (.rows 31 5 [.agg [i64 s0.clock,i64 s0.next, .slc H1.length 0 s0.machines.length none, .slc (H1.length+1) 0 s0.queues.length none, .slc (H1.length+2) 0 s0.jobs.length none]])) (by omega)
  refine k_stH H6 (r:= .agg [i64 0,i64 0, .nilslc, .nilslc, .nilslc]) rfl ((f5 _ (by omega)).trans g4) ⟨rfl,by decide,by decide,rfl⟩ (by rw[e6];rfl) ?_
  clear e6
  conv=>whnf
  repeat(refine And.intro (by first|omega| (simp;done) | (simp;omega)) ?_;conv=>whnf)
  have k0:H6[0]? =some (some (.rows 31 5 [stA s0])):=by rw[f6 _ (by omega),f5 _ (by omega),f4 _ (by omega),f3 _ (by omega),f2 _ (by omega)];exact h0
  have kc:∀ (i:Nat) o,(coH 1 s0)[i]? =some o→H6[1+i]? =some o:=fun i o h=>by
   have h':=hc i o h
   have:=live_lt h'
   rw[f6 _ (by omega),f5 _ (by omega),f4 _ (by omega),f3 _ (by omega),f2 _ (by omega)];exact h'
  have kq0:H6[H1.length]? =some (rowsM s0.machines):=by rw[f6 _ (by omega),f5 _ (by omega),f4 _ (by omega),f3 _ (by omega)];exact q0
  have kq1:H6[H1.length+1]? =some (rowsQ s0.queues):=by rw[f6 _ (by omega),f5 _ (by omega),f4 _ (by omega),f3 _ (by omega)];exact q1
  have kq2:H6[H1.length+2]? =some (rowsJ s0.jobs):=by rw[f6 _ (by omega),f5 _ (by omega),f4 _ (by omega),f3 _ (by omega)];exact q2
  have ka:H6[H2.length]? =some (some (.rows 31 5 [coA 1 s0])):=by rw[f6 _ (by omega)];exact g5
  have kb:=g6
  have lA:H2.length=H1.length+3:=n2
  have lB:H3.length=H1.length+4:=by omega
  clear f6 f5 f4 f3 f2 h0 hc q0 q1 q2 g5 g6 g4 g3 n6 n5 n4 n3 n2
  generalize H3.length=ib at*
  generalize H2.length=ia at*
  generalize H1.length=N at*
  clear H1 H2 H3 H4 H5
  subst lA lB
  refine k_row (rowAt_of ka rfl) ?_
  conv=>whnf
  refine k_row (rowAt_of k0 rfl) ?_
  conv=>whnf
  refine call_fr (R:= .bool true) [] (List.range N) [] csame ?_ (hbs:=rfl) (hN:=trivial) (hargs:=⟨coH_lend s0 1 kc (fun id h1 h2=>List.mem_range.2 (by omega)), .same _ (by simp),trivial⟩) (hO:=trivial)
  refine fs_to H6 (by simp[place]) ?_
  conv=>whnf
  refine k_row (rowAt_of kb rfl) ?_
  conv=>whnf
  refine k_row (rowAt_of k0 rfl) ?_
  conv=>whnf
  have lend2:∀ (H:AHeap),H[N]? =some (rowsM s0.machines)→H[N+1]? =some (rowsQ s0.queues)→H[N+2]? =some (rowsJ s0.jobs)→GL 0 (List.map some []) H (fun id=>id∈[N,N+1,N+2]) [.agg [i64 s0.clock,i64 s0.next, .slc N 0 s0.machines.length none, .slc (N+1) 0 s0.queues.length none, .slc (N+2) 0 s0.jobs.length none],stA s0] [stA s0,stA s0]:=fun H a b c=>⟨.aggL ⟨.same _ (by simp), .same _ (by simp), .lend (f:=mcA) (l:=s0.machines) (by simp) a rfl (by intro a;simp), .lend (f:=quR) (l:=s0.queues) (by simp) b rfl (by intro a;simp), .lend (f:=jbA) (l:=s0.jobs) (by simp) c rfl (by intro a;simp),trivial⟩, .same _ (by simp),trivial⟩
  refine call_fr (R:= .bool true) [] [N,N+1,N+2] [] csame ?_ (hbs:=rfl) (hN:=trivial) (hargs:=lend2 H6 kq0 kq1 kq2) (hO:=trivial)
  refine fs_to H6 (by simp[place]) ?_
  conv=>whnf
  refine k_cell (rowAt_of ka rfl) ?_
  conv=>whnf
  have hS6:Sh s0 1 H6:= .of kc
  refine loop_to s0.machines.length (fun k e H=>Sh s0 1 H∧(∀id,id=0∨N≤id→H[id]? =H6[id]?)∧e=[(1, .ptr 0 0 0),(3, .ptr (N+3) 0 0),(4, .ptr (N+4) 0 0),(34,i64 s0.machines.length),(35,i64 k)]) ?_ ?_
  rotate_left
  ·exact gcp_id (Nat.zero_le _) ⟨hS6,fun _ _=>rfl,rfl⟩
  rintro k e H hk ⟨hS,hF,rfl⟩
  conv=>whnf
  generalize hq:decide ((k:Int)<(s0.machines.length:Int))=q
  cases q
  case false=>
   conv=>whnf
   refine k_cell (rowAt_of ((hF _ (by omega)).trans ka) rfl) ?_
   conv=>whnf
   refine loop_to s0.queues.length (fun k e H=>Sh s0 1 H∧(∀id,id=0∨N≤id→H[id]? =H6[id]?)∧e=[(1, .ptr 0 0 0),(3, .ptr (N+3) 0 0),(4, .ptr (N+4) 0 0),(68,i64 s0.queues.length),(69,i64 k)]) ?_ ?_
   rotate_left
   ·exact gcp_id (Nat.zero_le _) ⟨hS,hF,rfl⟩
   clear hS hF H
   rintro k e H hk ⟨hS,hF,rfl⟩
   conv=>whnf
   generalize hq:decide ((k:Int)<(s0.queues.length:Int))=q
   cases q
   case false=>
    conv=>whnf
    refine k_cell (rowAt_of ((hF _ (by omega)).trans ka) rfl) ?_
    conv=>whnf
    refine loop_to s0.jobs.length (fun k e H=>Sh s0 1 H∧(∀id,id=0∨N≤id→H[id]? =H6[id]?)∧e=[(1, .ptr 0 0 0),(3, .ptr (N+3) 0 0),(4, .ptr (N+4) 0 0),(80,i64 s0.jobs.length),(81,i64 k)]) ?_ ?_
    rotate_left
    ·exact gcp_id (Nat.zero_le _) ⟨hS,hF,rfl⟩
    clear hS hF H
    rintro k e H hk ⟨hS,hF,rfl⟩
    conv=>whnf
    generalize hq:decide ((k:Int)<(s0.jobs.length:Int))=q
    cases q
    case false=>
     conv=>whnf
     refine k_row (rowAt_of ((hF _ (by omega)).trans kb) rfl) ?_
     conv=>whnf
     refine k_row (rowAt_of ((hF _ (by omega)).trans k0) rfl) ?_
     conv=>whnf
     refine call_fr (R:= .bool true) [] [N,N+1,N+2] [] csame ?_ (hbs:=rfl) (hN:=trivial) (hargs:=lend2 H ((hF _ (by omega)).trans kq0) ((hF _ (by omega)).trans kq1) ((hF _ (by omega)).trans kq2)) (hO:=trivial)
     refine fs_to H (by simp[place]) ?_
     conv=>whnf
     exact at_end []
    have hk2:k<s0.jobs.length:=by have:=of_decide_eq_true hq;omega
    have hgo:=List.getElem?_eq_getElem hk2
    generalize s0.jobs[k]=x at hgo
    have hxl:=hz0.w x (List.mem_of_getElem? hgo)
    obtain⟨R,m1,m2,m3⟩:=hS.j
    obtain⟨y,y1,y2⟩:=m3 k x hgo
    conv=>whnf
    refine k_cell (rowAt_of ((hF _ (by omega)).trans ka) rfl) ?_
    conv=>whnf
    refine k_idx ?_ _ (rowsOf_of m1) (by omega) (by omega)
    conv=>whnf
    obtain⟨H1,e1,n9,g1,f1⟩:=set_facts H (1+2) (some (.rows 63 13 (R.set k (jbI {y with seq:= -1} (1+3+s0.machines.length+k))))) (live_lt m1)
    refine k_stH H1 (r:=jbI y (1+3+s0.machines.length+k)) y1 m1 ⟨rfl,by decide,by decide,rfl⟩ (by rw[e1];rfl) ?_
    clear e1
    have hS1:=hS.setJ hgo m1 (y:= {y with seq:= -1}) y2 g1 f1
    have hF1:∀id,id=0∨N≤id→H1[id]? =H6[id]? :=fun id h=>(f1 id (by omega)).trans (hF id h)
    conv=>whnf
    refine k_cell (rowAt_of ((hF1 _ (by omega)).trans ka) rfl) ?_
    conv=>whnf
    refine k_idx ?_ _ (rowsOf_of g1) (by omega) (by omega)
    conv=>whnf
    refine k_cell (rowAt_of g1 (List.getElem?_set_self (by omega))) ?_
    conv=>whnf
    refine loop_to y.task.wants.length (fun k2 e H=>Sh s0 1 H∧(∀id,id=0∨N≤id→H[id]? =H6[id]?)∧e=[(1, .ptr 0 0 0),(3, .ptr (N+3) 0 0),(4, .ptr (N+4) 0 0),(8,i64 k),(80,i64 s0.jobs.length),(81,i64 k),(96,i64 y.task.wants.length),(97,i64 k2)]) ?_ ?_
    rotate_left
    ·exact gcp_id (Nat.zero_le _) ⟨hS1,hF1,rfl⟩
    clear hS1 hF1 g1 f1 n9 H1 hS hF m1 m2 m3 y1 H R
    rintro k2 e H hkk ⟨hS,hF,rfl⟩
    conv=>whnf
    generalize hq2:decide ((k2:Int)<(y.task.wants.length:Int))=q
    cases q
    case false=>
     conv=>whnf
     refine w_i64 (by omega) ?_
     conv=>whnf
     exact gcp_id (Nat.zero_le _) ⟨hk2,hS,hF,rfl⟩
    have hkl:k2<y.task.wants.length:=by have:=of_decide_eq_true hq2;omega
    obtain⟨R,m1,m2,m3⟩:=hS.j
    obtain⟨z,z1,z2⟩:=m3 k x hgo
    obtain⟨L,l1,l2⟩:=hS.jl k x hgo
    obtain⟨u,hu⟩:∃u,L[k2]? =some u:=⟨_,List.getElem?_eq_getElem (by omega)⟩
    conv=>whnf
    refine k_cell (rowAt_of ((hF _ (by omega)).trans ka) rfl) ?_
    conv=>whnf
    refine k_idx ?_ _ (rowsOf_of m1) (by omega) (by omega)
    conv=>whnf
    refine k_cell (rowAt_of m1 z1) ?_
    conv=>whnf
    refine k_idx ?_ _ (rowsOf_of l2) (by omega) (by omega)
    conv=>whnf
    obtain⟨H2,e2,_,g2,f2⟩:=set_facts H (1+3+s0.machines.length+k) (lbO (L.set k2 (u.1,⟨#[111,116,104,101,114]⟩))) (live_lt l2)
    refine k_stH H2 (r:=lb u) (get_map hu) l2 ⟨rfl,by decide,by decide,rfl⟩ (by rw[e2,lbO,List.map_set];rfl) ?_
    clear e2
    have hS2:=hS.setJL hgo (L:=L.set k2 (u.1,⟨#[111,116,104,101,114]⟩)) (by rw[List.length_set];exact l1) g2 f2
    conv=>whnf
    refine w_i64 (by omega) ?_
    conv=>whnf
    exact gcp_id (Nat.zero_le _) ⟨hkl,hS2,fun id h=>(f2 id (by omega)).trans (hF id h),rfl⟩
   have hk2:k<s0.queues.length:=by have:=of_decide_eq_true hq;omega
   obtain⟨l,l1,l2⟩:=hS.q
   obtain⟨u,hu⟩:∃u,l[k]? =some u:=⟨_,List.getElem?_eq_getElem (by omega)⟩
   conv=>whnf
   refine k_cell (rowAt_of ((hF _ (by omega)).trans ka) rfl) ?_
   conv=>whnf
   refine k_idx ?_ _ (rowsOf_of l2) (by omega) (by omega)
   conv=>whnf
   obtain⟨H1,e1,n9,g1,f1⟩:=set_facts H (1+1) (rowsQ (l.set k {u with name:=⟨#[111,116,104,101,114]⟩})) (live_lt l2)
   refine k_stH H1 (r:=quR u) (get_map hu) l2 ⟨rfl,by decide,by decide,rfl⟩ (by rw[e1,rowsQ,List.map_set];rfl) ?_
   clear e1
   have hS1:=hS.setQ (by rw[List.length_set];exact l1) g1 f1
   conv=>whnf
   refine w_i64 (by omega) ?_
   conv=>whnf
   exact gcp_id (Nat.zero_le _) ⟨hk2,hS1,fun id h=>(f1 id (by omega)).trans (hF id h),rfl⟩
  have hk2:k<s0.machines.length:=by have:=of_decide_eq_true hq;omega
  have hgo:=List.getElem?_eq_getElem hk2
  generalize s0.machines[k]=x at hgo
  have hxl:=hz0.l x (List.mem_of_getElem? hgo)
  obtain⟨R,m1,m2,m3⟩:=hS.m
  obtain⟨y,y1,y2⟩:=m3 k x hgo
  conv=>whnf
  refine k_cell (rowAt_of ((hF _ (by omega)).trans ka) rfl) ?_
  conv=>whnf
  refine k_idx ?_ _ (rowsOf_of m1) (by omega) (by omega)
  conv=>whnf
  obtain⟨H1,e1,n9,g1,f1⟩:=set_facts H 1 (some (.rows 57 7 (R.set k (mcI {y with til:= -1} (1+3+k))))) (live_lt m1)
  refine k_stH H1 (r:=mcI y (1+3+k)) y1 m1 ⟨rfl,by decide,by decide,rfl⟩ (by rw[e1];rfl) ?_
  clear e1
  have hS1:=hS.setM hgo m1 (y:= {y with til:= -1}) y2 g1 f1
  have hF1:∀id,id=0∨N≤id→H1[id]? =H6[id]? :=fun id h=>(f1 id (by omega)).trans (hF id h)
  conv=>whnf
  refine k_cell (rowAt_of ((hF1 _ (by omega)).trans ka) rfl) ?_
  conv=>whnf
  refine k_idx ?_ _ (rowsOf_of g1) (by omega) (by omega)
  conv=>whnf
  refine k_cell (rowAt_of g1 (List.getElem?_set_self (by omega))) ?_
  conv=>whnf
  refine loop_to y.node.labels.length (fun k2 e H=>Sh s0 1 H∧(∀id,id=0∨N≤id→H[id]? =H6[id]?)∧e=[(1, .ptr 0 0 0),(3, .ptr (N+3) 0 0),(4, .ptr (N+4) 0 0),(5,i64 k),(34,i64 s0.machines.length),(35,i64 k),(50,i64 y.node.labels.length),(51,i64 k2)]) ?_ ?_
  rotate_left
  ·exact gcp_id (Nat.zero_le _) ⟨hS1,hF1,rfl⟩
  clear hS1 hF1 g1 f1 n9 H1 hS hF m1 m2 m3 y1 H R
  rintro k2 e H hkk ⟨hS,hF,rfl⟩
  conv=>whnf
  generalize hq2:decide ((k2:Int)<(y.node.labels.length:Int))=q
  cases q
  case false=>
   conv=>whnf
   refine w_i64 (by omega) ?_
   conv=>whnf
   exact gcp_id (Nat.zero_le _) ⟨hk2,hS,hF,rfl⟩
  have hkl:k2<y.node.labels.length:=by have:=of_decide_eq_true hq2;omega
  obtain⟨R,m1,m2,m3⟩:=hS.m
  obtain⟨z,z1,z2⟩:=m3 k x hgo
  obtain⟨L,l1,l2⟩:=hS.ml k x hgo
  obtain⟨u,hu⟩:∃u,L[k2]? =some u:=⟨_,List.getElem?_eq_getElem (by omega)⟩
  conv=>whnf
  refine k_cell (rowAt_of ((hF _ (by omega)).trans ka) rfl) ?_
  conv=>whnf
  refine k_idx ?_ _ (rowsOf_of m1) (by omega) (by omega)
  conv=>whnf
  refine k_cell (rowAt_of m1 z1) ?_
  conv=>whnf
  refine k_idx ?_ _ (rowsOf_of l2) (by omega) (by omega)
  conv=>whnf
  obtain⟨H2,e2,_,g2,f2⟩:=set_facts H (1+3+k) (lbO (L.set k2 (⟨#[111,116,104,101,114]⟩,u.2))) (live_lt l2)
  refine k_stH H2 (r:=lb u) (get_map hu) l2 ⟨rfl,by decide,by decide,rfl⟩ (by rw[e2,lbO,List.map_set];rfl) ?_
  clear e2
  have hS2:=hS.setML hgo (L:=L.set k2 (⟨#[111,116,104,101,114]⟩,u.2)) (by rw[List.length_set];exact l1) g2 f2
  conv=>whnf
  refine w_i64 (by omega) ?_
  conv=>whnf
  exact gcp_id (Nat.zero_le _) ⟨hkl,hS2,fun id h=>(f2 id (by omega)).trans (hF id h),rfl⟩
end Go.Am.Pt
end
