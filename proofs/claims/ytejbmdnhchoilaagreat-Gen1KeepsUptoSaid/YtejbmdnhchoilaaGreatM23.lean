/- Part of the proof: plain data, the machine and its soundness. No conditions. -/
import Derived.Shelf.SlSortCmp.NoneTotal
import Derived.Test.YtejbmdnhchoilaaGreatM22
set_option linter.unusedVariables false
set_option linter.unusedSimpArgs false
set_option maxRecDepth 100000
section
namespace Go.Am
open Go Go.Proofs Go.Shelf Go.Sort
section
variable {P:Program}
theorem AC.lays {g:FuncId}{args:List AV}{r:Int}(h:AC P g args [] (.int .i64 r) []){xs:Array Value}(hlen:args.length=xs.size)(hx:∀ (c:Cx) (i:Nat) a x,args[i]? =some a→xs[i]? =some x→VR c a x)(W:World):
  Calls P g xs W fun e w'=>e= .returned (.int .i64 r)∧∃q os',w'=grow (W.drewN q) os':=by
 have hR:Rel (fun _=>False) (fun _=>⟨0,0,0⟩) [] W:=⟨fun id o h=>by simp at h,fun i j o p h=>by simp at h,fun b h=>h.elim⟩
 refine(h _ _ W xs hR hlen (hx _)).mono fun e w' ⟨v,φ',he,hs,hv⟩=> ?_
 cases hv
 refine⟨he,w'.drawn-W.drawn,w'.heap.extract W.heap.size w'.heap.size, ?_⟩
 have hd:=hs.drawn
 have hz:=hs.le.sz
 have hb:∀b,b<W.heap.size→w'.heap[b]? =W.heap[b]? :=fun b hb=>hs.le.blk b hb (by
  rintro(⟨id,o,h,_⟩ |h)
  ·simp at h
  ·exact h.elim)
 obtain⟨h',t',d',o',u'⟩:=w'
 have e1:t'=W.tape:=hs.tape
 have e2:o'=W.os:=hs.os
 have e3:u'=W.output:=hs.output
 subst e1 e2 e3
 simp only[grow,World.drewN,World.mk.injEq]
 refine⟨?_,trivial, ?_,trivial,trivial⟩
 ·apply Array.ext_getElem?
  intro i
  rw[Array.getElem?_append]
  split
  ·rename_i hi
   exact hb i hi
  ·rename_i hi
   simp only at hz
   rw[Array.getElem?_extract]
   split
   ·congr 1;omega
   ·rename_i h2
    exact Array.getElem?_eq_none (by omega)
 ·simp only at hd
  omega
theorem step_grow {Z φ H w}(hR:Rel Z φ H w)(os:Array Obj):Step Z φ H w φ H (grow w os):=by
 have old:∀b,b<w.heap.size→(grow w os).heap[b]? =w.heap[b]? :=fun b hb=>by
  simp only[grow]
  rw[Array.getElem?_append_left hb]
 have hle:(cx Z φ H w).le (cx Z φ H (grow w os)):=⟨fun _ h=>h,fun _ _=>rfl,by simp[grow],fun b _ hn=>hn,fun b hb _=>old b hb⟩
 exact⟨hle,rfl,rfl,rfl,dr_le,fun b hb=>old b (hR.res b hb).1,fun id o h=>OR.keep hle (live_lt h) (fun hC=>old _ ((hR.obj id o h).lt hC)) (hR.obj id o h),hR.inj,fun b hb=>⟨by have:=(hR.res b hb).1;simp only[grow,Array.size_append];omega,(hR.res b hb).2⟩⟩
theorem flatK_get {α:Type}[Inhabited α](enc:α→List Value)(sz:Nat)(l:List α){j:Nat}{x:α}(hx:l[j/sz]? =some x)(hj:j<l.length*sz):(flatK enc sz l.toArray)[j]! =(enc x)[j % sz]! :=by
 rw[get_flatK _ _ _ _ (by simpa using hj)]
 congr 2
 obtain⟨h1,h2⟩:=List.getElem?_eq_some_iff.1 hx
 rw[getElem!_pos _ _ (by simpa using h1)]
 simpa using h2
theorem sort_ac {f g:FuncId} {t sz:Nat} {α:Type} [Inhabited α] (hsz:0<sz) (enc:α→List Value) (aw:α→AV) (l s:List α) (hlen:s.length=l.length) (hak:∀x,(aw x).cells.length=sz) (hek:∀x,(enc x).length=sz) (h1:∀x,∀v∈enc x,v.oneCell'=true)
  (hv1:∀ (c:Cx) (x:α) (j:Nat) (a:AV) (v:Value),(aw x).cells[j]? =some a→VR c a v→(enc x)[j]? =some v) (hv2:∀ (c:Cx) (x:α) (j:Nat) (a:AV) (v:Value),(aw x).cells[j]? =some a→(enc x)[j]? =some v→VR c a v)
  (hcall:∀blk cap w,HoldsK enc sz w blk 0 l.toArray→blk<w.heap.size→Calls P f #[.slice (some ⟨blk,0,none⟩) l.length cap, .func (.func g) #[] #[]] w fun e w'=>e= .returned (.tuple #[])∧∃n os,w'=sortWorldK enc sz w blk 0 n s.toArray os)
  (hnone:l=[]→∀p cap w,Calls P f #[.slice p 0 cap, .func (.func g) #[] #[]] w fun e w'=>e= .returned (.tuple #[])∧w'=w):
  AC P f [.slc 0 0 l.length none, .fn (.func g) [] []] [some (.rows t sz (l.map aw))] (.tuple []) [some (.rows t sz (s.map aw))]:=by
 intro Z φ w xs hR hxl hx
 obtain⟨a,b,rfl⟩:∃a b,xs= #[a,b]:=by
  match xs,hxl with
  | ⟨[a,b]⟩,_=>exact⟨a,b,rfl⟩
 have ha:=hx 0 _ a rfl rfl
 have hb:=hx 1 _ b rfl rfl
 have hbv:b= .func (.func g) #[] #[]:=by
  cases hb with
  |fn _ _ _ us vs l1 l2=>
   obtain rfl:us= #[]:=Array.size_eq_zero_iff.1 l1.symm
   obtain rfl:vs= #[]:=Array.size_eq_zero_iff.1 l2.symm
   rfl
 subst hbv
 cases ha with
 |slc _ _ _ _ p cap hd hcp hfull hiC hm hp=>
 by_cases hl:l=[]
 ·subst hl
  obtain rfl:s=[]:=List.length_eq_zero_iff.1 hlen
  refine(hnone rfl p cap w).mono fun e w' ⟨he,hw⟩=> ?_
  subst hw
  exact⟨_,φ,he,Step.refl hR, .tuple _ _ rfl fun i a x h=>by simp at h⟩
 have hl0:0<l.length:=List.length_pos_iff.2 hl
 have hcap:cap≠0:=by omega
 have hC:(φ 0).C≠0:=fun h=>by
  have:0+cap≤(φ 0).C:=hiC
  omega
 have hobj:=hR.obj 0 _ rfl
 obtain⟨q1,q2,q3,q4,q5⟩:=hobj
 obtain⟨arr,fr,k1,k2,k3,k4,k5⟩:=q5 hC
 have k1':w.heap[(φ 0).b]? =some (.cells arr t fr):=k1
 have k2':arr.size=(φ 0).C*sz:=k2
 have q3':l.length≤(φ 0).C:=by simpa using q3
 have hlt:(φ 0).b<w.heap.size:=heap_lt k1'
 have hmul:l.length*sz≤arr.size:=by rw[k2'];exact Nat.mul_le_mul_right _ q3'
 have hpe:=hp hcap
 rw[Nat.zero_mul]at hpe
 subst hpe
 have hdm:∀j,j<l.length*sz→j/sz<l.length∧j % sz<sz∧j/sz*sz+j % sz=j:=fun j hj=>⟨Nat.div_lt_of_lt_mul (by rw[Nat.mul_comm];exact hj),Nat.mod_lt _ hsz,by rw[Nat.mul_comm];exact Nat.div_add_mod j sz⟩
 have hH:HoldsK enc sz w (φ 0).b 0 l.toArray:=fun j hj=>by
  have hj':j<l.length*sz:=by simpa using hj
  obtain⟨d1,d2,d3⟩:=hdm j hj'
  have hx:=List.getElem?_eq_getElem d1
  refine⟨?_, ?_⟩
  ·rw[flatK_get enc sz l hx hj']
   have hja:j<arr.size:=by omega
   have hcl:j % sz<(aw l[j/sz]).cells.length:=by rw[hak];exact d2
   have hv:=k5 (j/sz) (j % sz) (aw l[j/sz]) _ arr[j] (by rw[List.getElem?_map,hx];rfl) (List.getElem?_eq_getElem hcl) (by rw[d3];exact Array.getElem?_eq_getElem hja)
   have:=hv1 _ _ _ _ _ (List.getElem?_eq_getElem hcl) hv
   obtain⟨e1,e2⟩:=List.getElem?_eq_some_iff.1 this
   rw[getElem!_pos (enc l[j/sz]) (j % sz) e1,e2]
   simp only[World.cell?,k1',Nat.zero_add,Option.isSome_none,Bool.false_eq_true,if_false,id]
   exact Array.getElem?_eq_getElem hja
  ·unfold World.frozen?
   rw[k1']
   have:=k3 j (by omega)
   simp only[Bool.and_eq_false_iff,decide_eq_false_iff_not,Nat.zero_add]
   by_cases h:fr.1≤j
   ·exact .inr fun h'=>this ⟨h,h'⟩
   ·exact .inl h
 refine(hcall (φ 0).b cap w hH hlt).mono fun e w' ⟨he,n,os,hw⟩=> ?_
 obtain⟨w1,hw1⟩:∃w1,w1=putRowK enc sz (Sort.ahead w n) (φ 0).b 0 s.toArray:=⟨_,rfl⟩
 have hw':w'=grow w1 os:=by rw[hw,hw1];rfl
 have hw1h:w1.heap=w.heap.modify (φ 0).b (onCells (putCells id 0 (flatK enc sz s.toArray))):=by rw[hw1];rfl
 have hfs:(flatK enc sz s.toArray).size=l.length*sz:=by simp[hlen]
 have hst1:Step Z φ [some (.rows t sz (l.map aw))] w φ ([some (AObj.rows t sz (l.map aw))].set 0 (some (.rows t sz (s.map aw)))) w1:=by
  refine step_write hR (id:=0) rfl w1 (s.map aw) (putCells id 0 (flatK enc sz s.toArray) arr) hC (by simpa[hlen]using q3') (fun r hr=> ?_) (fr:=fr) ?_ ?_ ?_ ?_ ?_ (fun b hb=> ?_) ?_ ?_ ?_ ?_ ?_
  ·obtain⟨x,_,rfl⟩:=List.mem_map.1 hr
   exact hak x
  ·rw[hw1h,Array.getElem?_modify,if_pos rfl,k1'];rfl
  ·simp[putCells,k2']
  ·simpa[putCells]using k3
  ·intro v hv
   simp only[putCells,Array.toList_mapIdx,List.mem_mapIdx]at hv
   obtain⟨i,hi,rfl⟩:=hv
   split
   ·rename_i hc
    have hc2:i<l.length*sz:=by omega
    obtain⟨d1,d2,d3⟩:=hdm i hc2
    have hx:=List.getElem?_eq_getElem (show i/sz<s.length by omega)
    rw[Nat.sub_zero,id_eq,flatK_get enc sz s hx (by rw[hlen];exact hc2),getElem!_pos (enc (s[i/sz]'(by omega))) (i % sz) (by rw[hek];exact d2)]
    exact h1 _ _ (List.getElem_mem _)
   ·exact k4 _ (List.getElem_mem _)
  ·intro i j r x v hi hj hv
   rw[List.getElem?_map]at hi
   cases hsx:s[i]? with
   |none=>rw[hsx]at hi;cases hi
   |some y=>
    rw[hsx]at hi
    cases hi
    have hjs:j<sz:=by rw[←hak y];exact(List.getElem?_eq_some_iff.1 hj).1
    have his:i<l.length:=by rw[←hlen];exact(List.getElem?_eq_some_iff.1 hsx).1
    have hij:i*sz+j<l.length*sz:=by
     have:=Nat.mul_le_mul_right sz (show i+1≤l.length from his)
     rw[Nat.add_mul,Nat.one_mul]at this
     omega
    have hdiv:(i*sz+j) /sz=i:=by
     rw[Nat.mul_comm,Nat.mul_add_div hsz,Nat.div_eq_of_lt hjs,Nat.add_zero]
    have hmod:(i*sz+j) % sz=j:=by
     rw[Nat.mul_comm,Nat.mul_add_mod,Nat.mod_eq_of_lt hjs]
    have hx:s[(i*sz+j) /sz]? =some y:=by rw[hdiv];exact hsx
    simp only[putCells,Array.getElem?_mapIdx]at hv
    have hja:i*sz+j<arr.size:=by omega
    rw[Array.getElem?_eq_getElem hja]at hv
    simp only[Option.map_some,Option.some.injEq]at hv
    rw[if_pos ⟨Nat.zero_le _,by omega⟩,Nat.sub_zero,id_eq,flatK_get enc sz s hx (by rw[hlen];exact hij),hmod,getElem!_pos (enc y) j (by rw[hek];exact hjs)]at hv
    subst hv
    exact hv2 _ _ _ _ _ hj (List.getElem?_eq_getElem (by rw[hek];exact hjs))
  ·rw[hw1h,Array.getElem?_modify,if_neg (Ne.symm hb)]
  ·rw[hw1h];simp
  ·rw[hw1];exact Nat.le_add_right _ _
  ·rw[hw1];rfl
  ·rw[hw1];rfl
  ·rw[hw1];rfl
 subst hw'
 exact⟨_,φ,he,hst1.trans (step_grow hst1.rel os), .tuple _ _ rfl fun i a x h=>by simp at h⟩
end
end Go.Am
end
