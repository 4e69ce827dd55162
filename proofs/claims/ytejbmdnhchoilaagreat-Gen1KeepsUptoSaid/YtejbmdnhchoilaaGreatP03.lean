/- Part of the proof: what functions of the program compute, walked. No conditions. -/
import Derived.Test.YtejbmdnhchoilaaGreatP02
set_option linter.unusedVariables false
set_option linter.unusedSimpArgs false
set_option maxRecDepth 100000
section
open Go Go.Am Go.Proofs
namespace Go.Am.Pt
def rev {α:Type}(o m:Nat)(l:List α):List α:=l.take o++ ((l.drop o).take m).reverse++l.drop (o+m)
theorem rev_len {α:Type}(o m:Nat)(l:List α)(h:o+m≤l.length):(rev o m l).length=l.length:=by simp[rev];omega
theorem rev_get {α:Type}{o m:Nat}{l:List α}(h:o+m≤l.length)(j:Nat)(hj:j<l.length):(rev o m l)[j]? =l[if o≤j∧j<o+m then o+ (o+m-1-j)else j]? :=by
 unfold rev
 by_cases h1:j<o
 ·rw[if_neg (by omega),List.append_assoc,List.getElem?_append_left (by simp;omega),List.getElem?_take,if_pos h1]
 ·by_cases h2:j<o+m
  ·rw[if_pos (by omega),List.append_assoc,List.getElem?_append_right (by simp;omega),List.getElem?_append_left (by simp;omega)]
   have hlen:((l.drop o).take m).length=m:=by simp;omega
   rw[List.getElem?_reverse (by rw[hlen];simp;omega),hlen,List.getElem?_take,if_pos (by simp;omega),List.getElem?_drop]
   simp only[List.length_take]
   congr 1;omega
  ·rw[if_neg (by omega),List.getElem?_append_right (by simp;omega)]
   simp only[List.getElem?_drop,List.length_append,List.length_take,List.length_reverse,List.length_drop]
   congr 1;omega
def RevK {α:Type}(o m k:Nat)(l r:List α):Prop:=r.length=l.length∧∀j,j<l.length→r[j]? =l[if o≤j∧j<o+m∧(j<o+k∨o+m≤j+k)then o+ (o+m-1-j)else j]?
theorem RevK.zero {α:Type}(o m:Nat)(l:List α):RevK o m 0 l l:=⟨rfl,fun j hj=>by rw[if_neg (by omega)]⟩
theorem RevK.done {α:Type}{o m k:Nat}{l r:List α}(h:o+m≤l.length)(hk:m≤2*k+1)(hr:RevK o m k l r):r=rev o m l:=by
 apply List.ext_getElem?
 intro j
 by_cases hj:j<l.length
 ·rw[hr.2 j hj,rev_get h j hj]
  by_cases h1:o≤j∧j<o+m
  ·rw[if_pos h1]
   by_cases h2:j<o+k∨o+m≤j+k
   ·rw[if_pos ⟨h1.1,h1.2,h2⟩]
   ·rw[if_neg (by omega)]
    congr 1;omega
  ·rw[if_neg h1,if_neg (by omega)]
 ·rw[List.getElem?_eq_none (by rw[hr.1];omega),List.getElem?_eq_none (by rw[rev_len o m l h];omega)]
theorem RevK.step {α:Type}{o m k:Nat}{l r:List α}{x y:α}(h:o+m≤l.length)(hk:2*k+1<m)(hr:RevK o m k l r)(hx:r[o+ (m-1-k)]? =some x)(hy:r[o+k]? =some y):RevK o m (k+1) l ((r.set (o+k) x).set (o+ (m-1-k)) y):=by
 refine⟨by simp[hr.1],fun j hj=> ?_⟩
 rw[List.getElem?_set,List.getElem?_set]
 by_cases h1:o+ (m-1-k)=j
 ·subst h1
  rw[if_pos rfl,if_pos (by simp;have:=hr.1;omega),if_pos (by omega),←hy,hr.2 (o+k) (by omega),if_neg (by omega)]
  congr 1;omega
 ·rw[if_neg h1]
  by_cases h2:o+k=j
  ·subst h2
   rw[if_pos rfl,if_pos (by have:=hr.1;omega),if_pos (by omega),←hx,hr.2 _ (by omega),if_neg (by omega)]
   congr 1;omega
  ·rw[if_neg h2,hr.2 j hj]
   congr 1
   by_cases h3:o≤j∧j<o+m∧(j<o+k∨o+m≤j+k)
   ·rw[if_pos h3,if_pos (by omega)]
   ·rw[if_neg h3,if_neg (by omega)]
theorem get_app {α:Type}{f:α→AV}{l:List α}{J:List AV}{i:Nat}{x:α}(h:l[i]? =some x):(l.map f++J)[i]? =some (f x):=by
 have hi:i<l.length:=(List.getElem?_eq_some_iff.1 h).1
 rw[List.getElem?_append_left (by simpa using hi),List.getElem?_map,h];rfl
theorem set_app {α:Type}{f:α→AV}{l:List α}{J:List AV}{i:Nat}{x:α}(hi:i<l.length):(l.map f++J).set i (f x)=(l.set i x).map f++J:=by
 rw[List.set_append_left _ _ (by simpa using hi),List.map_set]
theorem f_setA {α:Type}{f:α→AV}{l:List α}{J:List AV}{i:Nat}{v:AV}{k:List AV→Prop}(x:α)(hv:v=f x)(hi:i<l.length)(hk:k ((l.set i x).map f++J)):forceS ((l.map f++J).set i v) k:=by
 subst hv
 rw[forceS_eq,set_app hi];exact hk
theorem reverseM_ok(l:List Mc)(J:List AV)(o m:Nat)(cp:Option Nat)(h:o+m≤l.length)(hl:(l.length:Int)≤1000000)(hJ:∀r∈J,Bel 0 r):AC PR 181 [.slc 0 o m cp] [some (.rows 57 7 (l.map mcA++J))] (.tuple []) [some (.rows 57 7 ((rev o m l).map mcA++J))]:=by
 apply A181
 conv=>whnf
 have hb:∀r:List Mc,∀x∈r.map mcA++J,Bel 1 x:=fun r x hx=>by
  rcases List.mem_append.1 hx with hx|hx
  ·obtain⟨a,_,rfl⟩:=List.mem_map.1 hx;simp
  ·exact(hJ x hx).mono (Nat.zero_le _)
 refine w_i64 (by omega) ?_
 conv=>whnf
 refine loop_to m (fun k e H=>∃r:List Mc,RevK o m k l r∧2*k≤m+1∧e=[(0, .slc 0 o m cp),(2,i64 k),(3,i64 ((m:Int) -1-k))]∧H=[some (.rows 57 7 (r.map mcA++J))]) ?_ ?_
 ·rintro k e H hk ⟨r,hr,hk2,rfl,rfl⟩
  conv=>whnf
  generalize hq:decide ((k:Int)<(m:Int) -1-k)=q
  cases q
  case false=>
   have hk3:=of_decide_eq_false hq
   rw[hr.done h (by omega)]
   conv=>whnf
   exact at_end [some 0] (hN:=⟨⟨_,rfl,Go'.same _ _ _ (hb _)⟩,trivial⟩)
  have hk3:=of_decide_eq_true hq
  have hrl:=hr.1
  have hrn:(r.map mcA++J).length=l.length+J.length:=by simp[hrl]
  obtain⟨y,hy⟩:∃y,r[o+k]? =some y:=⟨_,List.getElem?_eq_getElem (by omega)⟩
  obtain⟨x,hx⟩:∃x,r[o+ (m-1-k)]? =some x:=⟨_,List.getElem?_eq_getElem (by omega)⟩
  have hx1:r[o+ ((m:Int) -1-k).toNat]? =some x:=by rw[show((m:Int) -1-k).toNat=m-1-k by omega];exact hx
  have hs:=hr.step h (by omega) hx hy
  conv=>whnf
  repeat(first
   | (refine And.intro rfl ?_;conv=>whnf)
   | (refine k_idxo ?_ _ rfl (by omega) (by omega);conv=>whnf)
   | (refine k_row (get_app hx1) ?_;conv=>whnf)
   | (refine k_row (get_app hy) ?_;conv=>whnf))
  refine k_some (get_app hy) ?_
  conv=>whnf
  refine f_setA x rfl (by rw[show(k:Int).toNat=k from rfl];omega) ?_
  conv=>whnf
  have hy2:(r.set (o+ (k:Int).toNat) x)[o+ ((m:Int) -1-k).toNat]? =some x:=by
   rw[show((m:Int) -1-k).toNat=m-1-k by omega,show(k:Int).toNat=k from rfl,List.getElem?_set_ne (by omega)];exact hx
  have hrn2:((r.set (o+ (k:Int).toNat) x).map mcA++J).length=l.length+J.length:=by simp[hrl]
  repeat(first
   | (refine And.intro rfl ?_;conv=>whnf)
   | (refine k_idxo ?_ _ rfl (by omega) (by omega);conv=>whnf))
  refine k_some (get_app hy2) ?_
  conv=>whnf
  refine f_setA y rfl (by rw[List.length_set,show((m:Int) -1-k).toNat=m-1-k by omega];omega) ?_
  rw[show((m:Int) -1-k).toNat=m-1-k by omega,show(k:Int).toNat=k from rfl]
  conv=>whnf
  refine w_i64 (by omega) ?_
  conv=>whnf
  refine w_i64 (by omega) ?_
  conv=>whnf
  exact at_head [some 0] _ [(0, .slc 0 o m cp),(2,i64 (k+1:Nat)),(3,i64 ((m:Int) -1- (k+1:Nat)))] ⟨by omega,_,hs,by omega,rfl,rfl⟩ (hN:=⟨⟨_,rfl,Go'.same _ _ _ (hb _)⟩,trivial⟩)
 ·conv=>whnf
  exact at_head [some 0] _ [(0, .slc 0 o m cp),(2,i64 (0:Nat)),(3,i64 ((m:Int) -1- (0:Nat)))] ⟨l, .zero o m l,by omega,rfl,rfl⟩ (hN:=⟨⟨_,rfl,Go'.same _ _ _ (hb _)⟩,trivial⟩)
theorem reverseQ_ok(l:List Qu)(J:List AV)(o m:Nat)(cp:Option Nat)(h:o+m≤l.length)(hl:(l.length:Int)≤1000000)(hJ:∀r∈J,Bel 0 r):AC PR 182 [.slc 0 o m cp] [some (.rows 45 4 (l.map quR++J))] (.tuple []) [some (.rows 45 4 ((rev o m l).map quR++J))]:=by
 apply A182
 conv=>whnf
 have hb:∀r:List Qu,∀x∈r.map quR++J,Bel 1 x:=fun r x hx=>by
  rcases List.mem_append.1 hx with hx|hx
  ·obtain⟨a,_,rfl⟩:=List.mem_map.1 hx;simp
  ·exact(hJ x hx).mono (Nat.zero_le _)
 refine w_i64 (by omega) ?_
 conv=>whnf
 refine loop_to m (fun k e H=>∃r:List Qu,RevK o m k l r∧2*k≤m+1∧e=[(0, .slc 0 o m cp),(2,i64 k),(3,i64 ((m:Int) -1-k))]∧H=[some (.rows 45 4 (r.map quR++J))]) ?_ ?_
 ·rintro k e H hk ⟨r,hr,hk2,rfl,rfl⟩
  conv=>whnf
  generalize hq:decide ((k:Int)<(m:Int) -1-k)=q
  cases q
  case false=>
   have hk3:=of_decide_eq_false hq
   rw[hr.done h (by omega)]
   conv=>whnf
   exact at_end [some 0] (hN:=⟨⟨_,rfl,Go'.same _ _ _ (hb _)⟩,trivial⟩)
  have hk3:=of_decide_eq_true hq
  have hrl:=hr.1
  have hrn:(r.map quR++J).length=l.length+J.length:=by simp[hrl]
  obtain⟨y,hy⟩:∃y,r[o+k]? =some y:=⟨_,List.getElem?_eq_getElem (by omega)⟩
  obtain⟨x,hx⟩:∃x,r[o+ (m-1-k)]? =some x:=⟨_,List.getElem?_eq_getElem (by omega)⟩
  have hx1:r[o+ ((m:Int) -1-k).toNat]? =some x:=by rw[show((m:Int) -1-k).toNat=m-1-k by omega];exact hx
  have hs:=hr.step h (by omega) hx hy
  conv=>whnf
  repeat(first
   | (refine And.intro rfl ?_;conv=>whnf)
   | (refine k_idxo ?_ _ rfl (by omega) (by omega);conv=>whnf)
   | (refine k_row (get_app hx1) ?_;conv=>whnf)
   | (refine k_row (get_app hy) ?_;conv=>whnf))
  refine k_some (get_app hy) ?_
  conv=>whnf
  refine f_setA x rfl (by rw[show(k:Int).toNat=k from rfl];omega) ?_
  conv=>whnf
  have hy2:(r.set (o+ (k:Int).toNat) x)[o+ ((m:Int) -1-k).toNat]? =some x:=by
   rw[show((m:Int) -1-k).toNat=m-1-k by omega,show(k:Int).toNat=k from rfl,List.getElem?_set_ne (by omega)];exact hx
  have hrn2:((r.set (o+ (k:Int).toNat) x).map quR++J).length=l.length+J.length:=by simp[hrl]
  repeat(first
   | (refine And.intro rfl ?_;conv=>whnf)
   | (refine k_idxo ?_ _ rfl (by omega) (by omega);conv=>whnf))
  refine k_some (get_app hy2) ?_
  conv=>whnf
  refine f_setA y rfl (by rw[List.length_set,show((m:Int) -1-k).toNat=m-1-k by omega];omega) ?_
  rw[show((m:Int) -1-k).toNat=m-1-k by omega,show(k:Int).toNat=k from rfl]
  conv=>whnf
  refine w_i64 (by omega) ?_
  conv=>whnf
  refine w_i64 (by omega) ?_
  conv=>whnf
  exact at_head [some 0] _ [(0, .slc 0 o m cp),(2,i64 (k+1:Nat)),(3,i64 ((m:Int) -1- (k+1:Nat)))] ⟨by omega,_,hs,by omega,rfl,rfl⟩ (hN:=⟨⟨_,rfl,Go'.same _ _ _ (hb _)⟩,trivial⟩)
 ·conv=>whnf
  exact at_head [some 0] _ [(0, .slc 0 o m cp),(2,i64 (0:Nat)),(3,i64 ((m:Int) -1- (0:Nat)))] ⟨l, .zero o m l,by omega,rfl,rfl⟩ (hN:=⟨⟨_,rfl,Go'.same _ _ _ (hb _)⟩,trivial⟩)
end Go.Am.Pt
end
section
open Go Go.Am Go.Proofs
namespace Go.Am.Pt
def insAt {α:Type}(i:Nat)(x:α)(l:List α):List α:=l.take i++x::l.drop i
theorem cp_raw {sz id o n t:Nat} {c:Option Nat} {y:AV} {H:AHeap} {rs src:List AV} {k:AV→AHeap→Prop} (hv:view sz H y=some src) (hl:∀r∈src,r.cells.length=sz) (hH:H[id]? =some (some (.rows t sz rs))) (hn:o+n≤rs.length)
  (hk:forceS (H.set id (some (.rows t sz (rs.take o++src.take n++rs.drop (o+min src.length n))))) fun H'=>k (.int .i64 (min src.length n:Nat)) H'):OptP (aCopy sz (.slc id o n c) y H) k:=by
 rw[forceS_eq]at hk
 unfold aCopy
 rw[hv]
 simp only[Option.bind_some,if_pos hl,hH,hn,and_self,if_true,OptP]
 exact hk
section
variable {es id i n c:Nat} {H:AHeap} {kk:IntKind} {rs:List AV}
theorem sl_hiC {b:Int}(hr:rowsOf es H id=some rs)(h0:0≤b)(h1:b≤c)(hi:i≤rs.length):aSlice es H (.slc id i n (some c)) none (some (.int kk b)) none=some (.slc id i b.toNat (some c)):=by
 have:b.toNat≤c:=by omega
 simp[aSlice,aBounds,AV.natOf,hr,h0,this,hi]
theorem sl_loC {a:Int}(hr:rowsOf es H id=some rs)(h0:0≤a)(h1:a≤n)(hc:n≤c)(hi:i≤rs.length):aSlice es H (.slc id i n (some c)) (some (.int kk a)) none none=some (.slc id (i+a.toNat) (n-a.toNat) (some (c-a.toNat))):=by
 have:a.toNat≤n:=by omega
 simp[aSlice,aBounds,AV.natOf,hr,h0,this,hi,hc]
end
theorem view_v {α:Type}{f:α→AV}{es id o n t:Nat}{H:AHeap}{c:Option Nat}{l new:List α}(hH:H[id]? =some (some (.rows t es (l.map f))))(hn:o+n≤l.length)(hnew:new=(l.drop o).take n):view es H (.slc id o n c)=some (new.map f):=by
 have:=view_o (c:=c) hH hn hnew
 simpa only[srcOf,Bool.false_eq_true,if_false]using this
theorem view_r {es id o n t:Nat}{H:AHeap}{c:Option Nat}{rs:List AV}(hH:H[id]? =some (some (.rows t es rs)))(hn:o+n≤rs.length):view es H (.slc id o n c)=some ((rs.drop o).take n):=by
 simp[view,rowsOf,hH,hn]
theorem fin_of_stop {H0 Hb H':AHeap}{r r':AV}(h:Stop (Fin H0 r Hb r' H')):Fin H0 r Hb r' H':=h.1
def rotL {α:Type}(o m q:Nat)(l:List α):List α:=rev o m (rev (o+q) (m-q) (rev o q l))
theorem rotateLeftM_ok(l:List Mc)(J:List AV)(o m q c:Nat)(hq:q≤m)(hc:m≤c)(h:o+m≤l.length)(hl:(l.length:Int)≤1000000)(hJ:∀r∈J,Bel 0 r):AC PR 160 [.slc 0 o m (some c),i64 q] [some (.rows 57 7 (l.map mcA++J))] (.tuple []) [some (.rows 57 7 ((rotL o m q l).map mcA++J))]:=by
 have hb:∀r:List Mc,∀x∈r.map mcA++J,Bel 0 x:=fun r x hx=>by
  rcases List.mem_append.1 hx with hx|hx
  ·obtain⟨a,_,rfl⟩:=List.mem_map.1 hx;simp
  ·exact hJ x hx
 have l1:(rev o q l).length=l.length:=rev_len o q l (by omega)
 have l2:(rev (o+q) (m-q) (rev o q l)).length=l.length:=by rw[rev_len _ _ _ (by omega),l1]
 apply A160
 conv=>whnf
 refine k_eq (sl_hiC rfl (by omega) (by omega) (by simp;omega)) ?_
 conv=>whnf
 refine call_fr (R:= .tuple []) [0] [] [some (.rows 57 7 ((rev o q l).map mcA++J))] (reverseM_ok l J o q (some c) (by omega) hl hJ) ?_ (hN:=⟨⟨_,rfl,Go'.same _ _ _ (hb _)⟩,trivial⟩) (hO:=⟨.closed _ _ _ (hb _) rfl,trivial⟩)
 conv=>whnf
 refine k_eq (sl_loC rfl (by omega) (by omega) hc (by simp;omega)) ?_
 conv=>whnf
 refine call_fr (R:= .tuple []) [0] [] [some (.rows 57 7 ((rev (o+q) (m-q) (rev o q l)).map mcA++J))] (reverseM_ok (rev o q l) J (o+q) (m-q) (some (c-q)) (by omega) (by omega) hJ) ?_ (hN:=⟨⟨_,rfl,Go'.same _ _ _ (hb _)⟩,trivial⟩) (hO:=⟨.closed _ _ _ (hb _) rfl,trivial⟩)
 conv=>whnf
 refine call_fr (R:= .tuple []) [0] [] [some (.rows 57 7 ((rotL o m q l).map mcA++J))] (reverseM_ok (rev (o+q) (m-q) (rev o q l)) J o m (some c) (by omega) (by omega) hJ) ?_ (hN:=⟨⟨_,rfl,Go'.same _ _ _ (hb _)⟩,trivial⟩) (hO:=⟨.closed _ _ _ (hb _) rfl,trivial⟩)
 conv=>whnf
 exact at_end [some 0] (hN:=⟨⟨_,rfl,Go'.same _ _ _ fun r hr=>(hb _ r hr).mono (Nat.zero_le _)⟩,trivial⟩)
theorem rotateRightM_ok(l:List Mc)(J:List AV)(o m c:Nat)(hm:1≤m)(hc:m≤c)(h:o+m≤l.length)(hl:(l.length:Int)≤1000000)(hJ:∀r∈J,Bel 0 r):AC PR 129 [.slc 0 o m (some c),i64 1] [some (.rows 57 7 (l.map mcA++J))] (.tuple []) [some (.rows 57 7 ((rotL o m (m-1) l).map mcA++J))]:=by
 have hb:∀r:List Mc,∀x∈r.map mcA++J,Bel 0 x:=fun r x hx=>by
  rcases List.mem_append.1 hx with hx|hx
  ·obtain⟨a,_,rfl⟩:=List.mem_map.1 hx;simp
  ·exact hJ x hx
 apply A129
 conv=>whnf
 refine w_as ((m-1:Nat):Int) (by omega) (by omega) ?_
 conv=>whnf
 refine call_fr (R:= .tuple []) [0] [] [some (.rows 57 7 ((rotL o m (m-1) l).map mcA++J))] (rotateLeftM_ok l J o m (m-1) c (by omega) hc h hl hJ) ?_ (hN:=⟨⟨_,rfl,Go'.same _ _ _ (hb _)⟩,trivial⟩) (hO:=⟨.closed _ _ _ (hb _) rfl,trivial⟩)
 conv=>whnf
 exact at_end [some 0] (hN:=⟨⟨_,rfl,Go'.same _ _ _ fun r hr=>(hb _ r hr).mono (Nat.zero_le _)⟩,trivial⟩)
theorem rotateLeftQ_ok(l:List Qu)(J:List AV)(o m q c:Nat)(hq:q≤m)(hc:m≤c)(h:o+m≤l.length)(hl:(l.length:Int)≤1000000)(hJ:∀r∈J,Bel 0 r):AC PR 161 [.slc 0 o m (some c),i64 q] [some (.rows 45 4 (l.map quR++J))] (.tuple []) [some (.rows 45 4 ((rotL o m q l).map quR++J))]:=by
 have hb:∀r:List Qu,∀x∈r.map quR++J,Bel 0 x:=fun r x hx=>by
  rcases List.mem_append.1 hx with hx|hx
  ·obtain⟨a,_,rfl⟩:=List.mem_map.1 hx;simp
  ·exact hJ x hx
 have l1:(rev o q l).length=l.length:=rev_len o q l (by omega)
 have l2:(rev (o+q) (m-q) (rev o q l)).length=l.length:=by rw[rev_len _ _ _ (by omega),l1]
 apply A161
 conv=>whnf
 refine k_eq (sl_hiC rfl (by omega) (by omega) (by simp;omega)) ?_
 conv=>whnf
 refine call_fr (R:= .tuple []) [0] [] [some (.rows 45 4 ((rev o q l).map quR++J))] (reverseQ_ok l J o q (some c) (by omega) hl hJ) ?_ (hN:=⟨⟨_,rfl,Go'.same _ _ _ (hb _)⟩,trivial⟩) (hO:=⟨.closed _ _ _ (hb _) rfl,trivial⟩)
 conv=>whnf
 refine k_eq (sl_loC rfl (by omega) (by omega) hc (by simp;omega)) ?_
 conv=>whnf
 refine call_fr (R:= .tuple []) [0] [] [some (.rows 45 4 ((rev (o+q) (m-q) (rev o q l)).map quR++J))] (reverseQ_ok (rev o q l) J (o+q) (m-q) (some (c-q)) (by omega) (by omega) hJ) ?_ (hN:=⟨⟨_,rfl,Go'.same _ _ _ (hb _)⟩,trivial⟩) (hO:=⟨.closed _ _ _ (hb _) rfl,trivial⟩)
 conv=>whnf
 refine call_fr (R:= .tuple []) [0] [] [some (.rows 45 4 ((rotL o m q l).map quR++J))] (reverseQ_ok (rev (o+q) (m-q) (rev o q l)) J o m (some c) (by omega) (by omega) hJ) ?_ (hN:=⟨⟨_,rfl,Go'.same _ _ _ (hb _)⟩,trivial⟩) (hO:=⟨.closed _ _ _ (hb _) rfl,trivial⟩)
 conv=>whnf
 exact at_end [some 0] (hN:=⟨⟨_,rfl,Go'.same _ _ _ fun r hr=>(hb _ r hr).mono (Nat.zero_le _)⟩,trivial⟩)
theorem rotateRightQ_ok(l:List Qu)(J:List AV)(o m c:Nat)(hm:1≤m)(hc:m≤c)(h:o+m≤l.length)(hl:(l.length:Int)≤1000000)(hJ:∀r∈J,Bel 0 r):AC PR 133 [.slc 0 o m (some c),i64 1] [some (.rows 45 4 (l.map quR++J))] (.tuple []) [some (.rows 45 4 ((rotL o m (m-1) l).map quR++J))]:=by
 have hb:∀r:List Qu,∀x∈r.map quR++J,Bel 0 x:=fun r x hx=>by
  rcases List.mem_append.1 hx with hx|hx
  ·obtain⟨a,_,rfl⟩:=List.mem_map.1 hx;simp
  ·exact hJ x hx
 apply A133
 conv=>whnf
 refine w_as ((m-1:Nat):Int) (by omega) (by omega) ?_
 conv=>whnf
 refine call_fr (R:= .tuple []) [0] [] [some (.rows 45 4 ((rotL o m (m-1) l).map quR++J))] (rotateLeftQ_ok l J o m (m-1) c (by omega) hc h hl hJ) ?_ (hN:=⟨⟨_,rfl,Go'.same _ _ _ (hb _)⟩,trivial⟩) (hO:=⟨.closed _ _ _ (hb _) rfl,trivial⟩)
 conv=>whnf
 exact at_end [some 0] (hN:=⟨⟨_,rfl,Go'.same _ _ _ fun r hr=>(hb _ r hr).mono (Nat.zero_le _)⟩,trivial⟩)
theorem rot_ins {α:Type}(i:Nat)(x:α)(l:List α)(h:i≤l.length):rotL i (l.length+1-i) (l.length+1-i-1) (l++ [x])=insAt i x l:=by
 have hd:(l.drop i).length=l.length-i:=List.length_drop ..
 have ht:(l.take i).length=i:=by simp;omega
 have e1:rev i (l.length+1-i-1) (l++ [x])=l.take i++ (l.drop i).reverse++ [x]:=by
  unfold rev
  rw[List.take_append_of_le_length h,List.drop_append_of_le_length h,List.take_append_of_le_length (l₁:=l.drop i) (by omega),show(l.drop i).take (l.length+1-i-1)=l.drop i from List.take_of_length_le (by omega)]
  rw[show i+ (l.length+1-i-1)=l.length by omega,List.drop_left]
 have hlen:(l.take i++ (l.drop i).reverse).length=l.length:=by simp;omega
 have e2:rev (i+ (l.length+1-i-1)) (l.length+1-i- (l.length+1-i-1)) (l.take i++ (l.drop i).reverse++ [x])=l.take i++ (l.drop i).reverse++ [x]:=by
  rw[show i+ (l.length+1-i-1)=l.length by omega,show l.length+1-i- (l.length+1-i-1)=1 by omega]
  unfold rev
  have b1:(l.take i++ (l.drop i).reverse++ [x]).take l.length=l.take i++ (l.drop i).reverse:=by rw[←hlen,List.take_left]
  have b2:(l.take i++ (l.drop i).reverse++ [x]).drop l.length=[x]:=by
   conv=>lhs;arg 1;rw[←hlen]
   exact List.drop_left ..
  have b3:(l.take i++ (l.drop i).reverse++ [x]).drop (l.length+1)=[]:=List.drop_eq_nil_of_le (by rw[List.length_append,hlen];simp)
  rw[b1,b2,b3]
  simp
 have e3:rev i (l.length+1-i) (l.take i++ (l.drop i).reverse++ [x])=insAt i x l:=by
  unfold rev insAt
  have:(l.take i++ (l.drop i).reverse++ [x])=l.take i++ ((l.drop i).reverse++ [x]):=by simp
  rw[this]
  have a1:(l.take i++ ((l.drop i).reverse++ [x])).take i=l.take i:=by
   rw[List.take_append_of_le_length (by omega),List.take_of_length_le (by omega)]
  have a2:(l.take i++ ((l.drop i).reverse++ [x])).drop i=(l.drop i).reverse++ [x]:=by
   conv=>lhs;arg 1;rw[←ht]
   exact List.drop_left ..
  have a3:(l.take i++ ((l.drop i).reverse++ [x])).drop (i+ (l.length+1-i))=[]:=List.drop_eq_nil_of_le (by simp;omega)
  rw[a1,a2,a3,show((l.drop i).reverse++ [x]).take (l.length+1-i)=(l.drop i).reverse++ [x]from List.take_of_length_le (by rw[List.length_append,List.length_reverse,hd];simp;omega)]
  simp
 unfold rotL
 rw[e1,e2,e3]
end Go.Am.Pt
end
section
open Go Go.Am Go.Proofs
namespace Go.Am.Pt
def callOf:Op→Call
 | .call c=>c
 |_=>default
theorem x_appz' {P:Program} {o:Oper} {c:Call} {X Y:Operand} {t tn e sz:Nat} {kn kq:IntKind} {inf:TypeInfo} {zs:List AV} {id n cp kk:Nat} {kz:Int} {H:AHeap} {k:AV→AHeap→Prop} {rs:List AV} (ho:o.op= .call c) (hc:c.callee= .builtin .append) (ha:c.args= #[X,Y]) (ht:c.argTypes= #[t,tn])
  (hu:P.underlying t=some (.slice e)) (hun:P.underlying tn=some (.int kn)) (hi:P.info? e=some inf) (hs:inf.size=sz) (hz:zeroT P e=some zs) (hzl:zs.length=sz) (h0:0<sz) (hb:0<inf.bytes) (hb2:inf.bytes≤200) (hH:H[id]? =some (some (.rows e sz rs))) (hn:n≤rs.length) (hkz:kz=kk) (hk0:0<kk) (hcp:cp<n+kk) (hroom:n+kk≤1000001)
  (hk:forceS (H++ [some (.rows e sz (rs.take n++List.replicate kk (.agg zs)))]) fun H'=>k (.slc H.length 0 (n+kk) none) H'):
  Stop (ExtP P o [.slc id 0 n (some cp), .int kq kz] H k):=by
 subst hs
 rw[forceS_eq]at hk
 exact x_appz ho hc ha ht hu hun hi hz hzl h0 hb hH hn hkz hk0 hcp (by unfold roomBound;have:=Nat.mul_le_mul hroom hb2;omega) hk
theorem insEndM_ok(l:List Mc)(x:Mc)(hl:(l.length:Int)≤1000000):AC PR 89 [.slc 0 0 l.length none,i64 l.length, .slc 1 0 1 none] [some (.rows 57 7 (l.map mcA)),some (.rows 57 7 ([x].map mcA))] (.slc 2 0 (l.length+1) none) [none,some (.rows 57 7 ([x].map mcA)),some (.rows 57 7 ((insAt l.length x l).map mcA))]:=by
 have hI:insAt l.length x l=l++ [x]:=by simp[insAt]
 rw[hI]
 apply A89
 conv=>whnf
 refine k_eq (sl_lo_eq rfl (by omega) (by omega) (by simp)) ?_
 conv=>whnf
 rw[decide_eq_true (rfl:(l.length:Int)=l.length)]
 conv=>whnf
 refine app_map (f:=mcA) (l:=l) (new:=[x]) rfl rfl (Nat.le_refl _) (by simp[roomBound];omega) (fun _=> ?_) (fun h=>absurd h (by omega))
 conv=>whnf
 exact at_end [some 0,some 1,some 2]
theorem capM_o:(exO 89 25).op= .call (callOf (exO 89 25).op):=by kernel_rfl
theorem capM_c:(callOf (exO 89 25).op).callee= .builtin .cap:=by kernel_rfl
theorem capM_a:(callOf (exO 89 25).op).args= #[.tmp 29]:=by kernel_rfl
theorem capM_t:(callOf (exO 89 25).op).argTypes= #[27]:=by kernel_rfl
theorem appM_o:(exO 89 35).op= .call (callOf (exO 89 35).op):=by kernel_rfl
theorem appM_c:(callOf (exO 89 35).op).callee= .builtin .append:=by kernel_rfl
theorem appM_a:(callOf (exO 89 35).op).args= #[.tmp 34, .tmp 39]:=by kernel_rfl
theorem appM_t:(callOf (exO 89 35).op).argTypes= #[27,3]:=by kernel_rfl
theorem ovlM_o:(exO 89 65).op= .call (callOf (exO 89 65).op):=by kernel_rfl
theorem ovlM_c:(callOf (exO 89 65).op).callee= .value (.func 128):=by kernel_rfl
theorem ovlM_a:(callOf (exO 89 65).op).args= #[.tmp 61, .tmp 66]:=by kernel_rfl
theorem undM:PR.underlying 27=some (.slice 57):=by kernel_rfl
theorem undIM:PR.underlying 3=some (.int .i64):=by kernel_rfl
theorem infM:PR.info? 57=some ((PR.info? 57).getD default):=by kernel_rfl
theorem infM_s:((PR.info? 57).getD default).size=7:=by kernel_rfl
theorem infM_b:0<((PR.info? 57).getD default).bytes∧((PR.info? 57).getD default).bytes≤200:=by
 have:(Nat.blt 0 ((PR.info? 57).getD default).bytes&&Nat.ble ((PR.info? 57).getD default).bytes 200)=true:=by kernel_rfl
 rw[Bool.and_eq_true]at this
 exact⟨Nat.le_of_ble_eq_true this.1,Nat.le_of_ble_eq_true this.2⟩
theorem zerM:zeroT PR 57=some ((zeroT PR 57).getD []):=by kernel_rfl
theorem zerM_l:((zeroT PR 57).getD []).length=7:=by kernel_rfl
theorem insMidM_ok(l:List Mc)(x:Mc)(i:Nat)(hi:i<l.length)(hl:(l.length:Int)≤999999):AC PR 89 [.slc 0 0 l.length none,i64 i, .slc 1 0 1 none] [some (.rows 57 7 (l.map mcA)),some (.rows 57 7 ([x].map mcA))] (.slc 2 0 (l.length+1) none) [none,some (.rows 57 7 ([x].map mcA)),some (.rows 57 7 ((insAt i x l).map mcA))]:=by
 refine AC_cap (rs:=l.map mcA) (n:=l.length) (List.length_map ..) fun c hc=> ?_
 by_cases hc2:c<l.length+1
 ·have hcn:c=l.length:=by omega
  subst hcn
  rw[Nat.sub_self,List.replicate_zero,List.append_nil]
  refine⟨.slc 2 0 (l.length+1) none,[some (.rows 57 7 (l.map mcA)),some (.rows 57 7 ([x].map mcA)),some (.rows 57 7 ((insAt i x l).map mcA))], ?_, ?_⟩
  ·apply A89
   conv=>whnf
   refine k_eq (sl_loC rfl (by omega) (by omega) (by omega) (by simp)) ?_
   conv=>whnf
   rw[decide_eq_false (by omega:¬ (i:Int)=l.length)]
   conv=>whnf
   refine w_as ((l.length+1:Nat):Int) (by omega) (by omega) ?_
   conv=>whnf
   refine x_cap capM_o capM_c capM_a capM_t undM ?_
   conv=>whnf
   rw[decide_eq_true (by omega:(l.length:Int)<((l.length+1:Nat):Int))]
   conv=>whnf
   refine k_eq (sl_hiC rfl (by omega) (by omega) (by simp)) ?_
   conv=>whnf
   refine w_as ((l.length+1:Nat):Int) (by omega) (by omega) ?_
   conv=>whnf
   refine w_as ((l.length+1-i:Nat):Int) (by omega) (by omega) ?_
   conv=>whnf
   have hz:=zerM_l
   refine x_appz' appM_o appM_c appM_a appM_t undM undIM infM infM_s zerM zerM_l (by decide) infM_b.1 infM_b.2 rfl (by simp;omega) rfl (by omega) (by omega) (by omega) ?_
   generalize(zeroT PR 57).getD []=Zs at hz
   rw[show(i:Int).toNat+ (l.length+1-i)=l.length+1 by rw[show(i:Int).toNat=i from rfl];omega,show(i:Int).toNat=i from rfl]
   conv=>whnf
   have hR:((l.map mcA).take i++List.replicate (l.length+1-i) (AV.agg Zs)).length=l.length+1:=by simp;omega
   refine k_eq (sl_lo_eq rfl (by omega) (by omega) (by rw[hR];exact Nat.le_refl _)) ?_
   conv=>whnf
   rw[show(i:Int).toNat=i from rfl]
   refine cp_raw (src:=[mcA x]) rfl (by intro r hr;simp at hr;subst hr;rfl) rfl (by rw[hR];omega) ?_
   have hR1:((l.map mcA).take i++List.replicate (l.length+1-i) (AV.agg Zs)).take i++ [mcA x].take (l.length+1-i)++ ((l.map mcA).take i++List.replicate (l.length+1-i) (AV.agg Zs)).drop (i+min [mcA x].length (l.length+1-i))=(l.map mcA).take i++mcA x::List.replicate (l.length-i) (AV.agg Zs):=by
    have hti:((l.map mcA).take i).length=i:=by simp;omega
    rw[List.take_append_of_le_length (by omega),show((l.map mcA).take i).take i=(l.map mcA).take i from List.take_of_length_le (by omega),show [mcA x].take (l.length+1-i)=[mcA x]from List.take_of_length_le (by simp;omega),show min [mcA x].length (l.length+1-i)=1 by simp;omega,List.drop_append,show((l.map mcA).take i).drop (i+1)=[]from List.drop_eq_nil_of_le (by omega),hti,show i+1-i=1 by omega,List.drop_replicate]
    simp
    omega
   rw[hR1]
   conv=>whnf
   have hR2:((l.map mcA).take i++mcA x::List.replicate (l.length-i) (AV.agg Zs)).length=l.length+1:=by simp;omega
   refine w_as ((i+1:Nat):Int) (by omega) (by omega) ?_
   conv=>whnf
   refine k_eq (sl_lo_eq rfl (by omega) (by omega) (by rw[hR2];exact Nat.le_refl _)) ?_
   conv=>whnf
   refine k_eq (sl_loC rfl (by omega) (by omega) (by omega) (by simp)) ?_
   conv=>whnf
   rw[show((i+1:Nat):Int).toNat=i+1 from rfl,show(i:Int).toNat=i from rfl]
   refine cp_raw (src:=(l.drop i).map mcA) (view_v (f:=mcA) (l:=l) (new:=l.drop i) rfl (by omega) (by rw[Nat.zero_add,List.take_of_length_le (by simp)])) (by intro r hr;obtain⟨a,_,rfl⟩:=List.mem_map.1 hr;rfl) rfl (by rw[hR2];omega) ?_
   have hR3:((l.map mcA).take i++mcA x::List.replicate (l.length-i) (AV.agg Zs)).take (i+1)++ ((l.drop i).map mcA).take (l.length+1- (i+1))++ ((l.map mcA).take i++mcA x::List.replicate (l.length-i) (AV.agg Zs)).drop (i+1+min ((l.drop i).map mcA).length (l.length+1- (i+1)))=(insAt i x l).map mcA:=by
    have hti:((l.map mcA).take i).length=i:=by simp;omega
    have h3:((l.map mcA).take i++mcA x::List.replicate (l.length-i) (AV.agg Zs)).take (i+1)=(l.map mcA).take i++ [mcA x]:=by
     rw[show(l.map mcA).take i++mcA x::List.replicate (l.length-i) (AV.agg Zs)=((l.map mcA).take i++ [mcA x])++List.replicate (l.length-i) (AV.agg Zs) by simp]
     exact List.take_left' (by rw[List.length_append,hti];rfl)
    have h4:((l.map mcA).take i++mcA x::List.replicate (l.length-i) (AV.agg Zs)).drop (i+1+min ((l.drop i).map mcA).length (l.length+1- (i+1)))=[]:=List.drop_eq_nil_of_le (by rw[hR2];simp;omega)
    have h5:((l.drop i).map mcA).take (l.length+1- (i+1))=(l.drop i).map mcA:=List.take_of_length_le (by simp)
    rw[h3,h4,h5]
    simp[insAt,List.map_take,List.map_drop]
   rw[hR3]
   conv=>whnf
   exact at_end [some 0,some 1,some 2]
  ·exact(at_end [some 0,some 1,some 2]).1
 ·obtain⟨d,hd⟩:∃d,c=l.length+1+d:=⟨c- (l.length+1),by omega⟩
  subst hd
  generalize hU:AV.agg (List.replicate 7 AV.undef)=U
  have hUl:U.cells.length=7:=by subst hU;rfl
  have hUb:Bel 0 U:=by subst hU;simp
  have hrs:l.map mcA++List.replicate (l.length+1+d-l.length) U=l.map mcA++U::List.replicate d U:=by
   rw[show l.length+1+d-l.length=d+1 by omega,List.replicate_succ]
  rw[hrs]
  have hlen:(l.map mcA++U::List.replicate d U).length=l.length+1+d:=by simp;omega
  have hcell:∀r∈l.map mcA++U::List.replicate d U,r.cells.length=7:=fun r hr=>by
   rcases List.mem_append.1 hr with hr|hr
   ·obtain⟨a,_,rfl⟩:=List.mem_map.1 hr;rfl
   ·rcases List.mem_cons.1 hr with rfl|hr
    ·exact hUl
    ·rw[List.eq_of_mem_replicate hr];exact hUl
  have hfin:∀m:List Mc,∀r∈m.map mcA++List.replicate d U,Bel 2 r:=fun m r hr=>by
   rcases List.mem_append.1 hr with hr|hr
   ·obtain⟨a,_,rfl⟩:=List.mem_map.1 hr;simp
   ·rw[List.eq_of_mem_replicate hr];exact hUb.mono (Nat.zero_le _)
  refine⟨.slc 0 0 (l.length+1) (some (l.length+1+d)),[some (.rows 57 7 ((insAt i x l).map mcA++List.replicate d U)),some (.rows 57 7 ([x].map mcA))], ?_, ?_⟩
  ·apply A89
   conv=>whnf
   refine k_eq (sl_loC rfl (by omega) (by omega) (by omega) (by rw[hlen];omega)) ?_
   conv=>whnf
   rw[decide_eq_false (by omega:¬ (i:Int)=l.length)]
   conv=>whnf
   refine w_as ((l.length+1:Nat):Int) (by omega) (by omega) ?_
   conv=>whnf
   refine x_cap capM_o capM_c capM_a capM_t undM ?_
   conv=>whnf
   rw[decide_eq_false (by omega:¬ ((l.length+1+d:Nat):Int)<((l.length+1:Nat):Int))]
   conv=>whnf
   refine w_as ((l.length+1:Nat):Int) (by omega) (by omega) ?_
   conv=>whnf
   refine k_eq (sl_hiC rfl (by omega) (by omega) (by omega)) ?_
   conv=>whnf
   refine w_as ((i+1:Nat):Int) (by omega) (by omega) ?_
   conv=>whnf
   refine k_eq (sl_loC rfl (by omega) (by omega) (by omega) (by omega)) ?_
   conv=>whnf
   refine x_ovl (fn:=PRfn 128) (t:=27) (tr:=4) ovlM_o ovlM_c ovlM_a (by kernel_rfl) (by kernel_rfl) (by kernel_rfl) (by kernel_rfl) (by kernel_rfl) undM (sz1:=7) (by kernel_rfl) rfl rfl (by decide) fun b=> ?_
   cases b
   ·conv=>whnf
    refine w_as ((i+1:Nat):Int) (by omega) (by omega) ?_
    conv=>whnf
    refine k_eq (sl_loC rfl (by omega) (by omega) (by omega) (by omega)) ?_
    conv=>whnf
    refine k_eq (sl_loC rfl (by omega) (by omega) (by omega) (by omega)) ?_
    conv=>whnf
    rw[show((i+1:Nat):Int).toNat=i+1 from rfl,show(i:Int).toNat=i from rfl,show((l.length+1:Nat):Int).toNat=l.length+1 from rfl]
    refine cp_raw (view_r rfl (by omega)) (fun r hr=>hcell r (List.mem_of_mem_drop (List.mem_of_mem_take hr))) rfl (by omega) ?_
    have hE1:(l.map mcA++U::List.replicate d U).take (0+ (i+1))++ (((l.map mcA++U::List.replicate d U).drop (0+i)).take (l.length+1-i)).take (l.length+1- (i+1))++ (l.map mcA++U::List.replicate d U).drop (0+ (i+1)+min (((l.map mcA++U::List.replicate d U).drop (0+i)).take (l.length+1-i)).length (l.length+1- (i+1)))=(l.map mcA).take (i+1)++ (l.map mcA).drop i++List.replicate d U:=by
     have hm:(l.map mcA).length=l.length:=List.length_map ..
     have a1:(l.map mcA++U::List.replicate d U).take (0+ (i+1))=(l.map mcA).take (i+1):=by rw[List.take_append_of_le_length (by omega),Nat.zero_add]
     have a2:((l.map mcA++U::List.replicate d U).drop (0+i)).take (l.length+1-i)=(l.map mcA).drop i++ [U]:=by
      rw[List.drop_append_of_le_length (by omega),Nat.zero_add,List.take_append,show((l.map mcA).drop i).take (l.length+1-i)=(l.map mcA).drop i from List.take_of_length_le (by simp;omega),List.length_drop,hm,show l.length+1-i- (l.length-i)=1 by omega]
      rfl
     have a3:((l.map mcA).drop i++ [U]).take (l.length+1- (i+1))=(l.map mcA).drop i:=List.take_left' (by rw[List.length_drop,hm];omega)
     have a4:((l.map mcA).drop i++ [U]).length=l.length+1-i:=by rw[List.length_append,List.length_drop,hm];simp;omega
     rw[a2,a3,a1,a4,show 0+ (i+1)+min (l.length+1-i) (l.length+1- (i+1))=l.length+1 by omega]
     congr 1
     rw[show l.map mcA++U::List.replicate d U=(l.map mcA++ [U])++List.replicate d U by simp]
     exact List.drop_left' (by simp)
    rw[hE1]
    have hE1l:((l.map mcA).take (i+1)++ (l.map mcA).drop i++List.replicate d U).length=l.length+1+d:=by simp;omega
    conv=>whnf
    refine k_eq (sl_loC rfl (by omega) (by omega) (by omega) (by omega)) ?_
    conv=>whnf
    rw[show(i:Int).toNat=i from rfl]
    refine cp_raw (src:=[mcA x]) rfl (by intro r hr;simp at hr;subst hr;rfl) rfl (by omega) ?_
    have hE2:((l.map mcA).take (i+1)++ (l.map mcA).drop i++List.replicate d U).take (0+i)++ [mcA x].take (l.length+1-i)++ ((l.map mcA).take (i+1)++ (l.map mcA).drop i++List.replicate d U).drop (0+i+min [mcA x].length (l.length+1-i))=(insAt i x l).map mcA++List.replicate d U:=by
     have hm:(l.map mcA).length=l.length:=List.length_map ..
     have b0:((l.map mcA).take (i+1)).length=i+1:=by simp;omega
     have b1:((l.map mcA).take (i+1)++ (l.map mcA).drop i++List.replicate d U).take (0+i)=(l.map mcA).take i:=by
      rw[List.append_assoc,List.take_append_of_le_length (by omega),List.take_take,show min (0+i) (i+1)=i by omega]
     have b2:((l.map mcA).take (i+1)++ (l.map mcA).drop i++List.replicate d U).drop (0+i+min [mcA x].length (l.length+1-i))=(l.map mcA).drop i++List.replicate d U:=by
      rw[show 0+i+min [mcA x].length (l.length+1-i)=i+1 by simp;omega,List.append_assoc]
      exact List.drop_left' b0
     rw[b1,b2,show [mcA x].take (l.length+1-i)=[mcA x]from List.take_of_length_le (by simp;omega)]
     simp[insAt,List.map_take,List.map_drop]
    rw[hE2]
    conv=>whnf
    exact at_end [some 0,some 1] (hN:=⟨⟨_,rfl,Go'.same _ _ _ (hfin _)⟩,⟨_,rfl,by exact autoG⟩,trivial⟩)
   ·conv=>whnf
    refine k_eq (sl_loC rfl (by omega) (by omega) (by omega) (by omega)) ?_
    conv=>whnf
    rw[show((l.length+1:Nat):Int).toNat=l.length+1 from rfl,show(l.length:Int).toNat=l.length from rfl]
    refine cp_raw (src:=[mcA x]) rfl (by intro r hr;simp at hr;subst hr;rfl) rfl (by omega) ?_
    have hE3:(l.map mcA++U::List.replicate d U).take (0+l.length)++ [mcA x].take (l.length+1-l.length)++ (l.map mcA++U::List.replicate d U).drop (0+l.length+min [mcA x].length (l.length+1-l.length))=(l++ [x]).map mcA++List.replicate d U:=by
     have b1:(l.map mcA++U::List.replicate d U).take (0+l.length)=l.map mcA:=List.take_left' (by simp)
     have b2:(l.map mcA++U::List.replicate d U).drop (0+l.length+min [mcA x].length (l.length+1-l.length))=List.replicate d U:=by
      rw[show l.map mcA++U::List.replicate d U=(l.map mcA++ [U])++List.replicate d U by simp]
      exact List.drop_left' (by simp)
     rw[b1,b2,show l.length+1-l.length=1 by omega]
     simp
    rw[hE3]
    have hE3l:((l++ [x]).map mcA++List.replicate d U).length=l.length+1+d:=by simp;omega
    conv=>whnf
    refine k_eq (sl_loC rfl (by omega) (by omega) (by omega) (by omega)) ?_
    conv=>whnf
    rw[show(i:Int).toNat=i from rfl,Nat.zero_add]
    have hrot:=rotateRightM_ok (l++ [x]) (List.replicate d U) i (l.length+1-i) (l.length+1+d-i) (by omega) (by omega) (by simp;omega) (by simp;omega) (fun r hr=>by rw[List.eq_of_mem_replicate hr];exact hUb)
    rw[rot_ins i x l (by omega)]at hrot
    have hf0:∀m:List Mc,∀r∈m.map mcA++List.replicate d U,Bel 0 r:=fun m r hr=>by
     rcases List.mem_append.1 hr with hr|hr
     ·obtain⟨a,_,rfl⟩:=List.mem_map.1 hr;simp
     ·rw[List.eq_of_mem_replicate hr];exact hUb
    refine call_fr (R:= .tuple []) [0] [] [some (.rows 57 7 ((insAt i x l).map mcA++List.replicate d U))] hrot ?_ (hN:=⟨⟨_,rfl,Go'.same _ _ _ (hf0 _)⟩,trivial⟩) (hO:=⟨.closed _ _ _ (hf0 _) rfl,trivial⟩)
    conv=>whnf
    exact at_end [some 0,some 1] (hN:=⟨⟨_,rfl,Go'.same _ _ _ (hfin _)⟩,⟨_,rfl,by exact autoG⟩,trivial⟩)
  ·rw[show uncap (l.length+1+d) (.slc 0 0 (l.length+1) (some (l.length+1+d)))= .slc 0 0 (l.length+1) none by simp[uncap]]
   exact fin_of_stop (at_end [some 0,some 1,some 0] (hN:=⟨⟨_,rfl,by exact autoG⟩,⟨_,rfl,Go'.preR (List.prefix_append _ _) (by intro r hr;obtain⟨a,_,rfl⟩:=List.mem_map.1 hr;simp)⟩,trivial⟩))
theorem insertM_ok(l:List Mc)(x:Mc)(i:Nat)(hi:i≤l.length)(hl:(l.length:Int)≤999999):AC PR 89 [.slc 0 0 l.length none,i64 i, .slc 1 0 1 none] [some (.rows 57 7 (l.map mcA)),some (.rows 57 7 ([x].map mcA))] (.slc 2 0 (l.length+1) none) [none,some (.rows 57 7 ([x].map mcA)),some (.rows 57 7 ((insAt i x l).map mcA))]:=by
 by_cases h:i=l.length
 ·subst h
  exact insEndM_ok l x (by omega)
 ·exact insMidM_ok l x i (by omega) hl
theorem insEndQ_ok(l:List Qu)(x:Qu)(hl:(l.length:Int)≤1000000):AC PR 95 [.slc 0 0 l.length none,i64 l.length, .slc 1 0 1 none] [some (.rows 45 4 (l.map quR)),some (.rows 45 4 ([x].map quR))] (.slc 2 0 (l.length+1) none) [none,some (.rows 45 4 ([x].map quR)),some (.rows 45 4 ((insAt l.length x l).map quR))]:=by
 have hI:insAt l.length x l=l++ [x]:=by simp[insAt]
 rw[hI]
 apply A95
 conv=>whnf
 refine k_eq (sl_lo_eq rfl (by omega) (by omega) (by simp)) ?_
 conv=>whnf
 rw[decide_eq_true (rfl:(l.length:Int)=l.length)]
 conv=>whnf
 refine app_map (f:=quR) (l:=l) (new:=[x]) rfl rfl (Nat.le_refl _) (by simp[roomBound];omega) (fun _=> ?_) (fun h=>absurd h (by omega))
 conv=>whnf
 exact at_end [some 0,some 1,some 2]
theorem capQ_o:(exO 95 25).op= .call (callOf (exO 95 25).op):=by kernel_rfl
theorem capQ_c:(callOf (exO 95 25).op).callee= .builtin .cap:=by kernel_rfl
theorem capQ_a:(callOf (exO 95 25).op).args= #[.tmp 29]:=by kernel_rfl
theorem capQ_t:(callOf (exO 95 25).op).argTypes= #[28]:=by kernel_rfl
theorem appQ_o:(exO 95 35).op= .call (callOf (exO 95 35).op):=by kernel_rfl
theorem appQ_c:(callOf (exO 95 35).op).callee= .builtin .append:=by kernel_rfl
theorem appQ_a:(callOf (exO 95 35).op).args= #[.tmp 34, .tmp 39]:=by kernel_rfl
theorem appQ_t:(callOf (exO 95 35).op).argTypes= #[28,3]:=by kernel_rfl
theorem ovlQ_o:(exO 95 65).op= .call (callOf (exO 95 65).op):=by kernel_rfl
theorem ovlQ_c:(callOf (exO 95 65).op).callee= .value (.func 132):=by kernel_rfl
theorem ovlQ_a:(callOf (exO 95 65).op).args= #[.tmp 61, .tmp 66]:=by kernel_rfl
theorem undQ:PR.underlying 28=some (.slice 45):=by kernel_rfl
theorem undIQ:PR.underlying 3=some (.int .i64):=by kernel_rfl
theorem infQ:PR.info? 45=some ((PR.info? 45).getD default):=by kernel_rfl
theorem infQ_s:((PR.info? 45).getD default).size=4:=by kernel_rfl
theorem infQ_b:0<((PR.info? 45).getD default).bytes∧((PR.info? 45).getD default).bytes≤200:=by
 have:(Nat.blt 0 ((PR.info? 45).getD default).bytes&&Nat.ble ((PR.info? 45).getD default).bytes 200)=true:=by kernel_rfl
 rw[Bool.and_eq_true]at this
 exact⟨Nat.le_of_ble_eq_true this.1,Nat.le_of_ble_eq_true this.2⟩
theorem zerQ:zeroT PR 45=some ((zeroT PR 45).getD []):=by kernel_rfl
theorem zerQ_l:((zeroT PR 45).getD []).length=4:=by kernel_rfl
theorem insMidQ_ok(l:List Qu)(x:Qu)(i:Nat)(hi:i<l.length)(hl:(l.length:Int)≤999999):AC PR 95 [.slc 0 0 l.length none,i64 i, .slc 1 0 1 none] [some (.rows 45 4 (l.map quR)),some (.rows 45 4 ([x].map quR))] (.slc 2 0 (l.length+1) none) [none,some (.rows 45 4 ([x].map quR)),some (.rows 45 4 ((insAt i x l).map quR))]:=by
 refine AC_cap (rs:=l.map quR) (n:=l.length) (List.length_map ..) fun c hc=> ?_
 by_cases hc2:c<l.length+1
 ·have hcn:c=l.length:=by omega
  subst hcn
  rw[Nat.sub_self,List.replicate_zero,List.append_nil]
  refine⟨.slc 2 0 (l.length+1) none,[some (.rows 45 4 (l.map quR)),some (.rows 45 4 ([x].map quR)),some (.rows 45 4 ((insAt i x l).map quR))], ?_, ?_⟩
  ·apply A95
   conv=>whnf
   refine k_eq (sl_loC rfl (by omega) (by omega) (by omega) (by simp)) ?_
   conv=>whnf
   rw[decide_eq_false (by omega:¬ (i:Int)=l.length)]
   conv=>whnf
   refine w_as ((l.length+1:Nat):Int) (by omega) (by omega) ?_
   conv=>whnf
   refine x_cap capQ_o capQ_c capQ_a capQ_t undQ ?_
   conv=>whnf
   rw[decide_eq_true (by omega:(l.length:Int)<((l.length+1:Nat):Int))]
   conv=>whnf
   refine k_eq (sl_hiC rfl (by omega) (by omega) (by simp)) ?_
   conv=>whnf
   refine w_as ((l.length+1:Nat):Int) (by omega) (by omega) ?_
   conv=>whnf
   refine w_as ((l.length+1-i:Nat):Int) (by omega) (by omega) ?_
   conv=>whnf
   have hz:=zerQ_l
   refine x_appz' appQ_o appQ_c appQ_a appQ_t undQ undIQ infQ infQ_s zerQ zerQ_l (by decide) infQ_b.1 infQ_b.2 rfl (by simp;omega) rfl (by omega) (by omega) (by omega) ?_
   generalize(zeroT PR 45).getD []=Zs at hz
   rw[show(i:Int).toNat+ (l.length+1-i)=l.length+1 by rw[show(i:Int).toNat=i from rfl];omega,show(i:Int).toNat=i from rfl]
   conv=>whnf
   have hR:((l.map quR).take i++List.replicate (l.length+1-i) (AV.agg Zs)).length=l.length+1:=by simp;omega
   refine k_eq (sl_lo_eq rfl (by omega) (by omega) (by rw[hR];exact Nat.le_refl _)) ?_
   conv=>whnf
   rw[show(i:Int).toNat=i from rfl]
   refine cp_raw (src:=[quR x]) rfl (by intro r hr;simp at hr;subst hr;rfl) rfl (by rw[hR];omega) ?_
   have hR1:((l.map quR).take i++List.replicate (l.length+1-i) (AV.agg Zs)).take i++ [quR x].take (l.length+1-i)++ ((l.map quR).take i++List.replicate (l.length+1-i) (AV.agg Zs)).drop (i+min [quR x].length (l.length+1-i))=(l.map quR).take i++quR x::List.replicate (l.length-i) (AV.agg Zs):=by
    have hti:((l.map quR).take i).length=i:=by simp;omega
    rw[List.take_append_of_le_length (by omega),show((l.map quR).take i).take i=(l.map quR).take i from List.take_of_length_le (by omega),show [quR x].take (l.length+1-i)=[quR x]from List.take_of_length_le (by simp;omega),show min [quR x].length (l.length+1-i)=1 by simp;omega,List.drop_append,show((l.map quR).take i).drop (i+1)=[]from List.drop_eq_nil_of_le (by omega),hti,show i+1-i=1 by omega,List.drop_replicate]
    simp
    omega
   rw[hR1]
   conv=>whnf
   have hR2:((l.map quR).take i++quR x::List.replicate (l.length-i) (AV.agg Zs)).length=l.length+1:=by simp;omega
   refine w_as ((i+1:Nat):Int) (by omega) (by omega) ?_
   conv=>whnf
   refine k_eq (sl_lo_eq rfl (by omega) (by omega) (by rw[hR2];exact Nat.le_refl _)) ?_
   conv=>whnf
   refine k_eq (sl_loC rfl (by omega) (by omega) (by omega) (by simp)) ?_
   conv=>whnf
   rw[show((i+1:Nat):Int).toNat=i+1 from rfl,show(i:Int).toNat=i from rfl]
   refine cp_raw (src:=(l.drop i).map quR) (view_v (f:=quR) (l:=l) (new:=l.drop i) rfl (by omega) (by rw[Nat.zero_add,List.take_of_length_le (by simp)])) (by intro r hr;obtain⟨a,_,rfl⟩:=List.mem_map.1 hr;rfl) rfl (by rw[hR2];omega) ?_
   have hR3:((l.map quR).take i++quR x::List.replicate (l.length-i) (AV.agg Zs)).take (i+1)++ ((l.drop i).map quR).take (l.length+1- (i+1))++ ((l.map quR).take i++quR x::List.replicate (l.length-i) (AV.agg Zs)).drop (i+1+min ((l.drop i).map quR).length (l.length+1- (i+1)))=(insAt i x l).map quR:=by
    have hti:((l.map quR).take i).length=i:=by simp;omega
    have h3:((l.map quR).take i++quR x::List.replicate (l.length-i) (AV.agg Zs)).take (i+1)=(l.map quR).take i++ [quR x]:=by
     rw[show(l.map quR).take i++quR x::List.replicate (l.length-i) (AV.agg Zs)=((l.map quR).take i++ [quR x])++List.replicate (l.length-i) (AV.agg Zs) by simp]
     exact List.take_left' (by rw[List.length_append,hti];rfl)
    have h4:((l.map quR).take i++quR x::List.replicate (l.length-i) (AV.agg Zs)).drop (i+1+min ((l.drop i).map quR).length (l.length+1- (i+1)))=[]:=List.drop_eq_nil_of_le (by rw[hR2];simp;omega)
    have h5:((l.drop i).map quR).take (l.length+1- (i+1))=(l.drop i).map quR:=List.take_of_length_le (by simp)
    rw[h3,h4,h5]
    simp[insAt,List.map_take,List.map_drop]
   rw[hR3]
   conv=>whnf
   exact at_end [some 0,some 1,some 2]
  ·exact(at_end [some 0,some 1,some 2]).1
 ·obtain⟨d,hd⟩:∃d,c=l.length+1+d:=⟨c- (l.length+1),by omega⟩
  subst hd
  generalize hU:AV.agg (List.replicate 4 AV.undef)=U
  have hUl:U.cells.length=4:=by subst hU;rfl
  have hUb:Bel 0 U:=by subst hU;simp
  have hrs:l.map quR++List.replicate (l.length+1+d-l.length) U=l.map quR++U::List.replicate d U:=by
   rw[show l.length+1+d-l.length=d+1 by omega,List.replicate_succ]
  rw[hrs]
  have hlen:(l.map quR++U::List.replicate d U).length=l.length+1+d:=by simp;omega
  have hcell:∀r∈l.map quR++U::List.replicate d U,r.cells.length=4:=fun r hr=>by
   rcases List.mem_append.1 hr with hr|hr
   ·obtain⟨a,_,rfl⟩:=List.mem_map.1 hr;rfl
   ·rcases List.mem_cons.1 hr with rfl|hr
    ·exact hUl
    ·rw[List.eq_of_mem_replicate hr];exact hUl
  have hfin:∀m:List Qu,∀r∈m.map quR++List.replicate d U,Bel 2 r:=fun m r hr=>by
   rcases List.mem_append.1 hr with hr|hr
   ·obtain⟨a,_,rfl⟩:=List.mem_map.1 hr;simp
   ·rw[List.eq_of_mem_replicate hr];exact hUb.mono (Nat.zero_le _)
  refine⟨.slc 0 0 (l.length+1) (some (l.length+1+d)),[some (.rows 45 4 ((insAt i x l).map quR++List.replicate d U)),some (.rows 45 4 ([x].map quR))], ?_, ?_⟩
  ·apply A95
   conv=>whnf
   refine k_eq (sl_loC rfl (by omega) (by omega) (by omega) (by rw[hlen];omega)) ?_
   conv=>whnf
   rw[decide_eq_false (by omega:¬ (i:Int)=l.length)]
   conv=>whnf
   refine w_as ((l.length+1:Nat):Int) (by omega) (by omega) ?_
   conv=>whnf
   refine x_cap capQ_o capQ_c capQ_a capQ_t undQ ?_
   conv=>whnf
   rw[decide_eq_false (by omega:¬ ((l.length+1+d:Nat):Int)<((l.length+1:Nat):Int))]
   conv=>whnf
   refine w_as ((l.length+1:Nat):Int) (by omega) (by omega) ?_
   conv=>whnf
   refine k_eq (sl_hiC rfl (by omega) (by omega) (by omega)) ?_
   conv=>whnf
   refine w_as ((i+1:Nat):Int) (by omega) (by omega) ?_
   conv=>whnf
   refine k_eq (sl_loC rfl (by omega) (by omega) (by omega) (by omega)) ?_
   conv=>whnf
   refine x_ovl (fn:=PRfn 132) (t:=28) (tr:=4) ovlQ_o ovlQ_c ovlQ_a (by kernel_rfl) (by kernel_rfl) (by kernel_rfl) (by kernel_rfl) (by kernel_rfl) undQ (sz1:=4) (by kernel_rfl) rfl rfl (by decide) fun b=> ?_
   cases b
   ·conv=>whnf
    refine w_as ((i+1:Nat):Int) (by omega) (by omega) ?_
    conv=>whnf
    refine k_eq (sl_loC rfl (by omega) (by omega) (by omega) (by omega)) ?_
    conv=>whnf
    refine k_eq (sl_loC rfl (by omega) (by omega) (by omega) (by omega)) ?_
    conv=>whnf
    rw[show((i+1:Nat):Int).toNat=i+1 from rfl,show(i:Int).toNat=i from rfl,show((l.length+1:Nat):Int).toNat=l.length+1 from rfl]
    refine cp_raw (view_r rfl (by omega)) (fun r hr=>hcell r (List.mem_of_mem_drop (List.mem_of_mem_take hr))) rfl (by omega) ?_
    have hE1:(l.map quR++U::List.replicate d U).take (0+ (i+1))++ (((l.map quR++U::List.replicate d U).drop (0+i)).take (l.length+1-i)).take (l.length+1- (i+1))++ (l.map quR++U::List.replicate d U).drop (0+ (i+1)+min (((l.map quR++U::List.replicate d U).drop (0+i)).take (l.length+1-i)).length (l.length+1- (i+1)))=(l.map quR).take (i+1)++ (l.map quR).drop i++List.replicate d U:=by
     have hm:(l.map quR).length=l.length:=List.length_map ..
     have a1:(l.map quR++U::List.replicate d U).take (0+ (i+1))=(l.map quR).take (i+1):=by rw[List.take_append_of_le_length (by omega),Nat.zero_add]
     have a2:((l.map quR++U::List.replicate d U).drop (0+i)).take (l.length+1-i)=(l.map quR).drop i++ [U]:=by
      rw[List.drop_append_of_le_length (by omega),Nat.zero_add,List.take_append,show((l.map quR).drop i).take (l.length+1-i)=(l.map quR).drop i from List.take_of_length_le (by simp;omega),List.length_drop,hm,show l.length+1-i- (l.length-i)=1 by omega]
      rfl
     have a3:((l.map quR).drop i++ [U]).take (l.length+1- (i+1))=(l.map quR).drop i:=List.take_left' (by rw[List.length_drop,hm];omega)
     have a4:((l.map quR).drop i++ [U]).length=l.length+1-i:=by rw[List.length_append,List.length_drop,hm];simp;omega
     rw[a2,a3,a1,a4,show 0+ (i+1)+min (l.length+1-i) (l.length+1- (i+1))=l.length+1 by omega]
     congr 1
     rw[show l.map quR++U::List.replicate d U=(l.map quR++ [U])++List.replicate d U by simp]
     exact List.drop_left' (by simp)
    rw[hE1]
    have hE1l:((l.map quR).take (i+1)++ (l.map quR).drop i++List.replicate d U).length=l.length+1+d:=by simp;omega
    conv=>whnf
    refine k_eq (sl_loC rfl (by omega) (by omega) (by omega) (by omega)) ?_
    conv=>whnf
    rw[show(i:Int).toNat=i from rfl]
    refine cp_raw (src:=[quR x]) rfl (by intro r hr;simp at hr;subst hr;rfl) rfl (by omega) ?_
    have hE2:((l.map quR).take (i+1)++ (l.map quR).drop i++List.replicate d U).take (0+i)++ [quR x].take (l.length+1-i)++ ((l.map quR).take (i+1)++ (l.map quR).drop i++List.replicate d U).drop (0+i+min [quR x].length (l.length+1-i))=(insAt i x l).map quR++List.replicate d U:=by
     have hm:(l.map quR).length=l.length:=List.length_map ..
     have b0:((l.map quR).take (i+1)).length=i+1:=by simp;omega
     have b1:((l.map quR).take (i+1)++ (l.map quR).drop i++List.replicate d U).take (0+i)=(l.map quR).take i:=by
      rw[List.append_assoc,List.take_append_of_le_length (by omega),List.take_take,show min (0+i) (i+1)=i by omega]
     have b2:((l.map quR).take (i+1)++ (l.map quR).drop i++List.replicate d U).drop (0+i+min [quR x].length (l.length+1-i))=(l.map quR).drop i++List.replicate d U:=by
      rw[show 0+i+min [quR x].length (l.length+1-i)=i+1 by simp;omega,List.append_assoc]
      exact List.drop_left' b0
     rw[b1,b2,show [quR x].take (l.length+1-i)=[quR x]from List.take_of_length_le (by simp;omega)]
     simp[insAt,List.map_take,List.map_drop]
    rw[hE2]
    conv=>whnf
    exact at_end [some 0,some 1] (hN:=⟨⟨_,rfl,Go'.same _ _ _ (hfin _)⟩,⟨_,rfl,by exact autoG⟩,trivial⟩)
   ·conv=>whnf
    refine k_eq (sl_loC rfl (by omega) (by omega) (by omega) (by omega)) ?_
    conv=>whnf
    rw[show((l.length+1:Nat):Int).toNat=l.length+1 from rfl,show(l.length:Int).toNat=l.length from rfl]
    refine cp_raw (src:=[quR x]) rfl (by intro r hr;simp at hr;subst hr;rfl) rfl (by omega) ?_
    have hE3:(l.map quR++U::List.replicate d U).take (0+l.length)++ [quR x].take (l.length+1-l.length)++ (l.map quR++U::List.replicate d U).drop (0+l.length+min [quR x].length (l.length+1-l.length))=(l++ [x]).map quR++List.replicate d U:=by
     have b1:(l.map quR++U::List.replicate d U).take (0+l.length)=l.map quR:=List.take_left' (by simp)
     have b2:(l.map quR++U::List.replicate d U).drop (0+l.length+min [quR x].length (l.length+1-l.length))=List.replicate d U:=by
      rw[show l.map quR++U::List.replicate d U=(l.map quR++ [U])++List.replicate d U by simp]
      exact List.drop_left' (by simp)
     rw[b1,b2,show l.length+1-l.length=1 by omega]
     simp
    rw[hE3]
    have hE3l:((l++ [x]).map quR++List.replicate d U).length=l.length+1+d:=by simp;omega
    conv=>whnf
    refine k_eq (sl_loC rfl (by omega) (by omega) (by omega) (by omega)) ?_
    conv=>whnf
    rw[show(i:Int).toNat=i from rfl,Nat.zero_add]
    have hrot:=rotateRightQ_ok (l++ [x]) (List.replicate d U) i (l.length+1-i) (l.length+1+d-i) (by omega) (by omega) (by simp;omega) (by simp;omega) (fun r hr=>by rw[List.eq_of_mem_replicate hr];exact hUb)
    rw[rot_ins i x l (by omega)]at hrot
    have hf0:∀m:List Qu,∀r∈m.map quR++List.replicate d U,Bel 0 r:=fun m r hr=>by
     rcases List.mem_append.1 hr with hr|hr
     ·obtain⟨a,_,rfl⟩:=List.mem_map.1 hr;simp
     ·rw[List.eq_of_mem_replicate hr];exact hUb
    refine call_fr (R:= .tuple []) [0] [] [some (.rows 45 4 ((insAt i x l).map quR++List.replicate d U))] hrot ?_ (hN:=⟨⟨_,rfl,Go'.same _ _ _ (hf0 _)⟩,trivial⟩) (hO:=⟨.closed _ _ _ (hf0 _) rfl,trivial⟩)
    conv=>whnf
    exact at_end [some 0,some 1] (hN:=⟨⟨_,rfl,Go'.same _ _ _ (hfin _)⟩,⟨_,rfl,by exact autoG⟩,trivial⟩)
  ·rw[show uncap (l.length+1+d) (.slc 0 0 (l.length+1) (some (l.length+1+d)))= .slc 0 0 (l.length+1) none by simp[uncap]]
   exact fin_of_stop (at_end [some 0,some 1,some 0] (hN:=⟨⟨_,rfl,by exact autoG⟩,⟨_,rfl,Go'.preR (List.prefix_append _ _) (by intro r hr;obtain⟨a,_,rfl⟩:=List.mem_map.1 hr;simp)⟩,trivial⟩))
theorem insertQ_ok(l:List Qu)(x:Qu)(i:Nat)(hi:i≤l.length)(hl:(l.length:Int)≤999999):AC PR 95 [.slc 0 0 l.length none,i64 i, .slc 1 0 1 none] [some (.rows 45 4 (l.map quR)),some (.rows 45 4 ([x].map quR))] (.slc 2 0 (l.length+1) none) [none,some (.rows 45 4 ([x].map quR)),some (.rows 45 4 ((insAt i x l).map quR))]:=by
 by_cases h:i=l.length
 ·subst h
  exact insEndQ_ok l x (by omega)
 ·exact insMidQ_ok l x i (by omega) hl
end Go.Am.Pt
end
