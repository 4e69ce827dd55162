/- Part of the proof: plain data, the machine and its soundness. No conditions. -/
import Derived.IntWalk
import Derived.NoCompiler
import Derived.Test.YtejbmdnhchoilaaGreatM18
set_option linter.unusedVariables false
set_option linter.unusedSimpArgs false
set_option maxRecDepth 100000
section
namespace Go.Am
open Go
theorem k_some {α:Type}{o:Option α}{v:α}{k:α→Prop}(h:o=some v)(hk:k v):OptK o k:=by rw[h];exact hk
theorem call_at {P:Program}{f:FuncId}{args:List AV}{H:AHeap}{k:AV→AHeap→Prop}{r:AV}{H':AHeap}(h:AC P f args H r H')(hk:k r H'):Stop (CallP P f args H k):=⟨r,H',h,hk⟩
theorem callv_at {P:Program}{f:FuncId}{a b args:List AV}{H:AHeap}{k:AV→AHeap→Prop}{r:AV}{H':AHeap}(hc:callable P f=true)(h:AC P f (a++args++b) H r H')(hk:k r H'):Stop (CallV P (.fn (.func f) a b) args H k):=⟨hc,r,H',h,hk⟩
theorem nil_both {x y:AV}{k:Bool→Prop}(h:nilAmb x y=true)(hk:∀b,k b):Stop (NilK x y k):=⟨by
 unfold NilK
 split
 ·exact hk _
 ·exact⟨h,hk⟩⟩
theorem nil_is {x y:AV}{k:Bool→Prop}{b:Bool}(h:aEqNil .slc x y=some b)(hk:k b):Stop (NilK x y k):=⟨by
 unfold NilK
 rw[h];exact hk⟩
theorem cond_nb {b:Bool}{A B:Prop}(ha:b=false→A)(hb:b=true→B):CondP (.bool (!b)) A B:=by
 cases b
 ·exact ha rfl
 ·exact hb rfl
def fzB(id:Nat):List (Option Nat)→AHeap→Bool
 |some a::l,some _::h=> !Nat.beq a id&&fzB id l h
 |_::l,_::h=>fzB id l h
 |_,_=>true
theorem fzB_fz {id:Nat}:∀ {l:List (Option Nat)} {h:AHeap},fzB id l h=true→∀ (j:Nat) (o:AObj),l[j]? =some (some id)→h[j]? ≠some (some o)
 | [],_,_,j,o,h1,_=>by simp at h1
 |_::_,[],_,j,o,_,h2=>by simp at h2
 |some a::l,some p::h,hb,j,o,h1,h2=>by
  simp only[fzB,Bool.and_eq_true,Bool.not_eq_true']at hb
  cases j with
  |zero=>simp at h1;subst h1;have:=hb.1;simp[Nat.beq_refl]at this
  |succ j=>exact fzB_fz hb.2 j o (by simpa using h1) (by simpa using h2)
 |none::l,p::h,hb,j,o,h1,h2=>by
  have hb:fzB id l h=true:=by cases p<;>exact hb
  cases j with
  |zero=>simp at h1
  |succ j=>exact fzB_fz hb j o (by simpa using h1) (by simpa using h2)
 |some a::l,none::h,hb,j,o,h1,h2=>by
  cases j with
  |zero=>simp at h2
  |succ j=>exact fzB_fz (l:=l) (h:=h) hb j o (by simpa using h1) (by simpa using h2)
theorem fz_zip {src:List (Option Nat)}{H':AHeap}{id:Nat}(h:fzB id src H'=true):fzOf src H' id:=fun j o=>fzB_fz h j o
theorem AC.closed {P:Program}{f:FuncId}{args:List AV}{r:AV}(h:AC P f args [] r [])(H:AHeap)(ha:∀a∈args,Bel 0 a)(hr:Bel 0 r):AC P f args H r H:=by
 have:=AC.frame (H:=H) (Os:=[]) (Args:=args) (R:=r) [] [] h rfl rfl rfl trivial ?_ rfl trivial (.closed _ hr rfl)
 ·simpa[place]using this
 ·revert ha
  generalize args=l
  intro ha
  induction l with
  |nil=>trivial
  |cons a l ih=>exact⟨.same _ (ha a (by simp)),ih fun b hb=>ha b (by simp[hb])⟩
theorem call_closed {P:Program}{f:FuncId}{args:List AV}{H:AHeap}{k:AV→AHeap→Prop}{r:AV}(h:AC P f args [] r [])(hk:k r H)(ha:∀a∈args,Bel 0 a:=by simp)(hr:Bel 0 r:=by simp):Stop (CallP P f args H k):=call_at (h.closed H ha hr) hk
theorem Go'.map {n0 src H fz t sz}{α:Type}{f:α→AV}{l:List α}(h:∀a,Bel n0 (f a)):Go' n0 src H fz (.rows t sz (l.map f)) (.rows t sz (l.map f)):= .same _ _ _ fun r hr=>by
 obtain⟨a,_,rfl⟩:=List.mem_map.1 hr;exact h a
theorem Go'.pre {n0 src H fz t sz}{α:Type}{f:α→AV}{l m:List α}(hp:m <+: l)(h:∀a,Bel n0 (f a)):Go' n0 src H fz (.rows t sz (l.map f)) (.rows t sz (m.map f)):=by
 obtain⟨r,rfl⟩:=hp
 have:=Go'.take (n0:=n0) (src:=src) (H:=H) (fz:=fz) t sz ((m++r).map f) m.length fun x hx=>by
  obtain⟨a,_,rfl⟩:=List.mem_map.1 (List.mem_of_mem_take hx);exact h a
 simpa[List.map_append]using this
theorem GrO.mapF {τ nb t sz}{α:Type}{f:α→AV}{l:List α}(h:∀a,Flat (f a)):GrO τ nb (.rows t sz (l.map f)) (.rows t sz (l.map f)):= .flat _ _ _ fun r hr=>by
 obtain⟨a,_,rfl⟩:=List.mem_map.1 hr;exact h a
theorem GrO.mapC {τ nb t sz}{α:Type}{f:α→AV}{l:List α}(h:∀a,Bel 0 (f a))(hn:nb):GrO τ nb (.rows t sz (l.map f)) (.rows t sz (l.map f)):= .closed _ _ _ (fun r hr=>by
 obtain⟨a,_,rfl⟩:=List.mem_map.1 hr;exact h a) hn
theorem loop_to {P:Program} {n0:Nat} {h:List Nat} {b:ACode} {Q:AExit→Ev→AHeap→Prop} (n:Nat) (J:Nat→Ev→AHeap→Prop)
  (step:∀k e H,k≤n→J k e H→awpC P n0 b (AExit.thn (fun e' H'=>keepC e' h fun e1=>keepC e1 h fun e2=>GcP n0 H' e2 fun e3 H3=>k<n∧J (k+1) e3 H3) Q) e H) {e:Ev} {H:AHeap} (hi:keepC e h fun e1=>GcP n0 H e1 fun e2 H2=>J 0 e2 H2):
  Stop (LoopP P (awpC P n0 (.seq (.gc h) (.seq b (.clear h)))) Q e H):=by
 refine LoopP_rule (fun m e H=>∃k,k≤n∧m=n-k∧J k e H) ?_ ?_
 ·rintro m e H ⟨k,hk,rfl,hJ⟩
  refine awpC_mono b ?_ (step k e H hk hJ)
  intro x e' H' hx
  cases x with
  |ret=>exact hx
  |exit i=>exact hx
  |normal=>
   simp only[AExit.thn,keepC_eq]at hx⊢
   obtain⟨e3,H3,g,hlt,hJ⟩:=hx
   exact⟨e3,H3,g,n- (k+1),by omega,k+1,by omega,rfl,hJ⟩
 ·rw[keepC_eq]at hi⊢
  obtain⟨e2,H2,g,hJ⟩:=hi
  exact⟨e2,H2,g,n,0,Nat.zero_le _,rfl,hJ⟩
theorem loop_dn {P:Program} {n0:Nat} {h:List Nat} {b:ACode} {Q:AExit→Ev→AHeap→Prop} (J:Nat→Ev→AHeap→Prop)
  (step:∀k e H,J k e H→awpC P n0 b (AExit.thn (fun e' H'=>keepC e' h fun e1=>keepC e1 h fun e2=>GcP n0 H' e2 fun e3 H3=>∃m,m<k∧J m e3 H3) Q) e H) {e:Ev} {H:AHeap} (hi:keepC e h fun e1=>GcP n0 H e1 fun e2 H2=>∃m,J m e2 H2):
  Stop (LoopP P (awpC P n0 (.seq (.gc h) (.seq b (.clear h)))) Q e H):=by
 refine LoopP_rule (fun m e H=>J m e H) ?_ ?_
 ·intro m e H hJ
  refine awpC_mono b ?_ (step m e H hJ)
  intro x e' H' hx
  cases x with
  |ret=>exact hx
  |exit i=>exact hx
  |normal=>
   simp only[AExit.thn,keepC_eq]at hx⊢
   obtain⟨e3,H3,g,m',hlt,hJ⟩:=hx
   exact⟨e3,H3,g,m',hlt,hJ⟩
 ·rw[keepC_eq]at hi⊢
  obtain⟨e2,H2,g,m,hJ⟩:=hi
  exact⟨e2,H2,g,m,hJ⟩
theorem Gv.boolE {n0 src H fz a b}(h:a=b):Gv n0 src H fz (.bool a) (.bool b):=by subst h;exact .same _ (by simp)
theorem Gv.lstM {n0 src H fz sz c}{α:Type}{f:α→AV}{l:List α}(h:∀a,Bel 0 (f a)):Gv n0 src H fz (.lst sz (l.map f) c) (.lst sz (l.map f) none):= .lst _ _ _ fun r hr=>by
 obtain⟨a,_,rfl⟩:=List.mem_map.1 hr;exact h a
theorem Gv.lend {n0 src H fz id n c t sz}{α:Type}{f:α→AV}{l:List α}(hf:fz id)(h:H[id]? =some (some (.rows t sz (l.map f))))(hn:n=l.length)(hb:∀a,Bel 0 (f a)):Gv n0 src H fz (.slc id 0 n c) (.lst sz (l.map f) none):=by
 subst hn
 refine .frz _ _ _ _ _ _ _ _ hf h (by simp) (by simp[List.take_of_length_le]) fun r hr=> ?_
 obtain⟨a,_,rfl⟩:=List.mem_map.1 hr;exact hb a
theorem autoH {P:Prop} (h:P:=by
   repeat'(first
    |exact trivial
    |decide
    | (refine Gv.same _ (Bel.mono (Nat.zero_le _) ?_);assumption)
    | (refine Gr.flat _ ?_;assumption)
    | (refine Gr.closed _ ?_ rfl;assumption)
    | (refine Gv.same _ ?_;simp;done)
    | (refine Go'.map ?_;intro a;simp;done)
    | (refine GrO.mapF ?_;intro a;simp;done)
    | (refine GrO.mapC ?_ rfl;intro a;simp;done)
    | (refine Go'.same _ _ _ ?_;simp;done)
    |exact Gv.slc _ _ _ _ _ rfl
    |exact Gv.ptr _ _ _ _ rfl
    |exact Gv.map _ _ rfl
    |exact Or.inl rfl
    | (refine Gv.nil _ rfl ?_;first|decide| (simp;done))
    | (refine Gv.int ?_;first|omega| (simp;done) | (simp;omega))
    |refine Gv.aggL ?_
    |refine Gv.tupleL ?_
    |refine Gv.fnL ?_ ?_
    |refine Go'.rowsL ?_
    |refine Or.inr ?_
    |refine Exists.intro _ (And.intro rfl ?_)
    | (refine Gr.flat _ ?_;simp;done)
    | (refine GrO.flat _ _ _ ?_;simp;done)
    | (refine Gr.closed _ ?_ rfl;simp;done)
    | (refine GrO.closed _ _ _ ?_ rfl;simp;done)
    |exact Gr.slc _ _ _ _ _ rfl
    |exact Gr.ptr _ _ _ _ rfl
    |refine Gr.aggL ?_
    |refine Gr.tupleL ?_
    |refine GrO.rowsL ?_
    | (refine Gv.lstM ?_;intro a;simp;done)
    | (refine Gv.lend ?_ rfl ?_ ?_<;>first|exact fz_zip rfl| (simp;done) |rfl|omega| (intro a;simp;done) | (simp;omega))
    | (refine Gv.slcN rfl ?_;first|omega| (simp;done) | (simp;omega))
    | (refine Gv.frz _ _ _ _ _ _ _ _ ?_ rfl ?_ rfl ?_<;>first|exact fz_zip rfl| (simp;done))
    |exact Gv.nillst _
    | (refine Go'.pre ?_ ?_<;>first|assumption| (intro a;simp;done))
    | (refine Gv.boolE ?_;first|assumption| (symm;assumption) | (simp;done))
    |refine And.intro rfl ?_
    |refine And.intro ?_ ?_)):P:=h
theorem call_fr {P:Program} {f:FuncId} {args Args:List AV} {L L' H:AHeap} {r R:AV} {k:AV→AHeap→Prop} (σ bs:List Nat) (Os:AHeap) (h:AC P f args L r L')
  (hk:forceS (place H σ Os) fun H'=>k R H')
  (hd:ndB (σ.map some)=true:=by rfl) (hσ:ltAll H.length σ=true:=by rfl) (hbs:disj bs σ=true:=by rfl)
  (hN:GN 0 (σ.map some) H (fun id=>id∈bs) (σ.map some) L:=by exact autoH) (hargs:GL 0 (σ.map some) H (fun id=>id∈bs) Args args:=by exact autoH)
  (hlen:Nat.ble σ.length L'.length=true:=by rfl) (hO:GNr (σ++List.range' H.length (L'.length-σ.length)) (bs=[]) L' Os:=by exact autoH) (hr:Gr (σ++List.range' H.length (L'.length-σ.length)) (bs=[]) r R:=by exact autoH):
  Stop (CallP P f Args H k):=call_at (h.frame σ bs hd hσ hbs hN hargs hlen hO hr) (by rw[forceS_eq]at hk;exact hk)
theorem callv_fr {P:Program} {f:FuncId} {a b args xs:List AV} {L L' H:AHeap} {r R:AV} {k:AV→AHeap→Prop} (σ bs:List Nat) (Os:AHeap) (h:AC P f xs L r L')
  (hk:forceS (place H σ Os) fun H'=>k R H') (hc:callable P f=true:=by kernel_rfl)
  (hd:ndB (σ.map some)=true:=by rfl) (hσ:ltAll H.length σ=true:=by rfl) (hbs:disj bs σ=true:=by rfl)
  (hN:GN 0 (σ.map some) H (fun id=>id∈bs) (σ.map some) L:=by exact autoH) (hargs:GL 0 (σ.map some) H (fun id=>id∈bs) (a++args++b) xs:=by exact autoH)
  (hlen:Nat.ble σ.length L'.length=true:=by rfl) (hO:GNr (σ++List.range' H.length (L'.length-σ.length)) (bs=[]) L' Os:=by exact autoH) (hr:Gr (σ++List.range' H.length (L'.length-σ.length)) (bs=[]) r R:=by exact autoH):
  Stop (CallV P (.fn (.func f) a b) args H k):=callv_at hc (h.frame σ bs hd hσ hbs hN hargs hlen hO hr) (by rw[forceS_eq]at hk;exact hk)
theorem callv_closed {P:Program}{f:FuncId}{a b args:List AV}{H:AHeap}{k:AV→AHeap→Prop}{r:AV}(h:AC P f (a++args++b) [] r [])(hk:k r H)(hc:callable P f=true:=by kernel_rfl)(ha:∀q∈a++args++b,Bel 0 q:=by simp)(hr:Bel 0 r:=by simp):
  Stop (CallV P (.fn (.func f) a b) args H k):=callv_at hc (h.closed H ha hr) hk
def idB:Nat→Nat→List (Option Nat)→Bool
 |0,_,_=>true
 |k+1,m,some a::l=>Nat.beq a m&&idB k (m+1) l
 |_,_,_=>false
theorem idB_pre:∀ {k m:Nat} {l:List (Option Nat)},idB k m l=true→∀id,id<k→l[id]? =some (some (m+id))
 |0,_,_,_,_,h=>absurd h (Nat.not_lt_zero _)
 |k+1,m,some a::l,h,id,hid=>by
  simp only[idB,Bool.and_eq_true]at h
  cases id with
  |zero=>simp[Nat.eq_of_beq_eq_true h.1]
  |succ id=>
   have:=idB_pre h.2 id (by omega)
   simp only[List.getElem?_cons_succ,this]
   congr 2;omega
 |k+1,_,none::_,h,_,_=>by simp[idB]at h
 |k+1,_,[],h,_,_=>by simp[idB]at h
theorem idB_idPre {n0:Nat}{src:List (Option Nat)}(h:idB n0 0 src=true):idPre n0 src:=fun id hid=>by simpa using idB_pre h id hid
theorem at_head {n0:Nat} {H:AHeap} {e:Ev} {K:Ev→AHeap→Prop} (src:List (Option Nat)) (H':AHeap) (e':Ev) (hk:K e' H') (hp:idB n0 0 src=true:=by rfl) (hd:ndA src H'=true:=by rfl) (hN:GN n0 src H (fzOf src H') src H':=by exact autoH)
  (he:GEv n0 src H (fzOf src H') e e':=by exact autoH):GcP n0 H e K:=gcp src H' e' (idB_idPre hp) hd hN he hk
theorem at_end {H0 Hb H':AHeap} {r r':AV} (src:List (Option Nat)) (hp:idB H0.length 0 src=true:=by rfl) (hd:ndA src H'=true:=by rfl) (hN:GN H0.length src Hb (fzOf src H') src H':=by exact autoH)
  (hr:Gv H0.length src Hb (fzOf src H') r r':=by exact autoH):Stop (Fin H0 r Hb r' H'):=⟨fin_gc src (idB_idPre hp) hd hN hr⟩
theorem app_whole {str:Bool} {t sz bytes id n:Nat} {y:AV} {H:AHeap} {k:AV→AHeap→Prop} {rs new:List AV} (hs:srcOf str sz H y=some new) (hok:okRows sz new) (hH:H[id]? =some (some (.rows t sz rs))) (hn:n=rs.length)
  (hb:(rs.length+new.length) *bytes≤roomBound) (hk:forceS (H.set id none++ [some (.rows t sz (rs++new))]) fun H'=>k (.slc H.length 0 (n+new.length) none) H'):Stop (aAppend str t sz bytes (.slc id 0 n none) y H k):=by
 subst hn
 refine⟨new,hs,hok,rs,hH,hb,by omega, ?_⟩
 simp only[true_and,if_true]
 rw[forceS_eq]at hk
 exact hk
theorem app_nil {str:Bool} {t sz bytes:Nat} {y:AV} {H:AHeap} {k:AV→AHeap→Prop} {new:List AV} (hs:srcOf str sz H y=some new) (hok:okRows sz new)
  (hb:new.length*bytes≤roomBound) (hk:forceS (H++ [some (.rows t sz new)]) fun H'=>k (.slc H.length 0 new.length none) H'):Stop (aAppend str t sz bytes .nilslc y H k):=⟨new,hs,hok,hb,by rw[forceS_eq]at hk;exact hk⟩
theorem k_idx {es id n:Nat}{c:Option Nat}{H:AHeap}{kk:IntKind}{j:Int}{k:AV→Prop}(hk:k (.ptr id j.toNat 0))(rs:List AV)(hr:rowsOf es H id=some rs)(h0:0≤j)(h1:j<n):OptK (aIaddrS es H (.slc id 0 n c) (.int kk j)) k:=by
 simp only[aIaddrS,hr,Option.bind_some,h0,h1,and_self,if_true,Nat.zero_add]
 exact hk
theorem k_el {es:Nat}{c:Option Nat}{H:AHeap}{kk:IntKind}{j:Int}{rows:List AV}{r:AV}{k:AV→Prop}(hr:rows[j.toNat]? =some r)(h0:0≤j)(hk:k (.eptr r 0)):OptK (aIaddrS es H (.lst es rows c) (.int kk j)) k:=by
 simp only[aIaddrS,hr,h0,and_self,if_true,Option.map_some]
 exact hk
theorem k_row {s id i o:Nat}{H:AHeap}{r:AV}{k:AV→Prop}(hr:rowAt H id i=some r)(hk:OptK (partN r o s) k):OptK (aLoadN s H (.ptr id i o)) k:=by
 simp only[aLoadN,hr,Option.bind_some]
 exact hk
theorem k_cell {id i o:Nat}{H:AHeap}{r:AV}{k:AV→Prop}(hr:rowAt H id i=some r)(hk:OptK r.cells[o]? k):OptK (aLoad1 H (.ptr id i o)) k:=by
 simp only[aLoad1,hr,Option.bind_some]
 exact hk
theorem k_store {s t sz id i o:Nat} {H:AHeap} {r v:AV} {rs:List AV} {k:AHeap→Prop} (hr:rs[i]? =some r) (hH:H[id]? =some (some (.rows t sz rs))) (hv:v.cells.length=s∧o+s≤sz∧0<s∧v.cells.all AV.isCell=true)
  (hk:k (H.set id (some (.rows t sz (rs.set i (r.setCells o v.cells)))))):storeC s H (.ptr id i o) v k:=by
 simp only[storeC,hH,hr,OptK,forceA_eq,forceS_eq]
 rw[if_pos hv]
 exact hk
section
variable {es id n:Nat} {H:AHeap} {k:AV→Prop} {kk kk' kk2:IntKind} {rs:List AV} {A:Prop}
theorem sl_hi_eq {b:Int}(hr:rowsOf es H id=some rs)(h0:0≤b)(h1:b≤rs.length):aSlice es H (.slc id 0 n none) none (some (.int kk b)) none=some (.slc id 0 b.toNat none):=by
 have:b.toNat≤rs.length:=by omega
 simp[aSlice,aBounds,AV.natOf,hr,h0,this,h1]
theorem sl_lo_eq {a:Int}(hr:rowsOf es H id=some rs)(h0:0≤a)(h1:a≤n)(hn:n≤rs.length):aSlice es H (.slc id 0 n none) (some (.int kk a)) none none=some (.slc id a.toNat (n-a.toNat) none):=by
 have:a.toNat≤n:=by omega
 simp[aSlice,aBounds,AV.natOf,hr,h0,this,hn,h1]
theorem sl_lohi_eq {a b:Int}(hr:rowsOf es H id=some rs)(h0:0≤a)(h1:a≤b)(h2:b≤rs.length):aSlice es H (.slc id 0 n none) (some (.int kk a)) (some (.int kk' b)) none=some (.slc id a.toNat (b.toNat-a.toNat) none):=by
 have:b.toNat≤rs.length:=by omega
 have h3:a.toNat≤b.toNat:=by omega
 have h4:0≤b:=by omega
 have h5:max a 0≤b:=by omega
 simp[aSlice,aBounds,AV.natOf,hr,h0,h4,h2,h5]
theorem sl_3_eq {a b c:Int}(hr:rowsOf es H id=some rs)(h0:0≤a)(h1:a≤b)(h2:b≤c)(h3:c≤rs.length):aSlice es H (.slc id 0 n none) (some (.int kk a)) (some (.int kk' b)) (some (.int kk2 c))=some (.slc id a.toNat (b.toNat-a.toNat) (some (c.toNat-a.toNat))):=by
 have e1:a.toNat≤b.toNat:=by omega
 have e2:b.toNat≤c.toNat:=by omega
 have e3:c.toNat≤rs.length:=by omega
 have e4:0≤b:=by omega
 have e5:0≤c:=by omega
 have e6:max a 0≤b:=by omega
 have e7:max b 0≤c:=by omega
 simp[aSlice,aBounds,AV.natOf,hr,h0,e4,e5,h3,e6,e7]
theorem k_eq {α:Type}{o:Option α}{v:α}{k:α→Prop}(h:o=some v)(hk:k v):OptK o k:=k_some h hk
theorem e_eq {α:Type}{o:Option α}{v:α}(h:o=some v)(hk:A):o=some v∧A:=⟨h,hk⟩
end
theorem call_fz {P:Program} {f:FuncId} {args Args:List AV} {H:AHeap} {k:AV→AHeap→Prop} (src:List (Option Nat)) (H1:AHeap) (hk:Stop (CallP P f args H1 k))
  (hp:idB H.length 0 src=true:=by rfl) (hd:ndA src H1=true:=by rfl) (hl:Nat.ble src.length H.length=true:=by rfl) (hN:GN H.length src H (fzOf src H1) src H1:=by exact autoH) (hargs:GL H.length src H (fzOf src H1) Args args:=by exact autoH):Stop (CallP P f Args H k):=by
 obtain⟨⟨r,H2,h,hk⟩⟩:=hk
 exact⟨r,H2,h.frz src (idB_idPre hp) hd hN (Nat.le_of_ble_eq_true hl) hargs,hk⟩
theorem forceS_any {α:Type}{l:List α}{k:List α→Prop}(hk:k l):forceS l k:=by rw[forceS_eq];exact hk
theorem k_idxo {es id o n:Nat}{c:Option Nat}{H:AHeap}{kk:IntKind}{j:Int}{k:AV→Prop}(hk:k (.ptr id (o+j.toNat) 0))(rs:List AV)(hr:rowsOf es H id=some rs)(h0:0≤j)(h1:j<n):OptK (aIaddrS es H (.slc id o n c) (.int kk j)) k:=by
 simp only[aIaddrS,hr,Option.bind_some,h0,h1,and_self,if_true]
 exact hk
theorem view_o {α:Type}{f:α→AV}{es id o n t:Nat}{H:AHeap}{c:Option Nat}{l new:List α}(hH:H[id]? =some (some (.rows t es (l.map f))))(hn:o+n≤l.length)(hnew:new=(l.drop o).take n):srcOf false es H (.slc id o n c)=some (new.map f):=by
 subst hnew
 simp[srcOf,view,rowsOf,hH,hn,List.map_take,List.map_drop]
theorem f_set {α:Type}{f:α→AV}{l:List α}{i:Nat}{v:AV}{k:List AV→Prop}(x:α)(hv:v=f x)(hk:k ((l.set i x).map f)):forceS ((l.map f).set i v) k:=by
 subst hv
 rw[forceS_eq,←List.map_set];exact hk
theorem e_idx {es id n:Nat}{c:Option Nat}{H:AHeap}{kk:IntKind}{j:Int}{A:Prop}(hk:A)(rs:List AV)(hr:rowsOf es H id=some rs)(h0:0≤j)(h1:j<n):aIaddrS es H (.slc id 0 n c) (.int kk j)=some (.ptr id j.toNat 0)∧A:=by
 simp only[aIaddrS,hr,Option.bind_some,h0,h1,and_self,if_true,Nat.zero_add,true_and]
 exact hk
theorem e_row {s id i o:Nat}{H:AHeap}{r v:AV}{A:Prop}(hr:rowAt H id i=some r)(hv:partN r o s=some v)(hk:A):aLoadN s H (.ptr id i o)=some v∧A:=by
 simp only[aLoadN,hr,Option.bind_some,hv,true_and]
 exact hk
theorem w_i64 {n:Int}{k:AV→Prop}(h: -9223372036854775808≤n∧n≤9223372036854775807)(hk:k (.int .i64 n)):WrapK .i64 n k:=⟨by rw[IntWalk.i64_in n h];exact hk⟩
theorem w_as {n:Int}(v:Int){k:AV→Prop}(h:n=v)(hb: -9223372036854775808≤v∧v≤9223372036854775807)(hk:k (.int .i64 v)):WrapK .i64 n k:=by subst h;exact w_i64 hb hk
theorem Gv.slcN {n0 src H fz id i n c id' n'}(h:src[id']? =some (some id))(hn:n=n'):Gv n0 src H fz (.slc id i n c) (.slc id' i n' c):=by subst hn;exact .slc _ _ _ _ _ h
theorem Gv.int {n0 src H fz kd}{m n:Int}(h:m=n):Gv n0 src H fz (.int kd m) (.int kd n):=by subst h;exact .same _ (by simp)
theorem okRows_map {α:Type}{f:α→AV}{sz:Nat}(l:List α)(h:∀a,(f a).cells.length=sz∧(f a).cells.all AV.isCell=true):okRows sz (l.map f):=fun r hr=>by
 obtain⟨a,_,rfl⟩:=List.mem_map.1 hr;exact h a
theorem app_map {α:Type} {f:α→AV} {l new:List α} {str:Bool} {t sz bytes id n:Nat} {y:AV} {H:AHeap} {k:AV→AHeap→Prop} (hH:H[id]? =some (some (.rows t sz (l.map f)))) (hs:srcOf str sz H y=some (new.map f)) (hn:n≤l.length) (hb:(n+new.length) *bytes≤roomBound)
  (hk1:n=l.length→forceS (H.set id none++ [some (.rows t sz ((l++new).map f))]) fun H'=>k (.slc H.length 0 (n+new.length) none) H')
  (hk2:n<l.length→n+new.length≤l.length∧forceS (H.set id (some (.rows t sz ((l.take n++new++l.drop (n+new.length)).map f)))) fun H'=>k (.slc id 0 (n+new.length) none) H')
  (hok:∀a,(f a).cells.length=sz∧(f a).cells.all AV.isCell=true:=by intro a;exact⟨rfl,rfl⟩):Stop (aAppend str t sz bytes (.slc id 0 n none) y H k):=by
 refine⟨_,hs,okRows_map _ hok,_,hH,by simpa using hb,by simpa using hn, ?_⟩
 simp only[true_and,List.length_map,Nat.zero_add]
 simp only[forceS_eq]at hk1 hk2
 split
 ·rename_i h
  have:=hk1 h
  simpa using this
 ·rename_i h
  have:=hk2 (by omega)
  refine⟨this.1, ?_⟩
  have:=this.2
  simpa[List.map_take,List.map_drop]using this
theorem w_u64 {n:Int}{k:AV→Prop}(h:0≤n∧n<18446744073709551616)(hk:k (.int .u64 n)):WrapK .u64 n k:=⟨by
 have:IntKind.u64.wrap n=n:=by simp only[IntKind.wrap,IntKind.bits,IntKind.signed];simp;omega
 rw[this];exact hk⟩
theorem w_raw {kd:IntKind}{n:Int}{k:AV→Prop}(hk:k (.int kd (kd.wrap n))):WrapK kd n k:=⟨hk⟩
theorem app_nilm {α:Type} {f:α→AV} {new:List α} {str:Bool} {t sz bytes:Nat} {y:AV} {H:AHeap} {k:AV→AHeap→Prop} (hs:srcOf str sz H y=some (new.map f)) (hb:new.length*bytes≤roomBound)
  (hk:forceS (H++ [some (.rows t sz (new.map f))]) fun H'=>k (.slc H.length 0 new.length none) H')
  (hok:∀a,(f a).cells.length=sz∧(f a).cells.all AV.isCell=true:=by intro a;exact⟨rfl,rfl⟩):Stop (aAppend str t sz bytes .nilslc y H k):=
 app_nil hs (okRows_map _ hok) (by simpa using hb) (by simpa using hk)
theorem get_map {α:Type}{f:α→AV}{l:List α}{i:Int}{x:α}(h:l[i.toNat]? =some x):(l.map f)[i.toNat]? =some (f x):=by rw[List.getElem?_map,h];rfl
theorem AC_walk {P:Program} (hm:P.follows .mixedOrders=true) (ann:Nat→Option (List Nat×List Nat)) {f:FuncId} {fn:Func} {c:Code} {ac:ACode} {rs:List ARes} {n:Nat} (hf:P.funcs[f]? =some fn) (hb:fn.body=some c) (hc:compile P ann none c=ac) (hr:fn.results.toList.mapM (resC P)=some rs)
  {args:List AV} (hn:fn.ntmps-args.length=n) (hok:okDst (args.length+n) ac=true) {H:AHeap} {r:AV} {H':AHeap} (h:awpC P H.length ac (retC rs fun r' Hb=>Stop (Fin H r' Hb r H')) (mkEv 0 args) H):AC P f args H r H':=
 AC_env hm ann hf hb hc hr hn hok (by simpa only[Stop_eq]using h)
end Go.Am
end
