/- Part of the proof: plain data, the machine and its soundness. No conditions. -/
import Derived.Laws.Externs
import Derived.Lib.AppendZerosOnto
import Derived.MapKept
import Derived.NoCompiler
import Derived.Test.YtejbmdnhchoilaaGreatM20
import Derived.Test.YtejbmdnhchoilaaGreatProg
set_option linter.unusedVariables false
set_option linter.unusedSimpArgs false
set_option maxRecDepth 100000
section
namespace Go.Am
open Go
section
variable {P:Program}
theorem run_bi {o:Oper}{b:Builtin}{c:Call}(ho:o.op= .call c)(hc:c.callee= .builtin b){ev:Operand→Value}{w w':World}{s:Sem Value}{v:Value}(hb:∀consts,builtin b c.argTypes o.type consts (c.args.map ev)=(do pure (.value (←s)):Sem Next))(hs:s.run P w= .ok v w'):
  (execOp ev o).run P w= .ok (.value v) w':=by
 have h1:execOp ev o=(do let d←resolve ev c o.type;invoke d.target d.args:Sem Next):=by simp only[execOp,ho]
 obtain⟨consts,h2⟩:∃consts,resolve ev c o.type=(pure {target:= .builtin b c.argTypes o.type consts,args:=c.args.map ev}:Sem Deferred):=⟨_,by simp only[resolve,hc];rfl⟩
 rw[h1,h2,Sem.run_bind,Sem.run_pure,Result.andThen_ok]
 show(builtin b c.argTypes o.type consts (c.args.map ev)).run P w=_
 rw[hb,Sem.run_bind,hs]
 rfl
theorem x_cap {o:Oper}{c:Call}{X:Operand}{t e:TypeId}{id i n cp:Nat}{H:AHeap}{k:AV→AHeap→Prop}(ho:o.op= .call c)(hc:c.callee= .builtin .cap)(ha:c.args= #[X])(ht:c.argTypes= #[t])(hu:P.underlying t=some (.slice e))(hk:k (.int .i64 (cp:Int)) H):
  Stop (ExtP P o [.slc id i n (some cp)] H k):=⟨by
 intro Z φ w a hR ⟨xs,hxs,hl,hv⟩ next Q hn
 rw[ho]at hxs
 simp only[extOps,hc,ha,Option.some.injEq]at hxs
 subst hxs
 have hx:=hv 0 X _ rfl rfl
 generalize hX:a.eval X=u at hx
 cases hx with
 |slc _ _ _ _ b cap h1 h2 h3 h4 h5 h6=>
 have:=h2 cp rfl
 subst this
 refine wp_of_runs (.inl (run_bi ho hc (fun _=>rfl) ?_)) _ _ (hn _ _ (.int .i64 cap) φ w hk (Step.refl hR) (.int _ _))
 simp[Builtin.cap_,ha,ht,hX,run_underlying hu,goInt]⟩
theorem x_appz {o:Oper} {c:Call} {X Y:Operand} {t tn e:TypeId} {kn kq:IntKind} {inf:TypeInfo} {zs:List AV} {id n cp kk:Nat} {kz:Int} {H:AHeap} {k:AV→AHeap→Prop} {rs:List AV} (ho:o.op= .call c) (hc:c.callee= .builtin .append) (ha:c.args= #[X,Y]) (ht:c.argTypes= #[t,tn])
  (hu:P.underlying t=some (.slice e)) (hun:P.underlying tn=some (.int kn)) (hi:P.info? e=some inf) (hz:zeroT P e=some zs) (hzl:zs.length=inf.size) (h0:0<inf.size) (hb:0<inf.bytes) (hH:H[id]? =some (some (.rows e inf.size rs))) (hn:n≤rs.length) (hkz:kz=kk) (hk0:0<kk) (hcp:cp<n+kk) (hroom:(n+kk) *inf.bytes≤roomBound)
  (hk:k (.slc H.length 0 (n+kk) none) (H++ [some (.rows e inf.size (rs.take n++List.replicate kk (.agg zs)))])):
  Stop (ExtP P o [.slc id 0 n (some cp), .int kq kz] H k):=⟨by
 intro Z φ w a hR ⟨xs,hxs,hl,hv⟩ next Q hnx
 rw[ho]at hxs
 simp only[extOps,hc,ha,Option.some.injEq]at hxs
 subst hxs
 have hx:=hv 0 X _ rfl rfl
 have hy:=hv 1 Y _ rfl rfl
 subst hkz
 have hst:=step_drew hR
 have hview:view inf.size H (.slc id 0 n (some cp))=some (rs.take n):=by simp[view,rowsOf,hH,hn]
 have hq:=hR.obj id _ hH
 have hrl:∀r∈rs.take n,r.cells.length=inf.size:=fun r hr=>hq.2.2.2.1 r (List.mem_of_mem_take hr)
 obtain⟨os,o1,o2,o3,o4⟩:=first_take (P:=P) hst.rel (hx.mono hst.le) hview hrl h0 n (by simp;omega)
 generalize hX:a.eval X=u at hx o3
 generalize hY:a.eval Y=uy at hy
 cases hy with
 |int _ _=>
 cases hx with
 |slc _ _ _ _ b cap h1 h2 h3 h4 h5 h6=>
 have:=h2 cp rfl
 subst this
 obtain⟨i',z,hi',hzv,hm⟩:=zero_of hz
 rw[hi]at hi';cases hi'
 have hzs:z.cells.size=inf.size:=by
  have:=(mapM_some_get hm).1
  simp at this;omega
 have hle:n+kk≤(n+kk) *inf.bytes:=Nat.le_mul_of_pos_right _ hb
 have hle2:kk*inf.bytes≤(n+kk) *inf.bytes:=Nat.mul_le_mul_right _ (by omega)
 have hrun:=Lib.run_append_grow_zeros (P:=P) w t tn o.type e inf z kq kn hu hun hi hzv b n cap os o3 kk hk0 h0 hcp (by unfold roomBound at hroom;omega) (by unfold roomBound at hroom;omega) (growslice_fits hcp hroom)
 have hzr:CellsR (cx Z φ H w.drew) zs z.cells.toList:=by
  obtain⟨c1,c2⟩:=cv1_cells (c:=cx Z φ H w.drew) hm
  exact⟨c1,c2⟩
 have hzc:=zero_rows hzr kk (by omega)
 have hg:=grownCap_le w (n+kk) cap e
 have htk:(rs.take n).take n=rs.take n:=List.take_of_length_le (by simp;omega)
 rw[htk]at o1
 have hlen:(rs.take n++List.replicate kk (AV.agg zs)).length=n+kk:=by simp;omega
 have hall:CellsR (cx Z φ H w.drew) ((rs.take n++List.replicate kk (AV.agg zs)).flatMap AV.cells) (os++ (Builtin.zeroCells z.cells kk).toList):=by
  rw[List.flatMap_append]
  refine⟨by rw[List.length_append,List.length_append,o1.1,hzc.1];rfl,fun j x v hx hv=> ?_⟩
  rw[List.getElem?_append]at hx hv
  rw[←o1.1]at hv
  split at hx
  ·rename_i hlt;rw[if_pos hlt]at hv;exact o1.2 j x v hx hv
  ·rename_i hlt;rw[if_neg hlt]at hv;exact hzc.2 _ x v hx hv
 obtain⟨f1,f2⟩:=fresh_sound hst.rel e hall (fun v hv=>by
   rcases List.mem_append.1 hv with hv|hv
   ·exact o2 v hv
   ·exact zeroCells_one hm kk v hv) (fun r hr=>by
   rcases List.mem_append.1 hr with hr|hr
   ·exact hrl r hr
   ·rw[List.eq_of_mem_replicate hr];exact hzl) h0 (C:=grownCap w (n+kk) cap e) (by rw[hlen];exact hg) (by omega) (rest:=Builtin.zeroCells z.cells (grownCap w (n+kk) cap e- (n+kk)))
   (by rw[size_zeroCells,hzs,hlen]) (zeroCells_one hm _) (0,0) (frOK0 _)
 rw[hlen]at f2
 have harr:(os++ (Builtin.zeroCells z.cells kk).toList).toArray++Builtin.zeroCells z.cells (grownCap w (n+kk) cap e- (n+kk))=os.toArray++Builtin.zeroCells z.cells kk++Builtin.zeroCells z.cells (grownCap w (n+kk) cap e- (n+kk)):=by
  apply Array.ext';simp
 rw[harr]at f1 f2
 have hfr:(aFresh e inf.size (rs.take n++List.replicate kk (AV.agg zs)) H).1= .slc H.length 0 (n+kk) none:=by simp only[aFresh];rw[hlen]
 rw[hfr]at f2
 refine wp_of_runs (.inl (run_bi ho hc (fun _=>rfl) ?_)) _ _ (hnx _ _ _ _ _ hk (hst.trans f1) f2)
 rw[ht,ha]
 simp only[List.map_toArray,List.map_cons,List.map_nil,hX,hY]
 exact hrun⟩
theorem x_ovl {o:Oper} {c:Call} {X Y:Operand} {f:FuncId} {fn:Func} {t tr e:TypeId} {i1 o1 n1 i2 o2 n2:Nat} {c1 c2:Option Nat} {H:AHeap} {k:AV→AHeap→Prop} {t1 sz1 t2 sz2:Nat} {rs1 rs2:List AV}
  (ho:o.op= .call c) (hc:c.callee= .value (.func f)) (ha:c.args= #[X,Y]) (hf:P.funcs[f]? =some fn) (hname:(fn.name == "runtime.NumGoroutine")=false) (hb:fn.body.isNone=true) (hnn:Extern.findNext fn=none) (he:Extern.find fn=some (Extern.SlicesOverlaps.overlaps #[t,t] #[tr]))
  (hu:P.underlying t=some (.slice e)) (hsz:szT P e=some sz1) (hH1:H[i1]? =some (some (.rows t1 sz1 rs1))) (hH2:H[i2]? =some (some (.rows t2 sz2 rs2))) (hne:i1≠i2) (hk:∀b,k (.bool b) H):
  Stop (ExtP P o [.slc i1 o1 n1 c1, .slc i2 o2 n2 c2] H k):=⟨by
 intro Z φ w a hR ⟨xs,hxs,hl,hv⟩ next Q hn
 rw[ho]at hxs
 simp only[extOps,hc,ha,Option.some.injEq]at hxs
 subst hxs
 have hx:=hv 0 X _ rfl rfl
 have hy:=hv 1 Y _ rfl rfl
 generalize hX:a.eval X=u at hx
 generalize hY:a.eval Y=v at hy
 have q1:=hR.obj i1 _ hH1
 have q2:=hR.obj i2 _ hH2
 cases hx with
 |slc _ _ _ _ a1 cap1 h1 h2 h3 h4 h5 h6=>
 cases hy with
 |slc _ _ _ _ a2 cap2 g1 g2 g3 g4 g5 g6=>
 have key:∃b w',(Extern.SlicesOverlaps.overlaps #[t,t] #[tr] #[.slice a1 n1 cap1, .slice a2 n2 cap2]).run P w= .ok (.bool b) w'∧(w'=w∨w'=w.drew):=by
  have hz:∀w,(Go.sizeOf e).run P w= .ok sz1 w:=fun w=>run_sizeOf hsz w
  change∃b w',Sem.run P (α:=Value) (do
   let some t:=(#[t,t]:Array TypeId)[0]? |stuck "slices.overlaps: no parameter types"
   let .slice elem←underlying t|stuck "slices.overlaps: slice type expected"
   let size←Go.sizeOf elem
   match a1,a2 with
   |some a,some b=>
    if n1=0∨n2=0∨size=0 then pure (Value.bool false)
    else if a.block !=b.block&& (←frozen a) && (←frozen b)then unsupported .addressObserved
    else do
     if a.block !=b.block then do
      noView a;noView b
      if←mayBeOne a b then return Value.bool ((←choose (.extern "sameAddr.stringBytes" 2))== 1)
     pure (Value.bool (a.block == b.block&&a.off<b.off+n2*size&&b.off<a.off+n1*size))
   |_,_=>pure (Value.bool false)) w=_∧_
  by_cases h0:n1=0∨n2=0
  ·refine⟨false,w, ?_, .inl rfl⟩
   have h0':n1=0∨n2=0∨sz1=0:=by omega
   cases a1 with
   |none=>simp[run_underlying hu,hz]
   |some a1=>cases a2 with
    |none=>simp[run_underlying hu,hz]
    |some a2=>simp[run_underlying hu,hz,h0']
  have hc1:cap1≠0:=fun h=>h0 (.inl (by subst h;exact Nat.le_zero.1 h5))
  have hc2:cap2≠0:=fun h=>h0 (.inr (by subst h;exact Nat.le_zero.1 g5))
  have h4':o1+cap1≤(φ i1).C:=h4
  have g4':o2+cap2≤(φ i2).C:=g4
  have C1:(φ i1).C≠0:=fun h=>hc1 (Nat.le_zero.1 (Nat.le_trans (Nat.le_add_left _ _) (h▸h4')))
  have C2:(φ i2).C≠0:=fun h=>hc2 (Nat.le_zero.1 (Nat.le_trans (Nat.le_add_left _ _) (h▸g4')))
  have e1:=h6 hc1
  have e2:=g6 hc2
  subst e1 e2
  obtain⟨s1,s2,s3,s4,s5⟩:=q1
  obtain⟨r1,r2,r3,r4,r5⟩:=q2
  obtain⟨A1,F1,u1,u2,u3,u4,u5⟩:=s5 C1
  obtain⟨A2,F2,v1,v2,v3,v4,v5⟩:=r5 C2
  have hbn:(φ i1).b≠(φ i2).b:=fun hb=>hne (hR.inj i1 i2 _ _ hH1 hH2 C1 C2 hb)
  have hlt1:o1* (φ i1).sz<A1.size:=by
   rw[u2,show(φ i1).sz=sz1 from s1]
   exact Nat.mul_lt_mul_of_pos_right (Nat.lt_of_lt_of_le (Nat.lt_add_of_pos_right (Nat.pos_of_ne_zero hc1)) h4') s2
  have hf1:w.frozen? ⟨(φ i1).b,o1* (φ i1).sz,none⟩=false:=by
   unfold World.frozen?
   rw[show w.heap[(φ i1).b]? =some (.cells A1 t1 F1)from u1]
   have:=u3 _ hlt1
   simp only[Bool.and_eq_false_iff,decide_eq_false_iff_not]
   by_cases h:F1.1≤o1* (φ i1).sz
   ·exact .inr fun h'=>this ⟨h,h'⟩
   ·exact .inl h
  have hsh1:w.shape? (φ i1).b=some (t1,A1.size):=by unfold World.shape?;rw[show w.heap[(φ i1).b]? =some (.cells A1 t1 F1)from u1]
  have hsh2:w.shape? (φ i2).b=some (t2,A2.size):=by unfold World.shape?;rw[show w.heap[(φ i2).b]? =some (.cells A2 t2 F2)from v1]
  have hA1:A1.size≠0:=fun h=>by rw[h]at hlt1;exact absurd hlt1 (Nat.not_lt_zero _)
  have hA2:A2.size≠0:=fun h=>by
   rw[v2]at h
   rcases Nat.mul_eq_zero.1 h with h|h
   ·exact C2 h
   ·exact absurd h (Nat.pos_iff_ne_zero.1 r2)
  have hnb:((φ i1).b !=(φ i2).b)=true:=by simpa using hbn
  have hnb':((φ i1).b ==(φ i2).b)=false:=by simpa using hbn
  have h0':¬ (n1=0∨n2=0∨sz1=0):=by
   rintro(h|h|h)
   ·exact h0 (.inl h)
   ·exact h0 (.inr h)
   ·exact absurd h (Nat.pos_iff_ne_zero.1 s2)
  generalize hX1:w.frozen? ⟨(φ i1).b,A1.size,none⟩=x1
  generalize hX2:w.frozen? ⟨(φ i2).b,A2.size,none⟩=x2
  generalize hX3:w.frozen? ⟨(φ i2).b,o2* (φ i2).sz,none⟩=x3
  have hA1':∃m,A1.size=m+1:=Nat.exists_eq_succ_of_ne_zero hA1
  have hA2':∃m,A2.size=m+1:=Nat.exists_eq_succ_of_ne_zero hA2
  obtain⟨m1,hm1⟩:=hA1'
  obtain⟨m2,hm2⟩:=hA2'
  rw[hm1]at hsh1 hX1
  rw[hm2]at hsh2 hX2
  cases x1<;>cases x2<;>cases x3<;>
   simp[run_underlying hu,hz,h0',hnb,hnb',frozen,noView,viewAt,mayBeOne,stringish,shape,Sem.run,hsh1,hsh2,hf1,hX1,hX2,hX3]
  all_goals split
  all_goals simp only[Result.ok.injEq,Value.bool.injEq]
  all_goals first
   |exact .inl ⟨w,⟨trivial,rfl⟩, .inl rfl⟩
   |(generalize(Question.cut _ _ == 1)=z
     cases z
     ·exact .inl ⟨_,⟨rfl,rfl⟩, .inr rfl⟩
     ·exact .inr ⟨_,⟨rfl,rfl⟩, .inr rfl⟩)
 obtain⟨b,w',hrun,hw⟩:=key
 refine wp_of_runs (v:= .bool b) (.inl ?_) _ _ (hn _ H _ φ w' (hk b) (by rcases hw with rfl|rfl;exact Step.refl hR;exact step_drew hR) (.bool _))
 have e1:execOp a.eval o=(do let d←resolve a.eval c o.type;invoke d.target d.args:Sem Next):=by simp only[execOp,ho]
 have e2:resolve a.eval c o.type=(pure {target:= .fn (.func f) #[],args:= #[]++c.args.map a.eval}:Sem Deferred):=by simp only[resolve,hc];rfl
 rw[e1,e2,Sem.run_bind,Sem.run_pure,Result.andThen_ok]
 have:=run_callFunc_extern (P:=P) hf hname hb hnn he (#[]++c.args.map a.eval++ #[]) w
 simp only[invoke,ha,List.map_toArray,List.map_cons,List.map_nil,hX,hY]at this⊢
 rw[this]
 simp only[Array.append_empty,Array.empty_append,List.append_toArray,List.nil_append,hrun,Result.andThen_ok]⟩
end
def uncap(c:Nat):AV→AV
 | .slc 0 0 n (some d)=>if c=d then .slc 0 0 n none else .slc 0 0 n (some d)
 |v=>v
theorem cx_rows {Z:Nat→Prop}{φ:Nat→Loc}{w:World}{o o':AObj}{H:AHeap}:cx Z φ (some o::H) w=cx Z φ (some o'::H) w:=by
 have:∀b,owns φ (some o::H) b=owns φ (some o'::H) b:=fun b=>by
  apply propext
  constructor
  ·rintro⟨id,p,hp,r⟩
   cases id with
   |zero=>exact⟨0,o',rfl,r⟩
   |succ n=>exact⟨n+1,p,hp,r⟩
  ·rintro⟨id,p,hp,r⟩
   cases id with
   |zero=>exact⟨0,o,rfl,r⟩
   |succ n=>exact⟨n+1,p,hp,r⟩
 unfold cx
 simp only[List.length_cons,this]
theorem AC_cap {P:Program} {f:FuncId} {args:List AV} {t sz n:Nat} {rs:List AV} {H H':AHeap} {r:AV} (hn:rs.length=n)
  (h:∀c,n≤c→∃r1 H1,AC P f (.slc 0 0 n (some c)::args) (some (.rows t sz (rs++List.replicate (c-n) (.agg (List.replicate sz .undef))))::H) r1 H1∧Fin (some (.rows t sz rs)::H) (uncap c r1) H1 r H'):
  AC P f (.slc 0 0 n none::args) (some (.rows t sz rs)::H) r H':=by
 intro Z φ w xs hR hl hx
 have hsz:0<xs.size:=by rw[←hl];simp
 have h0:=hx 0 _ xs[0] rfl (by simp[hsz])
 generalize hX:xs[0]=u at h0
 cases h0 with
 |slc _ _ _ _ a cap h1 h2 h3 h4 h5 h6=>
 have hfull:0+cap=(φ 0).C:=h3 rfl
 obtain⟨r1,H1,hac,hfin⟩:=h cap h5
 have hcx:∀w,cx Z φ (some (.rows t sz rs)::H) w=cx Z φ (some (.rows t sz (rs++List.replicate (cap-n) (.agg (List.replicate sz .undef))))::H) w:=fun w=>cx_rows
 have hR2:Rel Z φ (some (.rows t sz (rs++List.replicate (cap-n) (.agg (List.replicate sz .undef))))::H) w:=by
  refine⟨fun id o ho=> ?_,fun i j o p hi hj h1 h2 h3=> ?_,fun b hb=> ?_⟩
  ·cases id with
   |zero=>
    simp only[List.getElem?_cons_zero,Option.some.injEq]at ho
    subst ho
    obtain⟨q1,q2,q3,q4,q5⟩:=hR.obj 0 _ rfl
    refine⟨q1,q2, ?_,fun r hr=> ?_,fun hC=> ?_⟩
    ·show _≤(φ 0).C
     rw[List.length_append,List.length_replicate,←hfull,hn];omega
    ·rcases List.mem_append.1 hr with hr|hr
     ·exact q4 r hr
     ·rw[List.eq_of_mem_replicate hr];simp[AV.cells]
    ·obtain⟨arr,fr,k1,k2,k3,k4,k5⟩:=q5 hC
     refine⟨arr,fr,k1,k2,k3,k4,fun i j r x v hi hj hv=> ?_⟩
     rw[←hcx]
     by_cases hlt:i<rs.length
     ·rw[List.getElem?_append_left hlt]at hi
      exact k5 i j r x v hi hj hv
     ·rw[List.getElem?_append_right (by omega)]at hi
      rw[List.eq_of_mem_replicate (List.mem_of_getElem? hi)]at hj
      simp only[AV.cells]at hj
      rw[List.eq_of_mem_replicate (List.mem_of_getElem? hj)]
      exact .undef _
   |succ m=>
    have:=hR.obj (m+1) o ho
    rw[hcx]at this
    exact this
  ·cases i with
   |zero=>cases j with
    |zero=>rfl
    |succ j=>exact hR.inj 0 (j+1) _ p rfl hj h1 h2 h3
   |succ i=>cases j with
    |zero=>exact hR.inj (i+1) 0 o _ hi rfl h1 h2 h3
    |succ j=>exact hR.inj (i+1) (j+1) o p hi hj h1 h2 h3
  ·refine⟨(hR.res b hb).1,fun ho=>(hR.res b hb).2 ?_⟩
   obtain⟨id,p,hp,r⟩:=ho
   cases id with
   |zero=>exact⟨0,_,rfl,r⟩
   |succ m=>exact⟨m+1,p,hp,r⟩
 have hcall:=hac Z φ w xs hR2 hl (fun i a x hi hxi=>by
  cases i with
  |zero=>
   simp only[List.getElem?_cons_zero,Option.some.injEq]at hi
   subst hi
   have:x= .slice a cap cap∨True:= .inr trivial
   have hx0:xs[0]? =some xs[0]:=by simp[hsz]
   rw[hx0]at hxi
   cases hxi
   rw[hX,←hcx]
   exact .slc _ _ _ _ _ _ h1 (fun x hx=>by cases hx;rfl) (fun hx=>by cases hx) h4 h5 h6
  |succ i=>
   have:=hx (i+1) a x (by simpa using hi) hxi
   rw[hcx]at this
   exact this)
 refine hcall.mono ?_
 rintro e w' ⟨v,φ',he,hst,hv⟩
 have hle:(cx Z φ (some (.rows t sz rs)::H) w).le (cx Z φ' H1 w'):=by rw[hcx];exact hst.le
 have hst2:Step Z φ (some (.rows t sz rs)::H) w φ' H1 w':=⟨hle,hst.os,hst.tape,hst.output,hst.drawn,hst.res,hst.rel⟩
 have hu:VR (cx Z φ' H1 w') (uncap cap r1) v:=by
  unfold uncap
  split
  ·rename_i m d
   split
   ·rename_i e
    subst e
    cases hv with
    |slc _ _ _ _ b cp g1 g2 g3 g4 g5 g6=>
    have hd:cp=cap:=g2 _ rfl
    subst hd
    have hφ:φ' 0=φ 0:=hle.φ 0 (by simp)
    exact .slc _ _ _ _ _ _ g1 (fun x hx=>by cases hx) (fun _=>by show 0+cp=(φ' 0).C;rw[hφ];exact hfull) g4 g5 g6
   ·exact hv
  ·exact hv
 obtain⟨φ2,k1,k2⟩:=hfin Z φ w φ' w' v hR hst2 hu
 exact⟨v,φ2,he,k1,k2⟩
def opsOf:Code→List Oper
 | .region _ ops _=>ops.toList
 | .seq a b=>opsOf a++opsOf b
 | .cond _ a b=>opsOf a++opsOf b
 | .block _ b=>opsOf b
 | .loop b=>opsOf b
 |_=> []
end Go.Am
end
section
namespace Go.Am
open Go
section
variable {P:Program}
theorem step_allocM {Z φ H w}(hR:Rel Z φ H w)(C:Nat)(hC0:C≠0):
  Step Z φ H w (upd φ H.length ⟨w.heap.size,0,C⟩) (H++ [some (.amap [])]) (w.alloc (.map #[] 0)):=by
 have hle:=le_alloc (Z:=Z) (φ:=φ) (H:=H) ⟨w.heap.size,0,C⟩ (.map #[] 0) (some (.amap [])) (fun _=>Nat.le_refl _)
 refine⟨hle,rfl,rfl,rfl,dr_le,fun b hb=>heap_alloc_old _ _ (hR.res b hb).1, ?_, ?_,fun b hb=>⟨by have:=(hR.res b hb).1;simp;omega, ?_⟩⟩
 ·intro id o ho
  rcases get_snoc_cases ho with⟨hi,hq⟩ | ⟨rfl,he⟩
  ·have hlive:=hR.obj id o hq
   exact OR.keep hle hi (fun hC=>heap_alloc_old _ _ (hlive.lt hC)) hlive
  ·injection he with he
   subst he
   refine⟨by simpa using hC0, #[],0,by simpa using heap_alloc_new w (.map #[] 0),rfl,fun i e p h=>by simp at h,fun i j e f h=>by simp at h⟩
 ·intro i j o p hi hj hCi hCj hb
  rcases get_snoc_cases hi with⟨hi',hi⟩ | ⟨rfl,_⟩<;>rcases get_snoc_cases hj with⟨hj',hj⟩ | ⟨rfl,_⟩
  ·rw[upd_ne (by omega)]at hCi hb;rw[upd_ne (by omega)]at hCj hb
   exact hR.inj i j o p hi hj hCi hCj hb
  ·rw[upd_ne (Nat.ne_of_lt hi')]at hCi hb;rw[upd_same]at hb
   have:=(hR.obj i o hi).lt hCi;simp only at hb;omega
  ·rw[upd_ne (Nat.ne_of_lt hj')]at hCj hb;rw[upd_same]at hb
   have:=(hR.obj j p hj).lt hCj;simp only at hb;omega
  ·rfl
 ·rintro⟨id,q,hq,hCq,rfl⟩
  rcases get_snoc_cases hq with⟨hi,hq⟩ | ⟨rfl,_⟩
  ·rw[upd_ne (by omega)]at hCq hb
   exact(hR.res _ hb).2 ⟨id,q,hq,hCq,rfl⟩
  ·rw[upd_same]at hb
   exact absurd (hR.res _ hb).1 (by simp)
theorem x_mkmap {o:Oper}{t:TypeId}{H:AHeap}{k:AV→AHeap→Prop}(ho:o.op= .makeMap t none)(hk:forceS (H++ [some (.amap [])]) fun H'=>k (.map H.length) H'):Stop (ExtP P o [] H k):=⟨by
 rw[forceS_eq]at hk
 intro Z φ w a hR _ next Q hn
 have hst:=step_allocM hR 1 (by decide)
 refine wp_of_runs (v:= .map (some w.heap.size)) (.inl ?_) _ _ (hn _ _ _ _ _ hk hst ?_)
 ·simp only[execOp,ho]
  rfl
 ·have:=VR.map (c:=cx Z (upd φ H.length ⟨w.heap.size,0,1⟩) (H++ [some (.amap [])]) (w.alloc (.map #[] 0))) H.length (by simp)
  simpa using this⟩
def lk {α:Type}(s:ByteArray):List (ByteArray×α)→Nat→Option (Nat×α)
 | [],_=>none
 | (k,v)::l,n=>if s=k then some (n,v)else lk s l (n+1)
theorem lk_find {α:Type}(s:ByteArray)(f:α→AV)(c:Cx):∀ (l:List (ByteArray×α)) (es:List MapEntry) (n:Nat),es.length=l.length→
  (∀ (i:Nat) (e:MapEntry) (p:ByteArray×α),es[i]? =some e→l[i]? =some p→VR c (.str p.1) e.key∧VR c (f p.2) e.val)→
  match lk s l n with
  |none=>Instr.findNow .string (.string s) es n=some none
  |some (i,v)=>∃u,Instr.findNow .string (.string s) es n=some (some (i,u))∧VR c (f v) u∧n≤i∧(l[i-n]?).map (·.1)=some s
 | [],[],n,_,_=>rfl
 | [],_::_,_,h,_=>by simp at h
 |_::_,[],_,h,_=>by simp at h
 | (k,v)::l,e::es,n,h,hr=>by
  have h0:=hr 0 e (k,v) rfl rfl
  have hk:e.key= .string k:=by
   have:=h0.1
   generalize e.key=q at this
   cases this;rfl
  have ih:=lk_find s f c l es (n+1) (by simpa using h) (fun i e' p hi hp=>hr (i+1) e' p (by simpa using hi) (by simpa using hp))
  unfold lk
  by_cases hs:s=k
  ·rw[if_pos hs]
   subst hs
   refine⟨e.val, ?_,h0.2,Nat.le_refl _,by simp⟩
   simp[Instr.findNow,Instr.sameNow,hk,ba_beq]
  ·rw[if_neg hs]
   have hf:Instr.findNow .string (.string s) (e::es) n=Instr.findNow .string (.string s) es (n+1):=by
    simp[Instr.findNow,Instr.sameNow,hk,ba_beq,hs]
   cases hl:lk s l (n+1)with
   |none=>rw[hl]at ih;simp only at ih ⊢;rw[hf];exact ih
   |some q=>
    obtain⟨i,x⟩:=q
    rw[hl]at ih
    simp only at ih⊢
    obtain⟨u,h1,h2,h3,h4⟩:=ih
    refine⟨u,by rw[hf];exact h1,h2,by omega, ?_⟩
    rw[show i-n=(i- (n+1))+1 by omega,List.getElem?_cons_succ]
    exact h4
theorem x_look {α:Type} {o:Oper} {t kt et:TypeId} {X I:Operand} {f:α→AV} {l:List (ByteArray×α)} {s:ByteArray} {id:Nat} {H:AHeap} {z:Value} {zero:AV} {k:AV→AHeap→Prop} (ho:o.op= .lookup t X I false) (hu:P.underlying t=some (.map kt et)) (hkt:P.underlying kt=some .string)
  (hz:∀w,(zeroValue et).run P w= .ok z w) (hzr:∀c,VR c zero z) (hH:H[id]? =some (some (.amap (l.map fun p=>(.str p.1,f p.2)))))
  (hk:match lk s l 0 with
   |some (_,v)=>k (f v) H
   |none=>k zero H):Stop (ExtP P o [.map id, .str s] H k):=⟨by
 intro Z φ w a hR ⟨xs,hxs,hl,hv⟩ next Q hn
 rw[ho]at hxs
 simp only[extOps,Option.some.injEq]at hxs
 subst hxs
 have hx:=hv 0 X _ rfl rfl
 have hy:=hv 1 I _ rfl rfl
 generalize hX:a.eval X=u at hx
 generalize hI:a.eval I=q at hy
 cases hy
 cases hx with
 |map _ hd=>
 obtain⟨hC,ents,clock,hb,hsz,hr,_⟩:=hR.obj id _ hH
 have hf:=lk_find s f (cx Z φ H w) l ents.toList 0 (by simpa using hsz) (fun i e p he hp=>by
  have:=hr i e (.str p.1,f p.2) (by simpa using he) (by rw[List.getElem?_map,hp];rfl)
  exact⟨this.1,this.2.1⟩)
 have hrun:∀r v,Instr.findNow .string (.string s) ents.toList 0=some r→v=(match r with
   |some (_,v)=>v
   |none=>z)→(Instr.lookup t (.map (some (φ id).b)) (.string s) false).run P w= .ok v w:=by
  intro r v hr he
  have h1:(Instr.findKey kt (.string s) ents.toList).run P w= .ok r w:=Go.MapKept.run_findKey hkt hr
  have hb':w.heap[(φ id).b]? =some (.map ents clock):=hb
  unfold Instr.lookup
  simp only[Sem.run_bind,run_underlying hu,Result.andThen_ok]
  have hck:=fun b=>run_ck (P:=P) hkt b s w
  have hg:Sem.run P (Sem.getObj (φ id).b Sem.pure) w= .ok (.map ents clock) w:=by simp[Sem.run,hb']
  cases r with
  |none=>
   simp only at he
   subst he
   simp[getObj,hg,hck,h1,hz,Result.andThen]
  |some q=>
   obtain⟨i,x⟩:=q
   simp only at he
   subst he
   simp[getObj,hg,hck,h1,Result.andThen]
 cases hlk:lk s l 0 with
 |none=>
  rw[hlk]at hf hk
  exact wp_of_runs (.inl (by simp only[execOp,ho,hX,hI,Sem.run_bind,hrun none z hf rfl];rfl)) _ _ (hn _ _ _ _ _ hk (Step.refl hR) (hzr _))
 |some p=>
  obtain⟨i,x⟩:=p
  rw[hlk]at hf hk
  obtain⟨u,h1,h2,_⟩:=hf
  exact wp_of_runs (.inl (by simp only[execOp,ho,hX,hI,Sem.run_bind,hrun _ u h1 rfl];rfl)) _ _ (hn _ _ _ _ _ hk (Step.refl hR) h2)⟩
def ups {α:Type}(s:ByteArray)(v:α)(l:List (ByteArray×α)):List (ByteArray×α):=match lk s l 0 with
 |some (i,_)=>l.set i (s,v)
 |none=>l++ [(s,v)]
def lkD {α:Type}(s:ByteArray)(l:List (ByteArray×α))(z:α):α:=match lk s l 0 with
 |some (_,x)=>x
 |none=>z
theorem x_lookA {α:Type} {o:Oper} {t kt et:TypeId} {X I:Operand} {f:α→AV} {l:List (ByteArray×α)} {s:ByteArray} {id:Nat} {H:AHeap} {z:Value} {z0:α} {k:AV→AHeap→Prop} (v:α) (ho:o.op= .lookup t X I false) (hu:P.underlying t=some (.map kt et)) (hkt:P.underlying kt=some .string)
  (hz:∀w,(zeroValue et).run P w= .ok z w) (hzr:∀c,VR c (f z0) z) (hH:H[id]? =some (some (.amap (l.map fun p=>(.str p.1,f p.2)))))
  (hv:lkD s l z0=v) (hk:k (f v) H):Stop (ExtP P o [.map id, .str s] H k):=by
 refine x_look (f:=f) (l:=l) (zero:=f z0) ho hu hkt hz hzr hH ?_
 unfold lkD at hv
 cases h:lk s l 0 with
 |none=>rw[h]at hv;simp only at hv ⊢;rw[hv];exact hk
 |some p=>obtain⟨i,x⟩:=p;rw[h]at hv;simp only at hv ⊢;rw[hv];exact hk
theorem lkA_map {α:Type}(s:ByteArray)(f:α→AV):∀ (l:List (ByteArray×α)) (n:Nat),lkA s (l.map fun p=>(.str p.1,f p.2)) n=some ((lk s l n).map (·.1))
 | [],n=>rfl
 | (k,v)::l,n=>by
  simp only[List.map_cons,lkA,lk]
  split
  ·rfl
  ·exact lkA_map s f l (n+1)
theorem k_mset {α:Type} {f:α→AV} {l:List (ByteArray×α)} {s:ByteArray} (v:α) {av:AV} {id:Nat} {H:AHeap} {k:AHeap→Prop} (hav:av=f v) (hH:H[id]? =some (some (.amap (l.map fun p=>(.str p.1,f p.2)))))
  (hk:forceS (H.set id (some (.amap ((ups s v l).map fun p=>(.str p.1,f p.2))))) k):OptK (aMapSet H (.map id) (.str s) av) k:=by
 subst hav
 rw[forceS_eq]at hk
 refine k_some ?_ hk
 simp only[aMapSet,hH,lkA_map,Option.map_some]
 unfold ups
 cases h:lk s l 0 with
 |none=>simp
 |some q=>simp[List.map_set]
end
theorem Go'.amapF {n0:Nat}{src:List (Option Nat)}{H:AHeap}{fz:Nat→Prop}{α:Type}{f:α→AV}{l:List (ByteArray×α)}(h:∀a,Bel n0 (f a)):Go' n0 src H fz (.amap (l.map fun p=>(.str p.1,f p.2))) (.amap (l.map fun p=>(.str p.1,f p.2))):= .amap _ _ rfl fun i p q hp hq=>by
 rw[hp]at hq
 cases hq
 obtain⟨⟨s,v⟩,_,rfl⟩:=List.mem_map.1 (List.mem_of_getElem? hp)
 exact⟨.same _ (by simp), .same _ (h v)⟩
end Go.Am
end
section
namespace Go.Am
open Go
theorem autoG {P:Prop} (h:P:=by(repeat'(first
    | (refine Go'.setF (by assumption) (by intro a;simp;done) ?_)
    | (refine Go'.amapF ?_;intro a;simp;done)
    |exact trivial
    |decide
    | (refine Gv.same _ (Bel.mono (Nat.zero_le _) ?_);assumption)
    | (refine Gr.flat _ ?_;assumption)
    | (refine Gr.closed _ ?_ rfl;assumption)
    | (refine Gv.same _ ?_;simp;done)
    | (refine Go'.map ?_;intro a;simp;done)
    | (refine GrO.mapF ?_;intro a;simp;done)
    | (refine GrO.mapC ?_ rfl;intro a;simp;done)
    | (refine Go'.same _ _ _ ?_;simp;done)
    |exact Gv.slc _ _ _ _ _ rfl
    |exact Gv.ptr _ _ _ _ rfl
    |exact Gv.map _ _ rfl
    |exact Or.inl rfl
    | (refine Gv.nil _ rfl ?_;first|decide| (simp;done))
    | (refine Gv.int ?_;first|omega| (simp;done) | (simp;omega))
    |refine Gv.aggL ?_
    |refine Gv.tupleL ?_
    |refine Gv.fnL ?_ ?_
    |refine Go'.rowsL ?_
    |refine Or.inr ?_
    |refine Exists.intro _ (And.intro rfl ?_)
    | (refine Gr.flat _ ?_;simp;done)
    | (refine GrO.flat _ _ _ ?_;simp;done)
    | (refine Gr.closed _ ?_ rfl;simp;done)
    | (refine GrO.closed _ _ _ ?_ rfl;simp;done)
    |exact Gr.slc _ _ _ _ _ rfl
    |exact Gr.ptr _ _ _ _ rfl
    |refine Gr.aggL ?_
    |refine Gr.tupleL ?_
    |refine GrO.rowsL ?_
    | (refine Gv.lstM ?_;intro a;simp;done)
    | (refine Gv.lend ?_ rfl ?_ ?_<;>first|exact fz_zip rfl| (simp;done) |rfl|omega| (intro a;simp;done) | (simp;omega))
    | (refine Gv.slcN rfl ?_;first|omega| (simp;done) | (simp;omega))
    | (refine Gv.frz _ _ _ _ _ _ _ _ ?_ rfl ?_ rfl ?_<;>first|exact fz_zip rfl| (simp;done))
    |exact Gv.nillst _
    | (refine Go'.pre ?_ ?_<;>first|assumption| (intro a;simp;done))
    | (refine Gv.boolE ?_;first|assumption| (symm;assumption) | (simp;done))
    |refine And.intro rfl ?_
    |refine And.intro ?_ ?_))):P:=h
abbrev Lb:=ByteArray×ByteArray
def lb(x:Lb):AV:= .agg [.str x.1, .str x.2]
@[simp] theorem lb_bel (n:Nat) (x:Lb):Bel n (lb x) ↔True:=by simp[lb]
@[simp] theorem lb_flat (x:Lb):Flat (lb x) ↔True:=by simp[lb]
abbrev lbs(l:List Lb):AV:= .lst 2 (l.map lb) none
@[simp high] theorem bel_lstM {α:Type} (n sz:Nat) (f:α→AV) (l:List α) (c:Option Nat):Bel n (.lst sz (l.map f) c) ↔ ∀a∈l,Bel 0 (f a):=by
 rw[bel_lst]
 constructor
 ·intro h a ha;exact h _ (List.mem_map_of_mem ha)
 ·intro h r hr
  obtain⟨a,ha,rfl⟩:=List.mem_map.1 hr
  exact h a ha
abbrev i64(n:Int):AV:= .int .i64 n
structure Rs where
 a:Int
 b:Int
 c:Int
 deriving DecidableEq
abbrev rsA(r:Rs):AV:= .agg [i64 r.a,i64 r.b,i64 r.c]
structure Nd where
 name:ByteArray
 cap:Rs
 labels:List Lb
abbrev nodeA(n:Nd):AV:= .agg [.str n.name,i64 n.cap.a,i64 n.cap.b,i64 n.cap.c,lbs n.labels]
structure Qu where
 name:ByteArray
 quota:Rs
abbrev quA(q:Qu):AV:= .agg [.str q.name,i64 q.quota.a,i64 q.quota.b,i64 q.quota.c]
structure Tk where
 name:ByteArray
 queue:ByteArray
 prio:Int
 need:Rs
 wants:List Lb
 apart:ByteArray
 gang:ByteArray
 size:Int
abbrev tkA(t:Tk):AV:= .agg [.str t.name, .str t.queue,i64 t.prio,i64 t.need.a,i64 t.need.b,i64 t.need.c,lbs t.wants, .str t.apart, .str t.gang,i64 t.size]
structure Op' where
 kind:Int
 node:Nd
 queue:Qu
 task:Tk
 name:ByteArray
abbrev opC(o:Op'):List AV:=[i64 o.kind, .str o.node.name,i64 o.node.cap.a,i64 o.node.cap.b,i64 o.node.cap.c,lbs o.node.labels, .str o.queue.name,i64 o.queue.quota.a,i64 o.queue.quota.b,i64 o.queue.quota.c,
 .str o.task.name, .str o.task.queue,i64 o.task.prio,i64 o.task.need.a,i64 o.task.need.b,i64 o.task.need.c,lbs o.task.wants, .str o.task.apart, .str o.task.gang,i64 o.task.size, .str o.name]
abbrev opA(o:Op'):AV:= .agg (opC o)
structure Ac where
 kind:Int
 task:ByteArray
 node:ByteArray
def acA(a:Ac):AV:= .agg [i64 a.kind, .str a.task, .str a.node]
@[simp] theorem acA_bel (n:Nat) (x:Ac):Bel n (acA x) ↔True:=by simp[acA]
@[simp] theorem acA_flat (x:Ac):Flat (acA x) ↔True:=by simp[acA]
abbrev acs(l:List Ac):AV:= .lst 3 (l.map acA) none
structure An where
 err:Int
 acts:List Ac
abbrev anA(a:An):AV:= .agg [i64 a.err,acs a.acts]
structure Mc where
 node:Nd
 up:Bool
 til:Int
def mcA(m:Mc):AV:= .agg [.str m.node.name,i64 m.node.cap.a,i64 m.node.cap.b,i64 m.node.cap.c,lbs m.node.labels, .bool m.up,i64 m.til]
@[simp] theorem mcA_bel (n:Nat) (x:Mc):Bel n (mcA x) ↔True:=by simp[mcA]
structure Jb where
 task:Tk
 seq:Int
 node:ByteArray
 bound:Int
def jbA(j:Jb):AV:= .agg [.str j.task.name, .str j.task.queue,i64 j.task.prio,i64 j.task.need.a,i64 j.task.need.b,i64 j.task.need.c,lbs j.task.wants, .str j.task.apart, .str j.task.gang,i64 j.task.size,i64 j.seq, .str j.node,i64 j.bound]
@[simp] theorem jbA_bel (n:Nat) (x:Jb):Bel n (jbA x) ↔True:=by simp[jbA]
def quR(q:Qu):AV:=quA q
@[simp] theorem quR_bel (n:Nat) (x:Qu):Bel n (quR x) ↔True:=by simp[quR]
@[simp] theorem quR_flat (x:Qu):Flat (quR x) ↔True:=by simp[quR]
structure St where
 clock:Int
 next:Int
 machines:List Mc
 queues:List Qu
 jobs:List Jb
abbrev stA(s:St):AV:= .agg [i64 s.clock,i64 s.next, .lst 7 (s.machines.map mcA) none, .lst 4 (s.queues.map quR) none, .lst 13 (s.jobs.map jbA) none]
end Go.Am
end
section
open Go Go.Am Go.Proofs
namespace Go.Am
noncomputable abbrev PR:=Tryz.prog
noncomputable abbrev PRfn(i:Nat):Func:=Tryz.prog.funcs[i]!
noncomputable abbrev PRf(i:Nat):Code:=(Tryz.prog.funcs[i]!).body.getD .skip
noncomputable abbrev PRr(i:Nat):List ResultVar:=(Tryz.prog.funcs[i]!).results.toList
noncomputable abbrev exO(f n:Nat):Oper:=(opsOf (PRf f))[n]!
theorem mixed:Tryz.prog.follows .mixedOrders=true:=by kernel_rfl
abbrev O(d:Nat)(op:AOp):GOp:= .op ⟨some d,op,none,[],false⟩
abbrev O'(op:AOp):GOp:= .op ⟨none,op,none,[],false⟩
abbrev AnT:=Nat→Option (List Nat×List Nat)
abbrev Yc:=ACode
abbrev Yg:=List GOp
abbrev oS(l:List GOp):ACode:= .ops false l
abbrev o1(d:Nat)(op:AOp):AOper:=⟨some d,op,none,[],false⟩
abbrev oM(d s:Nat):GOp:=O d (.mov (.t s))
abbrev oF(d k s:Nat):GOp:=O d (.faddr k (.t s))
abbrev oL(d s:Nat):GOp:=O d (.load1 (.t s))
abbrev oK(d s:Nat):GOp:=O d (.nilck (.t s))
abbrev oI(d k s i:Nat):GOp:=O d (.iaddrS k (.t s) (.t i))
abbrev oN(d k s:Nat):GOp:=O d (.loadN k (.t s))
noncomputable abbrev Wk(c:ACode)(rs:List ARes)(e:Ev)(H:AHeap)(r:AV)(H':AHeap):Prop:=awpC PR H.length c (retC rs fun r' Hb=>Stop (Fin H r' Hb r H')) e H
theorem walkA (ann:Nat→Option (List Nat×List Nat)) {f:FuncId} {fn:Func} {c:Code} {ac:ACode} {rs:List ARes} {n:Nat} {args:List AV} {H:AHeap} {r:AV} {H':AHeap} (h:Wk ac rs (mkEv 0 args) H r H')
  (hf:PR.funcs[f]? =some fn:=by kernel_rfl) (hb:fn.body=some c:=by kernel_rfl) (hc:compile PR ann none c=ac:=by kernel_rfl) (hr:fn.results.toList.mapM (resC PR)=some rs:=by kernel_rfl) (hn:fn.ntmps-args.length=n:=by kernel_rfl) (hok:okDst (args.length+n) ac=true:=by kernel_rfl):AC PR f args H r H':=AC_walk mixed ann hf hb hc hr hn hok h
abbrev c6(n:Int):AX:= .c (.int .i64 n)
theorem kA1 {es id n:Nat}{H:AHeap}{k:AV→Prop}{kk:IntKind}{j:Int}{c:Option Nat}(hk:k (.ptr id j.toNat 0))(rs:List AV)(hr:rowsOf es H id=some rs:=by rfl)(h0:0≤j:=by omega)(h1:j<n:=by omega):OptK (aIaddrS es H (.slc id 0 n c) (.int kk j)) k:=k_idx hk rs hr h0 h1
theorem kA2 {es id n:Nat}{c:Option Nat}{H:AHeap}{kk:IntKind}{j:Int}{A:Prop}(hk:A)(rs:List AV)(hr:rowsOf es H id=some rs:=by rfl)(h0:0≤j:=by omega)(h1:j<n:=by omega):aIaddrS es H (.slc id 0 n c) (.int kk j)=some (.ptr id j.toNat 0)∧A:=e_idx hk rs hr h0 h1
theorem kA8 {n:Int}{k:AV→Prop}(hk:k (.int .i64 n))(h: -9223372036854775808≤n∧n≤9223372036854775807:=by omega):WrapK .i64 n k:=w_i64 h hk
theorem kA9 {n0:Nat}{H:AHeap}{e:Ev}{K:Ev→AHeap→Prop}(hk:K e H)(hn:n0≤H.length:=by first|exact Nat.zero_le _| (simp;done) |decide):GcP n0 H e K:=gcp_id hn hk
theorem gmA {α:Type}{f:α→AV}{l:List α}{i:Int}{x:α}(h:l[i.toNat]? =some x:=by assumption):(l.map f)[i.toNat]? =some (f x):=get_map h
structure Hid(Q:Prop):Prop where
 o:Q
theorem tA {P Q:Prop} (q:Q) (h:Hid Q→P:=by
 intro h
 repeat((first|refine And.intro rfl ?_|refine kA1 ?_ _|refine kA2 ?_ _|refine k_row gmA ?_|refine k_cell gmA ?_|refine e_row gmA rfl ?_|refine k_el gmA (by omega) ?_|refine k_some gmA ?_|refine f_set _ rfl ?_|refine kA8 ?_);conv=>whnf)
 exact h.o):P:=h ⟨q⟩
theorem tB {P Q:Prop} (q:Q) (h:Hid Q→P:=by
 intro h
 repeat((first|refine And.intro rfl ?_|refine e_el gmA (by omega) ?_|refine And.intro (by simp;done) ?_);conv=>whnf)
 exact h.o):P:=h ⟨q⟩
theorem tN {P Q:Prop} (q:Q) (h:Hid Q→P:=by
 intro h
 repeat((first|refine kA9 ?_|refine kA8 ?_);conv=>whnf)
 exact h.o):P:=h ⟨q⟩
end Go.Am
end
