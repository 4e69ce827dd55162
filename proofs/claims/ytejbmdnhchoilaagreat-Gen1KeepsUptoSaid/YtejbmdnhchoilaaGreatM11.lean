/- Part of the proof: plain data, the machine and its soundness. No conditions. -/
import Derived.Test.YtejbmdnhchoilaaGreatM10
set_option linter.unusedVariables false
set_option linter.unusedSimpArgs false
set_option maxRecDepth 100000
section
namespace Go.Am
open Go
section
variable {P:Program}
def guardC(ops:Array Oper)(g:Option (Nat×Bool)):Option (Option (Nat×Bool)):=
 match g with
 |none=>some none
 |some (j,want)=>((ops[j]?).bind (·.dst)).map fun t=>some (t,want)
def compileOper(P:Program)(ops:Array Oper)(o:Oper):Option AOper:=(compileOp P o).bind fun op=>(guardC ops o.guard).map fun g=> {dst:=o.dst,op,guard:=g}
def compileOperX(P:Program)(ops:Array Oper)(o:Oper):Option AOper:=(compileOpX P o).bind fun op=>(guardC ops o.guard).map fun g=> {dst:=o.dst,op,guard:=g}
def Stand(Z:Nat→Prop)(φ0:Nat→Loc)(H0:AHeap)(w0:World)(st:List AV)(H:AHeap)(a:Act)(w:World):Prop:=
 ∃φ,Step Z φ0 H0 w0 φ H w∧TR2 (cx Z φ H w) st a.tmps∧a.defers=[]
theorem guard_eval {c:Cx}{st:List AV}{a:Act}(hst:TR2 c st a.tmps){ops:Array Oper}{o:Oper}{g:Option (Nat×Bool)}(h:guardC ops o.guard=some g){A B:Prop}(hg:aGuard g st A B):
  (Region.wanted o (yielded ops a.tmps)=true∧A)∨(Region.wanted o (yielded ops a.tmps)=false∧B):=by
 unfold guardC at h
 split at h
 ·rename_i he
  cases h
  exact .inl ⟨by simp[Region.wanted,he],hg⟩
 ·rename_i j want he
  simp only[Option.map_eq_some_iff]at h
  obtain⟨t,ht,rfl⟩:=h
  simp only[aGuard,GuardK]at hg
  have htr:=hst.tr t
  split at hg
  ·rename_i b hb
   rw[hb]at htr
   have hb':a.tmps.getD t undef= .bool b:=by generalize a.tmps.getD t undef=q at htr;cases htr;rfl
   have hsome:a.tmps[t]? =some (.bool b):=by
    rw[Array.getD_eq_getD_getElem?]at hb'
    cases hq:a.tmps[t]? with
    |none=>rw[hq]at hb';simp[undef]at hb'
    |some q=>rw[hq]at hb';simp at hb';rw[hb']
   have hy:yielded ops a.tmps j=some b:=by simp[yielded,ht,hsome]
   cases b<;>cases want<;>simp only at hg
   ·exact .inl ⟨by simp[Region.wanted,he,hy],hg⟩
   ·exact .inr ⟨by simp[Region.wanted,he,hy],hg⟩
   ·exact .inr ⟨by simp[Region.wanted,he,hy],hg⟩
   ·exact .inl ⟨by simp[Region.wanted,he,hy],hg⟩
  ·rename_i hb
   rw[hb]at htr
   refine .inr ⟨?_,hg⟩
   have hb':∀b,a.tmps.getD t undef≠ .bool b:=fun b hc=>by rw[hc]at htr;cases htr
   have hy:yielded ops a.tmps j=none:=by
    simp only[yielded,ht,Option.bind_some]
    cases hq:a.tmps[t]? with
    |none=>rfl
    |some q=>
     cases q<;>try rfl
     rename_i b
     exact absurd (by rw[Array.getD_eq_getD_getElem?,hq];rfl) (hb' b)
   simp[Region.wanted,he,hy]
  ·exact hg.elim
theorem ops_sound {ops:Array Oper} {Z:Nat→Prop} {φ0:Nat→Loc} {H0:AHeap} {w0:World} {Q:Exit→Act→World→Prop} {K:List AV→AHeap→Prop}
  (hK:∀st H a w,K st H→Stand Z φ0 H0 w0 st H a w→Q .normal a w):∀ (l:List Oper) (al:List AOper) (k:Nat) (st:List AV) (H:AHeap) (a:Act) (w:World),ops.toList.drop k=l→l.mapM (compileOperX P ops)=some al→
   awpOps P al K st H→Stand Z φ0 H0 w0 st H a w→wpOps P ops Q (List.range' k l.length) a w
 | [],al,k,st,H,a,w,_,hal,h,hs=>by
  simp at hal;subst hal
  exact hK st H a w h hs
 |o::l,al,k,st,H,a,w,hl,hal,h,hs=>by
  rw[List.mapM_cons]at hal
  cases ho:compileOperX P ops o with
  |none=>simp[ho]at hal
  |some ao=>
   cases hr:l.mapM (compileOperX P ops)with
   |none=>simp[ho,hr]at hal
   |some al'=>
    simp[ho,hr]at hal
    subst hal
    have hlt:k<ops.size:=by
     have:(ops.toList.drop k).length≠0:=by rw[hl];simp
     simp at this;omega
    have hk:ops[k]? =some o:=by
     have:=congrArg (·[0]?) hl
     simpa using this
    have hdrop:ops.toList.drop (k+1)=l:=by
     have:=congrArg (List.drop 1) hl
     simpa[List.drop_drop,Nat.add_comm]using this
    simp only[List.length_cons,List.range'_succ,wpOps,hk]
    unfold compileOperX at ho
    simp only[Option.bind_eq_some_iff,Option.map_eq_some_iff]at ho
    obtain⟨op,hop,g,hg,rfl⟩:=ho
    obtain⟨φ,h1,h2,h3⟩:=hs
    simp only[awpOps]at h
    rcases guard_eval h2 hg h with⟨hw,h⟩ | ⟨hw,h⟩
    ·rw[if_pos hw]
     refine .inl (arun_soundX hop h1.rel h2 (belK_k h) fun v H' u φ' w' hk hstep hv=> ?_)
     exact ops_sound hK l al' (k+1) _ H' _ w' hdrop hr (rcsK_k (lenK_k hk)) ⟨φ',h1.trans hstep,(h2.mono hstep.le).put hv o.dst,by rw[put_defers];exact h3⟩
    ·rw[if_neg (by simp[hw])]
     exact ops_sound hK l al' (k+1) _ H _ w hdrop hr h ⟨φ,h1,h2.put (.tuple _ _ rfl fun i a x h=>by simp at h) o.dst,by rw[put_defers];exact h3⟩
theorem region_sound {ops:Array Oper} {Z:Nat→Prop} {φ0:Nat→Loc} {H0:AHeap} {w0:World} {Q:Exit→Act→World→Prop} {K:List AV→AHeap→Prop} (hK:∀st H a w,K st H→Stand Z φ0 H0 w0 st H a w→Q .normal a w)
  {al:List AOper} (hal:ops.toList.mapM (compileOperX P ops)=some al) {id:Nat} {st:List AV} {H:AHeap} {a:Act} {w:World} (h:awpOps P al K st H) (hs:Stand Z φ0 H0 w0 st H a w):(Code.region id ops false).wp P Q a w:=by
 refine wp_region ?_
 have:=ops_sound hK ops.toList al 0 st H a w (by simp) hal h hs
 rwa [Array.length_toList,←List.range_eq_range']at this
end
end Go.Am
end
