/- Part of the proof: plain data, the machine and its soundness. No conditions. -/
import Derived.Below
import Derived.ChangeOld
import Derived.Deep.Slices
import Derived.Laws.IdiomArrays
import Derived.OpenShut
import Derived.ProofKit
import Derived.ShutString
import Derived.Test.YtejbmdnhchoilaaGreatM19
set_option linter.unusedVariables false
set_option linter.unusedSimpArgs false
set_option maxRecDepth 100000
section
namespace Go.Am
open Go Go.ChangeShapes Go.WideShapes Go.ChangeAt Go.RowKit
def isRowE(P:Program)(e:TypeId):Bool:=
 match P.underlying e with
 |some (.struct _) |some (.array _ _)=>true
 |_=>false
def mkRow(ag:Bool)(cs:List AV):AV:=
 match ag with
 |true=> .agg cs
 |false=>cs.headD .undef
def laidB(P:Program):List Field→Nat→Option Nat
 | [],o=>some o
 |f::fs,o=>if f.offset=o then laidB P fs (o+P.cellsOf f.type)else none
def tyOK(P:Program):Nat→TypeId→Bool
 |0,_=>false
 |k+1,t=>
  match P.underlying t with
  |some .bool|some (.int _) |some .string=>true
  |some (.slice e)=>decide (0<P.cellsOf e) &&tyOK P k e&& (isRowE P e||P.cellsOf e == 1)
  |some (.struct fs)=>decide (laidB P fs.toList 0=some (P.cellsOf t)) &&fs.toList.all fun f=>tyOK P k f.type
  |some (.array n e)=>decide (n*P.cellsOf e=P.cellsOf t) &&tyOK P k e
  |_=>false
section
variable {P:Program} {k:Nat} {t:TypeId} {cs:List AV}
end
section
variable {P:Program} {H:Type} {enc:TypeId×Value→H} {w:World} {base:Nat} {spare:Nat→Bool} {held:Bool} {φ:Nat→Loc}
abbrev c0(φ:Nat→Loc)(w:World):Cx:=cx (fun _=>False) φ [] w
theorem c0_own(φ:Nat→Loc)(w:World)(b:Nat):¬ (c0 φ w).own b:=by
 rintro(⟨id,o,h,_⟩ |h)
 ·simp at h
 ·exact h
theorem mkRow_cells {ag:Bool}{cs:List AV}{n:Nat}(hn:cs.length=n)(h:ag=true∨n=1)(hc:∀a∈cs,a.isCell=true):(mkRow ag cs).cells=cs:=by
 cases ag
 ·rcases h with h|h
  ·cases h
  ·subst h
   obtain⟨a,rfl⟩:=List.length_eq_one_iff.1 hn
   have:=hc a (by simp)
   simp only[mkRow,List.headD_cons]
   cases a<;>simp[AV.isCell]at this<;>rfl
 ·rfl
theorem choose_lt' {α:Type}(d:α){n:Nat}{p:Nat→α→Prop}(h:∀i,i<n→∃x,p i x):∃V:Nat→α,∀i,i<n→p i (V i):=by
 classical
 refine⟨fun i=>if h':i<n then Classical.choose (h i h')else d,fun i hi=> ?_⟩
 simp only[dif_pos hi]
 exact Classical.choose_spec (h i hi)
theorem choose_map {α β:Type}{f:α→β}:∀ {rows:List β},(∀r∈rows,∃a,r=f a)→∃l:List α,rows=l.map f
 | [],_=>⟨[],rfl⟩
 |r::rows,h=>by
  obtain⟨a,rfl⟩:=h r (by simp)
  obtain⟨l,rfl⟩:=choose_map (rows:=rows) fun q hq=>h q (by simp[hq])
  exact⟨a::l,rfl⟩
theorem law_call {f:FuncId}{args:List AV}(h:AC P f args [] (.bool true) []){xs:Array Value}(hlen:args.length=xs.size)(hx:∀φ (i:Nat) a x,args[i]? =some a→xs[i]? =some x→VR (c0 φ w) a x):
  Calls P f xs w fun e w'=>e= .returned (.bool true)∧Below w.heap.size w w':=by
 have hR:Rel (fun _=>False) (fun _=>⟨0,0,0⟩) [] w:=⟨fun id o h=>by simp at h,fun i j o p h=>by simp at h,fun b h=>h.elim⟩
 refine(h _ _ w xs hR hlen (hx _)).mono fun e w' ⟨v,φ',he,hs,hv⟩=> ?_
 cases hv
 exact⟨he,⟨hs.os,hs.tape,hs.output,hs.le.sz,fun b hb=>hs.le.blk b hb (c0_own _ w b)⟩⟩
end
end Go.Am
end
section
namespace Go.Am
open Go
theorem AC.of_calls {P:Program} {f:FuncId} {args:List AV} {r:AV} {v:Value} (xs:Array Value) (hf:∀ (c:Cx) (ys:Array Value),args.length=ys.size→(∀ (i:Nat) a x,args[i]? =some a→ys[i]? =some x→VR c a x)→ys=xs)
  (hr:∀c:Cx,VR c r v) (hc:∀w:World,Calls P f xs w fun e w'=>e= .returned v∧Go.RowKit.Below w.heap.size w w'∧w.drawn≤w'.drawn):AC P f args [] r []:=by
 intro Z φ w ys hR hl hx
 obtain rfl:=hf _ ys hl hx
 refine(hc w).mono fun e w' ⟨he,hb,hdr⟩=>⟨v,φ,he,⟨⟨fun _ h=>h,fun _ _=>rfl,hb.size,fun _ _ h=>h,fun b hlt _=>hb.block b hlt⟩,hb.os,hb.tape,hb.output,hdr,fun b hz=>hb.block b (hR.res b hz).1,⟨fun id o h=>by simp at h,fun i j o p h=>by simp at h,fun b hz=>⟨Nat.lt_of_lt_of_le (hR.res b hz).1 hb.size,(hR.res b hz).2⟩⟩⟩,hr _⟩
theorem e_el {es:Nat}{c:Option Nat}{H:AHeap}{kk:IntKind}{j:Int}{rows:List AV}{r:AV}{A:Prop}(hr:rows[j.toNat]? =some r)(h0:0≤j)(hk:A):aIaddrS es H (.lst es rows c) (.int kk j)=some (.eptr r 0)∧A:=by
 refine⟨?_,hk⟩
 simp only[aIaddrS,hr,h0,and_self,if_true,Option.map_some]
theorem loop_un {P:Program}{n0:Nat}{b:ACode}{Q:AExit→Ev→AHeap→Prop}{e:Ev}{H:AHeap}(n:Nat)(h:aloop (awpC P n0 b) Q n e H):Stop (LoopP P (awpC P n0 b) Q e H):=⟨⟨n,h⟩⟩
end Go.Am
end
