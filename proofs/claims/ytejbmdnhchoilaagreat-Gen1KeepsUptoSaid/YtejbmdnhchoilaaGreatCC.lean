/- Part of the proof: the code of the functions that the law reaches, as the machine has it. No conditions. -/
import Derived.Test.YtejbmdnhchoilaaGreatM22
set_option maxRecDepth 100000
section
open Go Go.Am Go.Proofs
namespace Go.Am
abbrev Cd(a:AnT)(i:Nat):= {c:ACode // compile PR a none (PRf i)=c}
abbrev an0:AnT:=fun _=>none
theorem cdU(n:Nat)(h:n<2 ^ 8):UInt8.ofBitVec (BitVec.ofFin ⟨n,h⟩)=UInt8.ofNat n:=by
 apply UInt8.toNat.inj
 simp
 omega
theorem cdA(l:List UInt8):Array.mk l=l.toArray:=rfl
abbrev cdR {a:AnT}{i:Nat}{c:ACode}(h:compile PR a none (PRf i)=c:=by conv=> {lhs;reduce;try simp only[Int.reduceOfNat,Int.reduceNegSucc,cdU,UInt8.reduceOfNat,cdA]}):Cd a i:=⟨c,h⟩
abbrev cdV {a:AnT}{i:Nat}{c:ACode}(h:compile PR a none (PRf i)=c:=by conv=> {lhs;cbv}):Cd a i:=⟨c,h⟩
def tlN:Nat→ACode→ACode
 |0,c=>c
 |n+1, .seq _ b=>tlN n b
 |_,c=>c
theorem walkB {f:Nat} {ann:AnT} {ac:ACode} {rs:List ARes} {args:List AV} {H:AHeap} {r:AV} {H':AHeap} (hc:compile PR ann none (PRf f)=ac) (h:Wk ac rs (mkEv 0 args) H r H')
  (hf:PR.funcs[f]? =some (PRfn f):=by kernel_rfl) (hb:(PRfn f).body=some (PRf f):=by kernel_rfl) (hr:(PRfn f).results.toList.mapM (resC PR)=some rs:=by kernel_rfl) (hok:okDst (args.length+ ((PRfn f).ntmps-args.length)) ac=true:=by kernel_rfl):AC PR f args H r H':=AC_walk mixed ann hf hb hc hr rfl hok h
end Go.Am
end
