/- Part of the proof: plain data, the machine and its soundness. No conditions. -/
import Derived.ChangeKeysEq
import Derived.Laws.Strings
import Derived.Test.YtejbmdnhchoilaaGreatM02
set_option linter.unusedVariables false
set_option linter.unusedSimpArgs false
set_option maxRecDepth 100000
section
namespace Go.Am
open Go
section
variable {P:Program}
theorem toList_inj(a b:ByteArray):(a.toList == b.toList)=decide (a=b):=by
 by_cases h:a=b
 ·subst h;simp
 ·have:a.toList≠b.toList:=fun e=>h (by
   have:=ByteArray.ext_iff (x:=a) (y:=b)
   rw[this]
   have h1:a.data.toList=b.data.toList:=by simpa[ByteArray.toList_eq]using e
   exact Array.ext' h1)
  simp[h,this]
theorem bin_sound {c:Cx}{op:BinOp}{x y r:AV}{u v:Value}(hx:VR c x u)(hy:VR c y v)(h:aBin op x y=some r)(t:TypeId)(w:World):
  ∃z,(binOp op t u v).run P w= .ok z w∧VR c r z:=by
 cases x<;>cases y<;>simp only[aBin]at h<;>try cases h
 ·rename_i k a k' b
  cases hx;cases hy
  cases op<;>simp only at h<;>(try cases h)<;>(split at h<;>try cases h)<;>rename_i hc
  case add.isTrue.refl=>subst hc;exact⟨_,by simp[binOp,Op.intArith], .int _ _⟩
  case sub.isTrue.refl=>subst hc;exact⟨_,by simp[binOp,Op.intArith], .int _ _⟩
  case mul.isTrue.refl=>subst hc;exact⟨_,by simp[binOp,Op.intArith], .int _ _⟩
  case quo.isTrue.refl=>obtain⟨rfl,hb⟩:=hc;exact⟨_,by simp[binOp,Op.intDiv,hb], .int _ _⟩
  case rem.isTrue.refl=>obtain⟨rfl,hb⟩:=hc;exact⟨_,by simp[binOp,Op.intDiv,hb], .int _ _⟩
  case and.isTrue.refl=>subst hc;exact⟨_,by simp[binOp,Op.intBits], .int _ _⟩
  case or.isTrue.refl=>subst hc;exact⟨_,by simp[binOp,Op.intBits], .int _ _⟩
  case xor.isTrue.refl=>subst hc;exact⟨_,by simp[binOp,Op.intBits], .int _ _⟩
  case shl.isTrue.refl=>exact⟨_,by simp only[binOp,Op.shift];rw[if_neg (by omega)];rfl, .int _ _⟩
  case shr.isTrue.refl=>exact⟨_,by simp only[binOp,Op.shift];rw[if_neg (by omega)];rfl, .int _ _⟩
  case eql.isTrue.refl=>subst hc;exact⟨_,by simp[binOp,Op.intCmp];rfl, .bool _⟩
  case neq.isTrue.refl=>subst hc;exact⟨_,by simp[binOp,Op.intCmp];rfl, .bool _⟩
  case lss.isTrue.refl=>subst hc;exact⟨_,by simp[binOp,Op.intCmp], .bool _⟩
  case leq.isTrue.refl=>subst hc;exact⟨_,by simp[binOp,Op.intCmp], .bool _⟩
  case gtr.isTrue.refl=>subst hc;exact⟨_,by simp[binOp,Op.intCmp], .bool _⟩
  case geq.isTrue.refl=>subst hc;exact⟨_,by simp[binOp,Op.intCmp], .bool _⟩
 ·rename_i a b
  cases hx;cases hy
  cases op<;>simp only at h<;>(try cases h)
  case add=>
   split at h
   ·rename_i hc;cases h
    exact⟨_,by simp only[binOp,Op.stringOp];rw[if_neg (by simp[IntKind.max,IntKind.bits,IntKind.signed];omega)];rfl, .str _⟩
   ·cases h
  case eql.refl=>exact⟨_,by simp only[binOp,Op.stringOp,toList_inj];rfl, .bool _⟩
  case neq.refl=>exact⟨_,by simp only[binOp,Op.stringOp,toList_inj];rfl, .bool _⟩
  case lss.refl=>exact⟨_,by simp only[binOp,Op.stringOp];rfl, .bool _⟩
  case leq.refl=>exact⟨_,by simp only[binOp,Op.stringOp,toList_inj];rfl, .bool _⟩
  case gtr.refl=>exact⟨_,by simp only[binOp,Op.stringOp,toList_inj];rfl, .bool _⟩
  case geq.refl=>exact⟨_,by simp only[binOp,Op.stringOp];rfl, .bool _⟩
theorem bin_guard {c:Cx}{op:BinOp}{x y r:AV}{u v:Value}(hx:VR c x u)(hy:VR c y v)(h:aBin op x y=some r)(t:TypeId)(p q:Operand)(w:World):
  (eqGuard op t p q u v).run P w= .ok () w:=by
 cases x<;>cases y<;>simp only[aBin]at h<;>try cases h
 ·cases hx;cases hy;simp[eqGuard]
 ·cases hx;cases hy;simp[eqGuard]
theorem run_nil_pointer(d:Nat)(w:World)(t e:TypeId)(hu:P.underlying t=some (.pointer e))(a b:Option Addr)(h:a=none∨b=none):
  (Op.equalIn (d+1) t (.pointer a) (.pointer b)).run P w= .ok (a.isNone&&b.isNone) w:=by
 rcases h with rfl|rfl
 ·simp[Op.equalIn,run_underlying hu]
 ·cases a<;>simp[Op.equalIn,run_underlying hu]
theorem run_nil_slice(d:Nat)(w:World)(t e:TypeId)(hu:P.underlying t=some (.slice e))(a b:Option Addr)(n c m k:Nat)(h:a=none∨b=none):
  (Op.equalIn (d+1) t (.slice a n c) (.slice b m k)).run P w= .ok (a.isNone&&b.isNone) w:=by
 rcases h with rfl|rfl
 ·simp[Op.equalIn,run_underlying hu]
 ·cases a<;>simp[Op.equalIn,run_underlying hu]
theorem run_nil_map(d:Nat)(w:World)(t e f:TypeId)(hu:P.underlying t=some (.map e f))(a b:Option Nat)(h:a=none∨b=none):
  (Op.equalIn (d+1) t (.map a) (.map b)).run P w= .ok (a.isNone&&b.isNone) w:=by
 rcases h with rfl|rfl
 ·simp[Op.equalIn,run_underlying hu]
 ·cases a<;>simp[Op.equalIn,run_underlying hu]
def funcNil:Value→Bool
 | .nilFunc=>true
 |_=>false
def isFn:Value→Bool
 | .nilFunc| .func _ _ _=>true
 |_=>false
theorem run_nil_func(d:Nat)(w:World)(t:TypeId)(as rs:Array TypeId)(vd:Bool)(hu:P.underlying t=some (.func as rs vd))(a b:Value)(ha:isFn a=true)(hb:isFn b=true)(h:funcNil a=true∨funcNil b=true):
  (Op.equalIn (d+1) t a b).run P w= .ok (funcNil a&&funcNil b) w:=by
 cases a<;>cases b<;>simp[isFn,funcNil]at ha hb h⊢ <;>simp[Op.equalIn,run_underlying hu]
theorem eql_of {t:TypeId} {u v:Value} {e:Bool} {w:World} {op:BinOp} {neg:Bool} (hop:cEq op=some neg) (h:(Op.equalIn 10000 t u v).run P w= .ok e w)
  (hi:∀op,binOp op t u v=match op with
   | .eql=>do pure (.bool (←Op.equal t u v))
   | .neq=>do pure (.bool (!(←Op.equal t u v)))
   |_=>binOp op t u v):(binOp op t u v).run P w= .ok (.bool (if neg then !e else e)) w:=by
 have h':(Op.equal t u v).run P w= .ok e w:=h
 cases op<;>simp only[cEq]at hop<;>try cases hop
 ·rw[hi];simp[h']
 ·rw[hi];simp[h']
theorem eqNil_sound {c:Cx} {op:BinOp} {kd:NK} {neg:Bool} {x y:AV} {b:Bool} {u v:Value} (hop:cEq op=some neg) (hx:VR c x u) (hy:VR c y v) (h:aEqNil kd x y=some b) {t:TypeId} {d:TypeDesc} (hu:P.underlying t=some d) (hd:nilKind d=some kd)
  (p q:Operand) (w:World):(eqGuard op t p q u v).run P w= .ok () w∧(binOp op t u v).run P w= .ok (.bool (if neg then !b else b)) w:=by
 have key:(Op.equalIn 10000 t u v).run P w= .ok b w∧((∃a c,u= .pointer a∧v= .pointer c)∨(∃a n c b m k,u= .slice a n c∧v= .slice b m k)∨(∃a c,u= .map a∧v= .map c)∨(isFn u=true∧isFn v=true)):=by
  cases d<;>simp only[nilKind]at hd<;>cases hd
  ·cases x<;>cases y<;>simp only[aEqNil]at h<;>(try cases h)<;>cases hx<;>cases hy<;>
    exact⟨by exact run_nil_pointer (P:=P) 9999 w t _ hu _ _ (by simp), .inl ⟨_,_,rfl,rfl⟩⟩
  ·cases x<;>cases y<;>simp only[aEqNil]at h<;>(try cases h)
   ·cases hx;cases hy
    exact⟨by exact run_nil_slice (P:=P) 9999 w t _ hu none none 0 0 0 0 (by simp), .inr (.inl ⟨_,_,_,_,_,_,rfl,rfl⟩)⟩
   ·rename_i id i n cp
    cases n with
    |zero=>simp at h
    |succ n=>
     simp at h;subst h
     cases hx
     cases hy with|slc _ _ _ _ a cap hid hcp hf hi hm ha=>
     obtain⟨a,rfl⟩:∃a0,a=some a0:=⟨_,ha (by omega)⟩
     exact⟨by exact run_nil_slice (P:=P) 9999 w t _ hu none (some a) 0 0 (n+1) cap (by simp), .inr (.inl ⟨_,_,_,_,_,_,rfl,rfl⟩)⟩
   ·rename_i sz rows cp
    cases rows with
    |nil=>simp at h
    |cons r rs=>
     simp at h;subst h
     cases hx;cases hy
     exact⟨by exact run_nil_slice (P:=P) 9999 w t _ hu none _ 0 0 _ _ (by simp), .inr (.inl ⟨_,_,_,_,_,_,rfl,rfl⟩)⟩
   ·rename_i id i n cp
    cases n with
    |zero=>simp at h
    |succ n=>
     simp at h;subst h
     cases hy
     cases hx with|slc _ _ _ _ a cap hid hcp hf hi hm ha=>
     obtain⟨a,rfl⟩:∃a0,a=some a0:=⟨_,ha (by omega)⟩
     exact⟨by exact run_nil_slice (P:=P) 9999 w t _ hu (some a) none (n+1) cap 0 0 (by simp), .inr (.inl ⟨_,_,_,_,_,_,rfl,rfl⟩)⟩
   ·rename_i sz rows cp
    cases rows with
    |nil=>simp at h
    |cons r rs=>
     simp at h;subst h
     cases hx;cases hy
     exact⟨by exact run_nil_slice (P:=P) 9999 w t _ hu _ none _ _ 0 0 (by simp), .inr (.inl ⟨_,_,_,_,_,_,rfl,rfl⟩)⟩
  ·cases x<;>cases y<;>simp only[aEqNil]at h<;>(try cases h)<;>cases hx<;>cases hy<;>
    exact⟨by exact run_nil_map (P:=P) 9999 w t _ _ hu _ _ (by simp), .inr (.inr (.inl ⟨_,_,rfl,rfl⟩))⟩
  ·cases x<;>cases y<;>simp only[aEqNil]at h<;>(try cases h)<;>cases hx<;>cases hy<;>
    exact⟨by exact run_nil_func (P:=P) 9999 w t _ _ _ hu _ _ rfl rfl (by simp[funcNil]), .inr (.inr (.inr ⟨rfl,rfl⟩))⟩
 obtain⟨h1,h2⟩:=key
 refine⟨?_,eql_of hop h1 fun op=> ?_⟩
 ·rcases h2 with⟨a,c,rfl,rfl⟩ | ⟨a,n,c,b,m,k,rfl,rfl⟩ | ⟨a,c,rfl,rfl⟩ | ⟨h1,h2⟩
  ·simp[eqGuard]
  ·simp[eqGuard]
  ·simp[eqGuard]
  ·cases u<;>cases v<;>simp[isFn]at h1 h2<;>simp[eqGuard]
 ·rcases h2 with⟨a,c,rfl,rfl⟩ | ⟨a,n,c,b,m,k,rfl,rfl⟩ | ⟨a,c,rfl,rfl⟩ | ⟨h1,h2⟩
  ·cases op<;>rfl
  ·cases op<;>rfl
  ·cases op<;>rfl
  ·cases u<;>cases v<;>simp[isFn]at h1 h2<;>cases op<;>rfl
theorem nilS_sound {c:Cx} {op:BinOp} {neg:Bool} {x y:AV} {u v:Value} (hop:cEq op=some neg) (hx:VR c x u) (hy:VR c y v) (h:nilAmb x y=true) {t:TypeId} {d:TypeDesc} (hu:P.underlying t=some d) (hd:nilKind d=some .slc)
  (p q:Operand) (w:World):∃b,(eqGuard op t p q u v).run P w= .ok () w∧(binOp op t u v).run P w= .ok (.bool (if neg then !b else b)) w:=by
 have fin:∀ (a b:Option Addr) (n c m k:Nat),u= .slice a n c→v= .slice b m k→a=none∨b=none→∃b,(eqGuard op t p q u v).run P w= .ok () w∧(binOp op t u v).run P w= .ok (.bool (if neg then !b else b)) w:=by
  rintro a b n c m k rfl rfl hab
  have hsl:∃e,d= .slice e:=by cases d<;>simp[nilKind]at hd;exact⟨_,rfl⟩
  obtain⟨e,rfl⟩:=hsl
  refine⟨_,by simp[eqGuard],eql_of hop (run_nil_slice (P:=P) 9999 w t _ hu a b n c m k hab) fun op=> ?_⟩
  cases op<;>rfl
 cases x<;>cases y<;>simp[nilAmb]at h
 ·cases hx;cases hy;exact fin _ _ _ _ _ _ rfl rfl (.inl rfl)
 ·cases hx;cases hy<;>exact fin _ _ _ _ _ _ rfl rfl (.inl rfl)
 ·cases hx;cases hy;exact fin _ _ _ _ _ _ rfl rfl (.inr rfl)
 ·cases hy;cases hx<;>exact fin _ _ _ _ _ _ rfl rfl (.inr rfl)
theorem faddr_sound {c:Cx}{off:Nat}{x r:AV}{u:Value}(hx:VR c x u)(h:aFaddr off x=some r):∃a:Addr,u= .pointer (some a)∧a.spot=none∧VR c r (.pointer (some (a.add off))):=by
 cases x<;>simp only[aFaddr]at h<;>cases h
 ·cases hx
  rename_i id i k hid hC
  refine⟨_,rfl,rfl, ?_⟩
  rw[Addr.add_mid,Nat.add_assoc]
  exact .ptr _ _ _ hid hC
 ·cases hx
  rename_i row k b o arr t fr ho hb h1 hcl hs hr
  refine⟨_,rfl,rfl, ?_⟩
  rw[Addr.add_mid,Nat.add_assoc]
  exact .eptr _ _ _ _ _ _ _ ho hb h1 hcl hs hr
theorem part_sound {c:Cx} {ag:Bool} {cs:List AV} {xs:Array Value} {off s:Nat} {r:AV} (hl:cs.length=xs.size) (hx:∀ (i:Nat) (a:AV) (x:Value),cs[i]? =some a→xs[i]? =some x→VR c a x) (h:partV ag cs off s=some r)
  {t:TypeId} (hb:isRowT P t=some ag) (hs:szT P t=some s) (w:World):∃z,(part t xs off).run P w= .ok z w∧VR c r z:=by
 cases ag
 ·simp only[partV,Bool.false_eq_true,if_false]at h
  have hlt:=(List.getElem?_eq_some_iff.1 h).1
  refine⟨xs[off], ?_,hx off r _ h (by simp)⟩
  simp[part,run_isAgg hb,hl▸hlt]
 ·simp only[partV,if_true]at h
  split at h
  ·rename_i hle
   simp at h;subst h
   refine⟨.agg (xs.extract off (off+s)),by simp[part,run_isAgg hb,run_sizeOf hs], .agg _ _ (by simp;omega) fun i a x ha hv=> ?_⟩
   rw[List.getElem?_take]at ha
   rw[Array.getElem?_extract]at hv
   split at ha
   ·rw[List.getElem?_drop]at ha
    split at hv
    ·exact hx _ a x ha hv
    ·cases hv
   ·cases ha
  ·cases h
theorem un_sound {c:Cx}{op:UnOp}{x r:AV}{u:Value}(hx:VR c x u)(h:aUn op x=some r)(w:World):∃z,(Op.unary op u).run P w= .ok z w∧VR c r z:=by
 cases x<;>simp only[aUn]at h<;>(try cases h)<;>cases hx<;>cases op<;>simp only at h<;>cases h
 ·exact⟨_,rfl, .bool _⟩
 ·exact⟨_,rfl, .int _ _⟩
theorem iaddrA_sound {c:Cx}{len es:Nat}{x i r:AV}{u v:Value}(hx:VR c x u)(hi:VR c i v)(h:aIaddrA len es x i=some r){t e:TypeId}(hu:P.underlying t=some (.array len e))(hs:szT P e=some es)(w:World):
  ∃z,(Instr.indexAt t u v).run P w= .ok z w∧VR c r z:=by
 cases i<;>simp only[aIaddrA]at h<;>try cases h
 rename_i k j
 cases hi
 split at h
 ·rename_i hj
  obtain⟨a,rfl,ha,hr⟩:=faddr_sound hx h
  refine⟨_, ?_,hr⟩
  simp[Instr.indexAt,asIntOf,run_underlying hu,Instr.sureAddr,hj,run_sizeOf hs]
 ·cases h
theorem cells_lst {c:Cx} {row:AV} {b o:Nat} {arr:Array Value} (hr:∀ (j:Nat) (x:AV) (v:Value),row.cells[j]? =some x→arr[o+j]? =some v→VR c x v) {t fr} (ho:¬c.own b) (hb:c.w.heap[b]? =some (.cells arr t fr)) (h1:∀ (j:Nat) (v:Value),j<row.cells.length→arr[o+j]? =some v→v.oneCell'=true) (hcl:Bel 0 row)
  (hs:o+row.cells.length≤arr.size):VR c (.eptr row 0) (.pointer (some ⟨b,o,none⟩)):= .eptr row 0 b o arr t fr ho hb h1 hcl hs hr
theorem iaddrS_sound {c:Cx}{H:AHeap}(hR:RO c H){x i r:AV}{u v:Value}(hx:VR c x u)(hi:VR c i v){s:Nat}(h:aIaddrS s H x i=some r){t e:TypeId}(hu:P.underlying t=some (.slice e))(hs:szT P e=some s):
  ∃z,(Instr.indexAt t u v).run P c.w= .ok z c.w∧VR c r z:=by
 cases x<;>cases i<;>simp only[aIaddrS]at h<;>(try cases h)<;>cases hi
 ·rename_i id i n cp k j
  simp only[Option.bind_eq_some_iff]at h
  obtain⟨rs,hrs,h⟩:=h
  obtain⟨t',hl⟩:=rowsOf_some hrs
  split at h
  ·rename_i hj
   simp at h;subst h
   cases hx with|slc _ _ _ _ a cap hid hcp hf hiC hm ha=>
   have hcap:cap≠0:=by omega
   obtain rfl:=ha hcap
   have hz:(c.φ id).sz=s:=(hR id _ hl).1
   refine⟨.pointer (some ⟨(c.φ id).b,(i+j.toNat) * (c.φ id).sz+0,none⟩), ?_, .ptr _ _ _ hid (by omega)⟩
   have hadd:i*s+j.toNat*s=(i+j.toNat) *s:=by rw[Nat.add_mul]
   simp only[Instr.indexAt,asIntOf,Sem.run_bind,Sem.run_pure,run_underlying hu,Result.andThen_ok]
   simp[hj,run_sizeOf hs,hz,Addr.add_mid,hadd]
  ·cases h
 ·rename_i sz rows cp k j
  split at h
  ·rename_i hj
   obtain⟨hj,hz⟩:=hj
   simp only[Option.map_eq_some_iff]at h
   obtain⟨row,hrow,rfl⟩:=h
   have hlt:=(List.getElem?_eq_some_iff.1 hrow).1
   cases hx with
   |lst0=>simp at hlt
   |lst _ _ _ b o cap arr t' fr hn hcp hl ho hb h1 hcl hsz hs' hr=>
    have hrl:=hsz row (List.mem_of_getElem? hrow)
    have hin:j.toNat*sz+sz≤rows.length*sz:=by rw[←Nat.succ_mul];exact Nat.mul_le_mul_right _ hlt
    refine⟨.pointer (some ⟨b,o+j.toNat*sz,none⟩), ?_,cells_lst (fun j' x v hx hv=>hr j.toNat j' row x v hrow hx (by rw[←hv])) ho hb (fun j' v hj' hv=>h1 (j.toNat*sz+j') v (by rw[hrl]at hj';omega) (by rw[←hv,Nat.add_assoc])) (hcl row (List.mem_of_getElem? hrow)) (by rw[hrl];omega)⟩
    simp only[Instr.indexAt,asIntOf,Sem.run_bind,Sem.run_pure,run_underlying hu,Result.andThen_ok]
    have hj2:j<(rows.length:Int):=by omega
    simp[hj,hj2,run_sizeOf hs,hz,Addr.add_mid]
  ·cases h
theorem indexA_sound {c:Cx}{len es:Nat}{ag:Bool}{x i r:AV}{u v:Value}(hx:VR c x u)(hi:VR c i v)(h:aIndexA len es ag x i=some r){t e:TypeId}(hu:P.underlying t=some (.array len e))(hs:szT P e=some es)(hb:isRowT P e=some ag)(w:World):
  ∃z,(Instr.index t u v).run P w= .ok z w∧VR c r z:=by
 cases x<;>cases i<;>simp only[aIndexA]at h<;>(try cases h)<;>cases hi
 rename_i cs k j
 split at h
 ·rename_i hj
  cases hx
  rename_i xs hl hx
  obtain⟨z,hz,hr⟩:=part_sound hl hx h hb hs w
  exact⟨z,by simp[Instr.index,asIntOf,run_underlying hu,hj,run_sizeOf hs,hz],hr⟩
 ·cases h
theorem indexS_sound {c:Cx}{x i r:AV}{u v:Value}(hx:VR c x u)(hi:VR c i v)(h:aIndexS x i=some r){t:TypeId}(hu:P.underlying t=some .string)(w:World):
  ∃z,(Instr.index t u v).run P w= .ok z w∧VR c r z:=by
 cases x<;>cases i<;>simp only[aIndexS]at h<;>(try cases h)<;>cases hi
 rename_i s k j
 split at h
 ·rename_i hj
  simp only[Option.map_eq_some_iff]at h
  obtain⟨b,hb,rfl⟩:=h
  cases hx
  exact⟨_,by simp[Instr.index,asIntOf,run_underlying hu,hj,hb], .int _ _⟩
 ·cases h
theorem field_sound {c:Cx} {off s:Nat} {ag:Bool} {x r:AV} {u:Value} (hx:VR c x u) (h:aField off s ag x=some r) {t:TypeId} {fields:Array Field} {f:Nat} {fd:Field} (hu:P.underlying t=some (.struct fields)) (hf:fields[f]? =some fd) (ho:fd.offset=off)
  (hs:szT P fd.type=some s) (hb:isRowT P fd.type=some ag) (w:World):∃z,(Instr.field t u f).run P w= .ok z w∧VR c r z:=by
 cases x<;>simp only[aField]at h<;>try cases h
 cases hx
 rename_i xs hl hx
 subst ho
 obtain⟨z,hz,hr⟩:=part_sound hl hx h hb hs w
 exact⟨z,by simp[Instr.field,run_underlying hu,hf,asAgg,hz],hr⟩
end
end Go.Am
end
section
namespace Go.Am
open Go
section
variable {P:Program}
def Ali(c:Cx)(as:List AV)(base n:Nat)(us:Array Value):Prop:=∀i a,i<n→as[base+i]? =some a→∃u,us[i]? =some u∧VR c a u
def ValAli(P:Program)(c:Cx)(as:List AV)(base n:Nat)(t:TypeId)(u:Value):Prop:=
 (isRowT P t=some true∧∃us,u= .agg us∧Ali c as base n us)∨(isRowT P t=some false∧∀a,as[base]? =some a→VR c a u)
theorem Ali.sub {c:Cx}{as:List AV}{base n:Nat}{us:Array Value}(h:Ali c as base n us){off s:Nat}(hs:off+s≤n):Ali c as (base+off) s (us.extract off (off+s)):=fun i a hi ha=>by
 obtain⟨u,hu,hv⟩:=h (off+i) a (by omega) (by rw[←Nat.add_assoc];exact ha)
 refine⟨u, ?_,hv⟩
 have hlt:=(Array.getElem?_eq_some_iff.1 hu).1
 rw[Array.getElem?_extract]
 rw[if_pos (by omega)]
 exact hu
theorem part_ali {c:Cx}{as:List AV}{base n:Nat}{us:Array Value}(h:Ali c as base n us){t:TypeId}{off s:Nat}{b:Bool}(hs:off+s≤n)(hz:szT P t=some s)(hr:isRowT P t=some b)(hpos:b=false→0<s∧∃a,as[base+off]? =some a)(w:World):
  ∃u,(part t us off).run P w= .ok u w∧ValAli P c as (base+off) s t u:=by
 cases b with
 |true=>exact⟨.agg (us.extract off (off+s)),by simp[part,run_isAgg hr,run_sizeOf hz], .inl ⟨hr,_,rfl,h.sub hs⟩⟩
 |false=>
  obtain⟨h0,a,ha⟩:=hpos rfl
  obtain⟨u,hu,hv⟩:=h off a (by omega) ha
  refine⟨u,by simp[part,run_isAgg hr,hu], .inr ⟨hr,fun a' ha'=> ?_⟩⟩
  rw[ha]at ha'
  cases ha'
  exact hv
theorem eqAt_append {as bs:List AV}:∀ {l m:List (Nat×Nat)} {b:Bool},eqAt as bs (l++m)=some b→∃x y,eqAt as bs l=some x∧eqAt as bs m=some y∧b=(x&&y)
 | [],m,b,h=>⟨true,b,rfl,h,by simp⟩
 | (o,k)::l,m,b,h=>by
  simp only[List.cons_append,eqAt,Option.bind_eq_some_iff,Option.map_eq_some_iff]at h
  obtain⟨a,ha,a',ha',x,hx,y,hy,rfl⟩:=h
  obtain⟨p,q,hp,hq,rfl⟩:=eqAt_append hy
  exact⟨x&&p,q,by simp only[eqAt,ha,ha',Option.bind_some,hx,hp,Option.map_some],hq,by rw[Bool.and_assoc]⟩
theorem eqOffs_cell {d:Nat}{t:TypeId}{base:Nat}{l:List (Nat×Nat)}(h:eqOffs P d t base=some l)(hr:isRowT P t=some false):szT P t=some 1∧∃k,l=[(base,k)]∧(k=0∧P.underlying t=some .bool∨(k=1∧∃i,P.underlying t=some (.int i))∨k=2∧P.underlying t=some .string):=by
 cases d with
 |zero=>cases h
 |succ d=>
  simp only[eqOffs,Option.bind_eq_some_iff]at h
  obtain⟨n,hn,h⟩:=h
  unfold isRowT at hr
  cases hu:P.underlying t with
  |none=>simp[hu]at hr
  |some kd=>
   rw[hu]at h hr
   cases kd<;>simp[TypeDesc.isRow']at h hr
   ·obtain⟨rfl,h⟩:=h;exact⟨hn,0,h.symm, .inl ⟨rfl,rfl⟩⟩
   ·obtain⟨rfl,h⟩:=h;exact⟨hn,1,h.symm, .inr (.inl ⟨rfl,_,rfl⟩)⟩
   ·obtain⟨rfl,h⟩:=h;exact⟨hn,2,h.symm, .inr (.inr ⟨rfl,rfl⟩)⟩
theorem eqFields_sound {c:Cx} {as bs:List AV} {base n D d:Nat} {us vs:Array Value} (hu:Ali c as base n us) (hv:Ali c bs base n vs) (w:World)
  (ih:∀ (t:TypeId) (base s:Nat) (l:List (Nat×Nat)),szT P t=some s→eqOffs P d t base=some l→∀u v b,eqAt as bs l=some b→ValAli P c as base s t u→ValAli P c bs base s t v→(Op.equalIn D t u v).run P w= .ok b w):
  ∀ (fs:List Field) (ll:List (List (Nat×Nat))) (b:Bool),(fs.mapM fun f=>(szT P f.type).bind fun s=>(isRowT P f.type).bind fun _=>if f.name= "_" ∨¬f.offset+s≤n then none else eqOffs P d f.type (base+f.offset))=some ll→eqAt as bs ll.flatten=some b→(Op.eqFields D us vs fs).run P w= .ok b w
 | [],ll,b,h,hb=>by
  simp at h;subst h
  simp only[List.flatten_nil,eqAt,Option.some.injEq]at hb
  subst hb
  simp[Op.eqFields]
 |f::fs,ll,b,h,hb=>by
  rw[List.mapM_cons]at h
  simp only[bind,Option.bind_eq_some_iff,pure,Option.some.injEq]at h
  obtain⟨l,⟨s,hs,r,hr,hl⟩,ll',hll,rfl⟩:=h
  split at hl
  ·cases hl
  ·rename_i hc
   have hn:f.name≠ "_" :=fun e=>hc (.inl e)
   have hle:f.offset+s≤n:=by
    by_cases h:f.offset+s≤n
    ·exact h
    ·exact absurd (.inr h) hc
   rw[List.flatten_cons]at hb
   obtain⟨x,y,hx,hy,rfl⟩:=eqAt_append hb
   have cell:r=false→0<s∧(∃a,as[base+f.offset]? =some a)∧∃a,bs[base+f.offset]? =some a:=fun hrf=>by
    subst hrf
    obtain⟨h1,k,rfl,_⟩:=eqOffs_cell hl hr
    rw[hs]at h1
    cases h1
    simp only[eqAt,Option.bind_eq_some_iff]at hx
    obtain⟨a,ha,b,hb,_⟩:=hx
    exact⟨by omega,⟨a,ha⟩,b,hb⟩
   obtain⟨u,p1,q1⟩:=part_ali hu hle hs hr (fun hrf=>⟨(cell hrf).1,(cell hrf).2.1⟩) w
   obtain⟨v,p2,q2⟩:=part_ali hv hle hs hr (fun hrf=>⟨(cell hrf).1,(cell hrf).2.2⟩) w
   have p3:=ih f.type (base+f.offset) s l hs hl u v x hx q1 q2
   have p4:=eqFields_sound hu hv w ih fs ll' y hll hy
   simp only[Op.eqFields,hn,ne_eq,not_false_eq_true,if_true,Sem.run_bind,p1,p2,p3,Result.andThen_ok]
   cases x
   ·simp
   ·simpa using p4
theorem eqItems_sound {c:Cx} {as bs:List AV} {base n D d s:Nat} {e:TypeId} {r:Bool} {us vs:Array Value} (hu:Ali c as base n us) (hv:Ali c bs base n vs) (hs:szT P e=some s) (hr:isRowT P e=some r) (w:World)
  (ih:∀ (t:TypeId) (base s:Nat) (l:List (Nat×Nat)),szT P t=some s→eqOffs P d t base=some l→∀u v b,eqAt as bs l=some b→ValAli P c as base s t u→ValAli P c bs base s t v→(Op.equalIn D t u v).run P w= .ok b w):
  ∀ (is:List Nat) (ll:List (List (Nat×Nat))) (b:Bool),(∀i∈is,i*s+s≤n)→(is.mapM fun i=>eqOffs P d e (base+i*s))=some ll→eqAt as bs ll.flatten=some b→(Op.eqItems D e s us vs is).run P w= .ok b w
 | [],ll,b,_,h,hb=>by
  simp at h;subst h
  simp only[List.flatten_nil,eqAt,Option.some.injEq]at hb
  subst hb
  simp[Op.eqItems]
 |i::is,ll,b,hi,h,hb=>by
  rw[List.mapM_cons]at h
  simp only[bind,Option.bind_eq_some_iff,pure,Option.some.injEq]at h
  obtain⟨l,hl,ll',hll,rfl⟩:=h
  have hle:=hi i (by simp)
  rw[List.flatten_cons]at hb
  obtain⟨x,y,hx,hy,rfl⟩:=eqAt_append hb
  have cell:r=false→0<s∧(∃a,as[base+i*s]? =some a)∧∃a,bs[base+i*s]? =some a:=fun hrf=>by
   subst hrf
   obtain⟨h1,k,rfl,_⟩:=eqOffs_cell hl hr
   rw[hs]at h1
   cases h1
   simp only[eqAt,Option.bind_eq_some_iff]at hx
   obtain⟨a,ha,b,hb,_⟩:=hx
   exact⟨by omega,⟨a,ha⟩,b,hb⟩
  obtain⟨u,p1,q1⟩:=part_ali hu hle hs hr (fun hrf=>⟨(cell hrf).1,(cell hrf).2.1⟩) w
  obtain⟨v,p2,q2⟩:=part_ali hv hle hs hr (fun hrf=>⟨(cell hrf).1,(cell hrf).2.2⟩) w
  have p3:=ih e (base+i*s) s l hs hl u v x hx q1 q2
  have p4:=eqItems_sound hu hv hs hr w ih is ll' y (fun j hj=>hi j (by simp[hj])) hll hy
  simp only[Op.eqItems,Sem.run_bind,p1,p2,p3,Result.andThen_ok]
  cases x
  ·simp
  ·simpa using p4
theorem eqIn_sound {c:Cx}{as bs:List AV}(w:World):∀ (d D:Nat),d≤D→∀ (t:TypeId) (base s:Nat) (l:List (Nat×Nat)),szT P t=some s→eqOffs P d t base=some l→∀u v b,eqAt as bs l=some b→ValAli P c as base s t u→ValAli P c bs base s t v→(Op.equalIn D t u v).run P w= .ok b w
 |0,_,_,_,_,_,_,_,h,_,_,_,_,_,_=>by cases h
 |d+1,0,hD,_,_,_,_,_,_,_,_,_,_,_,_=>by omega
 |d+1,D+1,hD,t,base,s,l,hs,h,u,v,b,hb,hu,hv=>by
  rcases hu with⟨hr,us,rfl,hu⟩ | ⟨hr,hu⟩
  ·rcases hv with⟨_,vs,rfl,hv⟩ | ⟨hr',_⟩
   case inr=>rw[hr]at hr';cases hr'
   simp only[eqOffs,Option.bind_eq_some_iff]at h
   obtain⟨n,hn,h⟩:=h
   rw[hs]at hn
   cases hn
   unfold isRowT at hr
   cases hud:P.underlying t with
   |none=>simp[hud]at hr
   |some kd=>
    rw[hud]at h hr
    have ih:=eqIn_sound (c:=c) (as:=as) (bs:=bs) w d D (by omega)
    cases kd<;>simp[TypeDesc.isRow']at hr
    ·rename_i k e
     simp only[Option.bind_eq_some_iff]at h
     obtain⟨s',hs',r,hr',h⟩:=h
     split at h
     ·rename_i hle
      simp only[Option.map_eq_some_iff]at h
      obtain⟨ll,hll,rfl⟩:=h
      obtain⟨i,hi,hsz⟩:∃i,P.info? e=some i∧i.size=s':=by
       unfold szT at hs'
       simpa only[Option.map_eq_some_iff]using hs'
      rw[run_equalIn_array w D us vs hud hi]
      have hc:P.cellsOf e=s':=by simp[Program.cellsOf,hi,hsz]
      rw[hc]
      refine eqItems_sound hu hv hs' hr' w ih (List.range k) ll b (fun j hj=> ?_) hll hb
      have hj:=List.mem_range.1 hj
      have:(j+1) *s'≤k*s':=Nat.mul_le_mul_right _ hj
      rw[Nat.add_mul,Nat.one_mul]at this
      omega
     ·cases h
    ·rename_i fields
     simp only at h
     split at h
     ·cases h
     ·rename_i hst
      simp only[Option.map_eq_some_iff]at h
      obtain⟨ll,hll,rfl⟩:=h
      have hf:P.fieldsOf t=fields:=by simp[Program.fieldsOf,hud]
      rw[run_equalIn_struct w D t us vs (by rw[hf];exact hud) (by simpa using hst),hf]
      exact eqFields_sound hu hv w ih fields.toList ll b hll hb
  ·rcases hv with⟨hr',_⟩ | ⟨_,hv⟩
   ·rw[hr]at hr';cases hr'
   obtain⟨_,k,rfl,hk⟩:=eqOffs_cell h hr
   simp only[eqAt,Option.bind_eq_some_iff,Option.map_some,Bool.and_true,Option.some.injEq]at hb
   obtain⟨a,ha,a',ha',x,hx,rfl⟩:=hb
   have hu:=hu a ha
   have hv:=hv a' ha'
   rcases hk with⟨rfl,hud⟩ | ⟨rfl,i,hud⟩ | ⟨rfl,hud⟩
   ·cases a<;>cases a'<;>simp only[eqK]at hx<;>cases hx
    cases hu;cases hv
    exact run_equalIn_bool' w D t _ _ hud
   ·cases a<;>cases a'<;>simp only[eqK]at hx<;>(try cases hx)
    cases hu;cases hv
    split at hx
    ·rename_i e
     cases hx;subst e
     rw[run_equalIn_int w D t _ i _ _ hud]
     congr 1
    ·cases hx
   ·cases a<;>cases a'<;>simp only[eqK]at hx<;>cases hx
    cases hu;cases hv
    rw[run_equalIn_string w D t _ _ hud,toList_inj]
theorem eqOffs_sz {d:Nat}{t:TypeId}{base:Nat}{l:List (Nat×Nat)}(h:eqOffs P d t base=some l):∃s,szT P t=some s:=by
 cases d with
 |zero=>cases h
 |succ d=>
  simp only[eqOffs,Option.bind_eq_some_iff]at h
  obtain⟨n,hn,_⟩:=h
  exact⟨n,hn⟩
theorem eqAgg_sound {c:Cx} {op:BinOp} {neg ag:Bool} (hop:cEq op=some neg) {x y:AV} {u v:Value} (hx:VR c x u) (hy:VR c y v) {t:TypeId} {d:TypeDesc} (hd:P.underlying t=some d) {l:List (Nat×Nat)}
  (hl:(TypeDesc.isRow' d=true∧ag=true∧eqOffs P 12 t 0=some l)∨(TypeDesc.isRow' d≠true∧TypeDesc.isBool d=true∧ag=false)) {b:Bool} (hb:aEq ag l x y=some b) (hg:¬P.eqGuardType P.depth t=true)
  (p q:Operand) (w:World):(eqGuard op t p q u v).run P w= .ok () w∧(binOp op t u v).run P w= .ok (.bool (if neg then !b else b)) w:=by
 have hops:(op= .eql∧neg=false)∨(op= .neq∧neg=true):=by
  cases op<;>simp[cEq]at hop
  ·exact .inl ⟨rfl,hop⟩
  ·exact .inr ⟨rfl,hop⟩
 rcases hl with⟨hr,rfl,hl⟩ | ⟨_,hr,rfl⟩
 ·have hrow:isRowT P t=some true:=by simp[isRowT,hd,hr]
  obtain⟨s,hs⟩:=eqOffs_sz hl
  cases x<;>cases y<;>simp only[aEq,if_true]at hb<;>try cases hb
  cases hx
  rename_i as bs us hus hu
  cases hy
  rename_i vs hvs hv
  have ali:∀ {zs:List AV} {ws:Array Value},zs.length=ws.size→(∀ (i:Nat) (a:AV) (x:Value),zs[i]? =some a→ws[i]? =some x→VR c a x)→Ali c zs 0 s ws:=fun {zs ws} h1 h2 i a _ ha=>by
   rw[Nat.zero_add]at ha
   have hlt:=(List.getElem?_eq_some_iff.1 ha).1
   exact⟨ws[i]'(by omega),Array.getElem?_eq_getElem _,h2 i a _ ha (Array.getElem?_eq_getElem _)⟩
  have key:=eqIn_sound (P:=P) w 12 10000 (by omega) t 0 s l hs hl (.agg us) (.agg vs) b hb (.inl ⟨hrow,us,rfl,ali hus hu⟩) (.inl ⟨hrow,vs,rfl,ali hvs hv⟩)
  refine⟨run_eqGuard_agg w op t p q us vs (by simpa using hg), ?_⟩
  rcases hops with⟨rfl,rfl⟩ | ⟨rfl,rfl⟩
  ·rw[run_eql_struct,key];rfl
  ·rw[run_neq_struct,key];rfl
 ·have hud:P.underlying t=some .bool:=by
   cases d<;>simp[TypeDesc.isBool]at hr
   exact hd
  cases x<;>cases y<;>simp[aEq]at hb
  cases hx;cases hy
  subst hb
  have key:∀a b:Bool,(Op.equalIn 10000 t (.bool a) (.bool b)).run P w= .ok (a == b) w:=fun a b=>run_equalIn_bool' w 9999 t a b hud
  rcases hops with⟨rfl,rfl⟩ | ⟨rfl,rfl⟩
  ·exact⟨by simp[eqGuard],by simp[binOp,Op.equal,Op.maxDepth,key]⟩
  ·exact⟨by simp[eqGuard],by simp[binOp,Op.equal,Op.maxDepth,key]⟩
end
end Go.Am
end
