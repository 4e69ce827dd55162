/- Part of the proof: what functions of the program compute, walked. No conditions. -/
import Derived.Test.YtejbmdnhchoilaaGreatCa
import Derived.Test.YtejbmdnhchoilaaGreatCb
import Derived.Test.YtejbmdnhchoilaaGreatCc
import Derived.Test.YtejbmdnhchoilaaGreatCe
import Derived.Test.YtejbmdnhchoilaaGreatM20
import Derived.Test.YtejbmdnhchoilaaGreatRune
set_option linter.unusedVariables false
set_option linter.unusedSimpArgs false
set_option maxRecDepth 100000
section
open Go Go.Am Go.Proofs
namespace Go.Am.Pt
theorem same_labels(a b:List Lb)(ha:(a.length:Int)≤1000000):AC PR 105 [lbs a,lbs b] [] (.bool (decide (a=b))) []:=by
 have hma:(a.map lb).length=a.length:=List.length_map ..
 have hmb:(b.map lb).length=b.length:=List.length_map ..
 apply A105
 conv=>whnf
 refine cond_nb (fun h=> ?_) (fun h=> ?_)
 ·have h1:a≠b:=fun e=>by subst e;simp at h
  rw[decide_eq_false h1]
  conv=>whnf
  exact at_end []
 have hl:a.length=b.length:=by have:=of_decide_eq_true h;omega
 conv=>whnf
 refine loop_to a.length (fun k e H=>e=[(0,lbs a),(1,lbs b),(12,i64 (a.map lb).length),(13,i64 k)]∧H=[]∧a.take k=b.take k) ?_ ?_
 ·rintro k e H hk ⟨rfl,rfl,ht⟩
  conv=>whnf
  generalize hq:decide ((k:Int)<((a.map lb).length:Int))=q
  cases q
  case false=>
   have hk2:k=a.length:=by have:=of_decide_eq_false hq;omega
   have e1:a=b:=by rw[hk2,List.take_length,hl,List.take_length]at ht;exact ht
   rw[decide_eq_true e1]
   conv=>whnf
   exact at_end []
  have hk2:k<a.length:=by have:=of_decide_eq_true hq;omega
  have hga:=List.getElem?_eq_getElem hk2
  have hgb:=List.getElem?_eq_getElem (show k<b.length by omega)
  generalize a[k]=x at hga
  generalize b[k]'(show k<b.length by omega)=y at hgb
  conv=>whnf
  refine tA ?_
  refine cond_nb (fun h=> ?_) (fun h=> ?_)
  ·have h1:a≠b:=fun e=>by
    subst e
    rw[hga]at hgb
    cases hgb
    simp at h
   rw[decide_eq_false h1]
   conv=>whnf
   exact at_end []
  have hxy:x=y:=by
   obtain⟨x1,x2⟩:=x
   obtain⟨y1,y2⟩:=y
   simp at h
   rw[h.1,h.2]
  conv=>whnf
  refine w_as ((k+1:Nat):Int) (by omega) (by omega) ?_
  conv=>whnf
  exact at_head [] [] _ ⟨by omega,rfl,rfl,by rw[List.take_add_one,List.take_add_one,ht,hga,hgb,hxy]⟩
 ·conv=>whnf
  exact at_head [] [] _ ⟨rfl,rfl,by simp⟩
def chOK(c:UInt8):Bool:=decide (97≤c.toNat∧c.toNat≤122) ||decide (48≤c.toNat∧c.toNat≤57) ||decide (c.toNat=45)
def nameL(l:List UInt8):Bool:=decide (1≤l.length∧l.length≤16) &&decide (l[0]? ≠some 45) &&l.all chOK
def nameB(s:ByteArray):Bool:=nameL s.data.toList
theorem ba_get {s:ByteArray}{i:Nat}{c:UInt8}(h:s.data.toList[i]? =some c):s[i]? =some c:=by
 obtain⟨h1,h2⟩:=List.getElem?_eq_some_iff.1 h
 have h3:i<s.size:=h1
 rw[getElem?_def,dif_pos h3]
 exact congrArg some h2
theorem idx_ok {s:ByteArray}{kk:IntKind}{i:Nat}{c:UInt8}(h:s.data.toList[i]? =some c):aIndexS (.str s) (.int kk (i:Int))=some (.int .u8 c.toNat):=by
 simp[aIndexS,ba_get h]
theorem u8_45 {c:UInt8}(h:(c.toNat:Int)=45):c=45:=UInt8.toNat.inj (by
 have:c.toNat=45:=by omega
 rw[this];rfl)
end Go.Am.Pt
end
section
open Go Go.Am Go.Proofs Go.RowKit
namespace Go.Am.Pt
theorem AC.calls_bool {P:Program}{f:FuncId}{args:List AV}{b:Bool}(h:AC P f args [] (.bool b) []){xs:Array Value}(hlen:args.length=xs.size)(hx:∀ (c:Cx) (i:Nat) a x,args[i]? =some a→xs[i]? =some x→VR c a x)(w:World):
  Calls P f xs w fun e w'=>e= .returned (.bool b)∧YtejbmdnhchoilaaGreatR.Up w w':=by
 have hR:Rel (fun _=>False) (fun _=>⟨0,0,0⟩) [] w:=⟨fun id o h=>by simp at h,fun i j o p h=>by simp at h,fun b h=>h.elim⟩
 refine(h _ _ w xs hR hlen (hx _)).mono fun e w' ⟨v,φ',he,hs,hv⟩=> ?_
 cases hv
 refine⟨he,⟨hs.os,hs.tape,hs.output,hs.le.sz,fun b hb=>hs.le.blk b hb ?_⟩,hs.drawn⟩
 rintro(⟨id,o,h,_⟩ |h)
 ·simp at h
 ·exact h.elim
def letters:ByteArray:=⟨#[97,98,99,100,101,102,103,104,105,106,107,108,109,110,111,112,113,114,115,116,117,118,119,120,121,122,48,49,50,51,52,53,54,55,56,57,45]⟩
def idxR(r:Nat):Int:=if r<128 then Lib.indexByte letters.data.toList r.toUInt8 else-1
theorem letters_ascii:∀i (h:i<letters.size),(letters[i]'h).toNat<128:=by
 have:∀i:_root_.Fin letters.size,(letters[i.val]'i.isLt).toNat<128:=by decide+kernel
 exact fun i h=>this ⟨i,h⟩
theorem indexRune_ac(r:Nat)(hr:r≤1114111):AC PR 180 [.str letters, .int .i32 r] [] (i64 (idxR r)) []:=by
 refine AC.of_calls #[.string letters, .int .i32 r] ?_ (fun c=> .int _ _) (v:= .int .i64 (idxR r)) fun w=> ?_
 ·intro c ys hl hx
  obtain⟨a,b,rfl⟩:∃a b,ys= #[a,b]:=by
   match ys,hl with
   | ⟨[a,b]⟩,_=>exact⟨a,b,rfl⟩
  have h0:=hx 0 _ a rfl rfl
  have h1:=hx 1 _ b rfl rfl
  cases h0;cases h1;rfl
 ·by_cases h:r<128
  ·rw[show idxR r=Lib.indexByte letters.data.toList r.toUInt8 from if_pos h]
   refine(Tryz.strings_IndexRune_ascii letters r w (by omega) (by omega)).mono fun e w' ⟨he,hw⟩=>⟨?_,hw▸YtejbmdnhchoilaaGreatR.Up.refl _⟩
   rw[he];simp
  ·rw[show idxR r= -1 from if_neg h]
   by_cases he:r=65533
   ·subst he
    exact YtejbmdnhchoilaaGreatR.indexRune_err letters letters_ascii w
   ·cases hv:Lib.validRune (r:Int)
    ·exact(YtejbmdnhchoilaaGreatR.indexRune_bad letters r (by omega) (by omega) (by omega) hv w).mono fun e w' ⟨he,hw⟩=>⟨he,hw▸YtejbmdnhchoilaaGreatR.Up.refl _⟩
    ·exact YtejbmdnhchoilaaGreatR.indexRune_more letters letters_ascii (by decide) r (by omega) (by omega) (by omega) hv w
theorem containsRune_ac(r:Nat)(hr:r≤1114111):AC PR 159 [.str letters, .int .i32 r] [] (.bool (decide (0≤idxR r))) []:=by
 have c1:=indexRune_ac r hr
 generalize idxR r=n at c1
 apply A159
 conv=>whnf
 refine call_closed (c1) ?_
 conv=>whnf
 exact at_end []
def oddR(r:Nat):Bool:= !decide (0≤idxR r)
theorem odd_ac(r:Nat)(hr:r≤1114111):AC PR 126 [.int .i32 r] [] (.bool (oddR r)) []:=by
 have c1:=containsRune_ac r hr
 unfold oddR
 generalize decide (0≤idxR r)=b at c1
 apply A126
 conv=>whnf
 refine call_closed (c1) ?_
 conv=>whnf
 exact at_end []
theorem odd_up(W:World)(x:Nat)(hx:x≤1114111):Calls PR 126 (#[.int .i32 (x:Int)]++ #[]) W fun e w'=>e= .returned (.bool (oddR x))∧YtejbmdnhchoilaaGreatR.Up W w':=by
 rw[Array.append_empty]
 refine AC.calls_bool (odd_ac x hx) (xs:= #[.int .i32 (x:Int)]) rfl ?_ W
 intro c i a v ha hv
 match i with
 |0=>simp at ha hv;subst ha hv;exact .int _ _
 |i+1=>simp at ha
def hasOdd(s:ByteArray):Bool:=decide (0≤Lib.idxFunc oddR true s)
theorem indexFunc0_ac(s:ByteArray):AC PR 179 [.str s, .fn (.func 126) [] [], .bool true] [] (i64 (Lib.idxFunc oddR true s)) []:=by
 refine AC.of_calls #[.string s, .func (.func 126) #[] #[], .bool true] ?_ (fun c=> .int _ _) (v:= .int .i64 (Lib.idxFunc oddR true s)) fun w=> ?_
 ·intro c ys hl hx
  obtain⟨a,b,d,rfl⟩:∃a b d,ys= #[a,b,d]:=by
   match ys,hl with
   | ⟨[a,b,d]⟩,_=>exact⟨a,b,d,rfl⟩
  have h0:=hx 0 _ a rfl rfl
  have h1:=hx 1 _ b rfl rfl
  have h2:=hx 2 _ d rfl rfl
  cases h0
  cases h2
  cases h1 with
  |fn f la lb xs ys l1 l2 h1 h2=>
   obtain rfl:xs= #[]:=Array.size_eq_zero_iff.1 l1.symm
   obtain rfl:ys= #[]:=Array.size_eq_zero_iff.1 l2.symm
   rfl
 ·exact YtejbmdnhchoilaaGreatR.indexFunc_up 126 (enters_of Tryz.func126 (by kernel_rfl) rfl) oddR s w odd_up
theorem containsFunc_ac(s:ByteArray):AC PR 125 [.str s, .fn (.func 126) [] []] [] (.bool (hasOdd s)) []:=by
 have c1:=indexFunc0_ac s
 unfold hasOdd
 generalize Lib.idxFunc oddR true s=n at c1
 have c2:AC PR 158 [.str s, .fn (.func 126) [] []] [] (i64 n) []:=by
  apply A158
  conv=>whnf
  refine call_closed (c1) ?_
  conv=>whnf
  exact at_end []
 apply A125
 conv=>whnf
 refine call_closed (c2) ?_
 conv=>whnf
 exact at_end []
theorem odd_chF:∀c:_root_.Fin 256,c.val<128→oddR c.val= !chOK (UInt8.ofNat c.val):=by decide+kernel
theorem odd_ch(c:UInt8)(h:c.toNat<128):oddR c.toNat= !chOK c:=by
 have:=odd_chF ⟨c.toNat,c.toNat_lt⟩ h
 simpa using this
theorem odd_big(r:Nat)(h:128≤r):oddR r=true:=by
 unfold oddR idxR
 rw[if_neg (by omega)];rfl
theorem decode_big(s:ByteArray)(i:Nat)(h:128≤(s.get! i).toNat):128≤(Utf8.decode s i).1:=by
 unfold Utf8.decode
 simp only[Nat.add_zero]
 split
 ·omega
 ·repeat' split
  all_goals first| (simp only[Utf8.runeError];omega) |skip
  all_goals simp_all
  all_goals omega
theorem chOK_lt {c:UInt8}(h:chOK c=true):c.toNat<128:=by
 simp only[chOK,Bool.or_eq_true,decide_eq_true_eq]at h
 omega
theorem idx_all(s:ByteArray):∀ (f pos:Nat),s.size≤pos+f→pos≤s.size→decide (0≤Lib.idxFuncFrom oddR true s f pos)= !((s.data.toList.drop pos).all chOK)
 |0,pos,h1,h2=>by
  have e:s.data.toList.drop pos=[]:=List.drop_eq_nil_of_le (by show s.size≤pos;omega)
  rw[e];simp[Lib.idxFuncFrom]
 |f+1,pos,h1,h2=>by
  by_cases hp:pos<s.size
  ·have hd:s.data.toList.drop pos=(s[pos]'hp)::s.data.toList.drop (pos+1):=List.drop_eq_getElem_cons (by exact hp)
   have hg:s.get! pos=s[pos]'hp:=by
    simp[ByteArray.get!,getElem!_pos,hp]
    rfl
   rw[hd,List.all_cons]
   simp only[Lib.idxFuncFrom,hp,if_true]
   cases hc:chOK (s[pos]'hp)
   ·have ho:oddR (Utf8.decode s pos).1=true:=by
     by_cases hb:(s[pos]'hp).toNat<128
     ·rw[decode_ascii s pos hp hb]
      show oddR (s[pos]'hp).toNat=true
      rw[odd_ch _ hb,hc];rfl
     ·exact odd_big _ (decode_big s pos (by rw[hg];omega))
    rw[ho];simp
   ·have hb:=chOK_lt hc
    rw[decode_ascii s pos hp hb]
    show decide (0≤if oddR (s[pos]'hp).toNat=true then(pos:Int)else Lib.idxFuncFrom oddR true s f (pos+1))=_
    rw[odd_ch _ hb,hc]
    simp only[Bool.not_true,Bool.false_eq_true,if_false,Bool.true_and]
    exact idx_all s f (pos+1) (by omega) (by omega)
  ·have e:s.data.toList.drop pos=[]:=List.drop_eq_nil_of_le (by show s.size≤pos;omega)
   rw[e];simp[Lib.idxFuncFrom,hp]
theorem hasOdd_eq(s:ByteArray):hasOdd s= !(s.data.toList.all chOK):=by
 have:=idx_all s s.size 0 (by omega) (by omega)
 rw[List.drop_zero]at this
 exact this
end Go.Am.Pt
end
section
open Go Go.Am Go.Proofs
namespace Go.Am.Pt
def inR(n:Int):Bool:= !(decide (n<0) ||decide (1048576<n))
def rightB(r:Rs):Bool:=inR r.a&&inR r.b&&inR r.c
def okAt(l:List Lb)(i:Nat):Bool:=
 match l[i]? with
 |none=>true
 |some x=>nameB x.1&&nameB x.2&& (decide (i=0) || (match l[i-1]? with
  |none=>true
  |some y=>strLt y.1 x.1))
def labelsB(l:List Lb):Bool:=decide (l.length≤4) && (List.range l.length).all (okAt l)
theorem all_range_false {l:List Lb}{k:Nat}(hk:k<l.length)(h:okAt l k=false):(List.range l.length).all (okAt l)=false:=
 List.all_eq_false.2 ⟨k,List.mem_range.2 hk,by simp[h]⟩
def nodeB(n:Nd):Bool:=nameB n.name&&rightB n.cap&&labelsB n.labels
def queueB(q:Qu):Bool:=nameB q.name&&rightB q.quota
def prioB(n:Int):Bool:= !(decide (n<0) ||decide (9<n))
def maybeB(s:ByteArray):Bool:=decide (s=⟨#[]⟩) ||nameB s
def gangB(t:Tk):Bool:=if t.gang=⟨#[]⟩then decide (t.size=0)else nameB t.gang&&decide (2≤t.size) &&decide (t.size≤4)
def taskB(t:Tk):Bool:=nameB t.name&&nameB t.queue&&prioB t.prio&&rightB t.need&&labelsB t.wants&&maybeB t.apart&&gangB t
def rsEq(x y:Rs):Bool:=decide (x.a=y.a) && (decide (x.b=y.b) && (decide (x.c=y.c) &&true))
def nodeEq(a b:Nd):Bool:=decide (a.name=b.name) &&rsEq a.cap b.cap&&decide (a.labels=b.labels)
def taskEq(a b:Tk):Bool:=decide (a.name=b.name) &&decide (a.queue=b.queue) &&decide (a.prio=b.prio) &&rsEq a.need b.need&&decide (a.wants=b.wants) &&decide (a.apart=b.apart) &&decide (a.gang=b.gang) &&decide (a.size=b.size)
def quEq(a b:Qu):Bool:=decide (a.name=b.name) && (decide (a.quota.a=b.quota.a) && (decide (a.quota.b=b.quota.b) && (decide (a.quota.c=b.quota.c) &&true)))
theorem rsameNode_ok(a b:Nd)(ha:(a.labels.length:Int)≤1000000):AC PR 53 [nodeA a,nodeA b] [] (.bool (nodeEq a b)) []:=by
 have hB:nodeEq a b=(decide (a.name=b.name) && (decide (a.cap.a=b.cap.a) && (decide (a.cap.b=b.cap.b) && (decide (a.cap.c=b.cap.c) &&true))) &&decide (a.labels=b.labels)):=rfl
 have c1:=same_labels a.labels b.labels ha
 generalize nodeEq a b=B at hB
 generalize decide (a.labels=b.labels)=q1 at hB c1
 apply A53
 conv=>whnf
 generalize decide (a.name=b.name)=q2 at hB
 cases q2<;>conv=>whnf
 ·exact at_end []
 generalize(decide (a.cap.a=b.cap.a) && (decide (a.cap.b=b.cap.b) && (decide (a.cap.c=b.cap.c) &&true)))=R at hB
 cases R<;>conv=>whnf
 ·exact at_end []
 refine call_closed (c1) ?_
 conv=>whnf
 cases q1<;>exact at_end []
theorem rsameTask_ok(a b:Tk)(ha:(a.wants.length:Int)≤1000000):AC PR 54 [tkA a,tkA b] [] (.bool (taskEq a b)) []:=by
 have hB:taskEq a b=(decide (a.name=b.name) &&decide (a.queue=b.queue) &&decide (a.prio=b.prio) && (decide (a.need.a=b.need.a) && (decide (a.need.b=b.need.b) && (decide (a.need.c=b.need.c) &&true))) &&decide (a.wants=b.wants) &&decide (a.apart=b.apart) &&decide (a.gang=b.gang) &&decide (a.size=b.size)):=rfl
 have c1:=same_labels a.wants b.wants ha
 generalize taskEq a b=B at hB
 generalize decide (a.wants=b.wants)=q1 at hB c1
 apply A54
 conv=>whnf
 generalize decide (a.name=b.name)=q2 at hB
 cases q2<;>conv=>whnf
 ·exact at_end []
 generalize decide (a.queue=b.queue)=q3 at hB
 cases q3<;>conv=>whnf
 ·exact at_end []
 generalize decide (a.prio=b.prio)=q4 at hB
 cases q4<;>conv=>whnf
 ·exact at_end []
 generalize(decide (a.need.a=b.need.a) && (decide (a.need.b=b.need.b) && (decide (a.need.c=b.need.c) &&true)))=R at hB
 cases R<;>conv=>whnf
 ·exact at_end []
 refine call_closed (c1) ?_
 conv=>whnf
 cases q1<;>conv=>whnf
 ·exact at_end []
 generalize decide (a.apart=b.apart)=q5 at hB
 cases q5<;>conv=>whnf
 ·exact at_end []
 generalize decide (a.gang=b.gang)=q6 at hB
 cases q6<;>conv=>whnf
 ·exact at_end []
 generalize decide (a.size=b.size)=q7 at hB
 cases q7<;>exact at_end []
def namedB(k:Int):Bool:=decide (k=2) ||decide (k=4) ||decide (k=6) ||decide (k=7) ||decide (k=8)
def ndZ:Nd:=⟨⟨#[]⟩,⟨0,0,0⟩,[]⟩
def quZ:Qu:=⟨⟨#[]⟩,⟨0,0,0⟩⟩
def tkZ:Tk:=⟨⟨#[]⟩,⟨#[]⟩,0,⟨0,0,0⟩,[],⟨#[]⟩,⟨#[]⟩,0⟩
def opR(o:Op'):Bool:=
 !(decide (o.kind<1) ||decide (9<o.kind)) && (decide (o.kind=1) ||nodeEq o.node ndZ) && (decide (o.kind=3) ||quEq o.queue quZ) && (decide (o.kind=5) ||taskEq o.task tkZ) && (namedB o.kind||decide (o.name=⟨#[]⟩)) &&
  (if o.kind=1 then nodeB o.node else if o.kind=3 then queueB o.queue else if o.kind=5 then taskB o.task else if o.kind=9 then true else nameB o.name)
theorem name_ok(s:ByteArray):AC PR 85 [.str s] [] (.bool (nameB s)) []:=by
 have hsz:s.data.toList.length=s.size:=rfl
 have hB:nameB s=(decide (1≤s.data.toList.length∧s.data.toList.length≤16) &&decide (s.data.toList[0]? ≠some 45) &&s.data.toList.all chOK):=rfl
 have c1:=containsFunc_ac s
 rw[hasOdd_eq]at c1
 generalize nameB s=B at hB
 generalize s.data.toList.all chOK=Q at hB c1
 generalize hl:s.data.toList=l at hsz hB
 apply A85
 conv=>whnf
 generalize hq1:decide (s=⟨#[]⟩)=q1
 cases q1<;>conv=>whnf
 case true=>
  have e:s=⟨#[]⟩:=of_decide_eq_true hq1
  subst e
  have:l=[]:=hl.symm
  subst this
  exact at_end []
 have h1:1≤l.length:=by
  have:=of_decide_eq_false hq1
  rw[hsz]
  refine Nat.pos_of_ne_zero fun h=>this ?_
  have h2:s.data.toList=[]:=List.length_eq_zero_iff.1 h
  cases s with
  |mk d=>congr;exact Array.toList_inj.1 h2
 generalize hq2:decide ((s.size:Int)≤16)=q2
 cases q2<;>conv=>whnf
 ·have h2:16<l.length:=by have:=of_decide_eq_false hq2;omega
  rw[show decide (1≤l.length∧l.length≤16)=false from decide_eq_false (by omega)]at hB
  exact at_end []
 have h2:l.length≤16:=by have:=of_decide_eq_true hq2;omega
 obtain⟨c,hc⟩:∃c,l[0]? =some c:=⟨_,List.getElem?_eq_getElem (by omega)⟩
 refine k_eq (idx_ok (i:=0) (by rw[hl];exact hc)) ?_
 rw[show decide (1≤l.length∧l.length≤16)=true from decide_eq_true ⟨h1,h2⟩,hc]at hB
 conv=>whnf
 generalize hq3:decide ((c.toNat:Int)=45)=q3
 have e3:decide (some c≠some 45)= !q3:=by
  subst hq3
  by_cases e:c=45
  ·subst e;rfl
  ·have e2:¬ (c.toNat:Int)=45:=fun h=>e (u8_45 h)
   rw[decide_eq_false e2,decide_eq_true (by simpa using e)];rfl
 rw[e3]at hB
 cases q3<;>conv=>whnf
 case true=>exact at_end []
 refine call_closed (c1) ?_
 conv=>whnf
 cases Q<;>exact at_end []
theorem right_ok(r:Rs):AC PR 122 [rsA r] [] (.bool (rightB r)) []:=by
 have hB:rightB r=(inR r.a&&inR r.b&&inR r.c):=rfl
 generalize rightB r=B at hB
 obtain⟨a,b,c⟩:=r
 simp only[inR]at hB
 apply A122
 conv=>whnf
 refine loop_un 4 ?_
 conv=>whnf
 refine tN ?_
 generalize decide (a<0)=q1 at hB
 cases q1<;>conv=>whnf
 case true=>exact at_end []
 generalize decide (1048576<a)=q1 at hB
 cases q1<;>conv=>whnf
 case true=>exact at_end []
 refine tN ?_
 generalize decide (b<0)=q1 at hB
 cases q1<;>conv=>whnf
 case true=>exact at_end []
 generalize decide (1048576<b)=q1 at hB
 cases q1<;>conv=>whnf
 case true=>exact at_end []
 refine tN ?_
 generalize decide (c<0)=q1 at hB
 cases q1<;>conv=>whnf
 case true=>exact at_end []
 generalize decide (1048576<c)=q1 at hB
 cases q1<;>conv=>whnf
 case true=>exact at_end []
 refine tN ?_
 exact at_end []
def fitsB(a b:Rs):Bool:= !decide (b.a<a.a) && !decide (b.b<a.b) && !decide (b.c<a.c)
theorem fits_ok(a b:Rs):AC PR 24 [rsA a,rsA b] [] (.bool (fitsB a b)) []:=by
 have hB:fitsB a b=(!decide (b.a<a.a) && !decide (b.b<a.b) && !decide (b.c<a.c)):=rfl
 generalize fitsB a b=B at hB
 obtain⟨a0,a1,a2⟩:=a
 obtain⟨b0,b1,b2⟩:=b
 simp only at hB
 apply A24
 conv=>whnf
 refine loop_un 4 ?_
 conv=>whnf
 refine tN ?_
 generalize decide (b0<a0)=q1 at hB
 cases q1<;>conv=>whnf
 case true=>exact at_end []
 refine tN ?_
 generalize decide (b1<a1)=q1 at hB
 cases q1<;>conv=>whnf
 case true=>exact at_end []
 refine tN ?_
 generalize decide (b2<a2)=q1 at hB
 cases q1<;>conv=>whnf
 case true=>exact at_end []
 refine tN ?_
 exact at_end []
def addR(a b:Rs)(s:Int):Rs:=⟨a.a+s*b.a,a.b+s*b.b,a.c+s*b.c⟩
def bothF(a b:Rs)(s:Int):Rs×Int:=if rightB a&&rightB b then(if rightB (addR a b s)then(addR a b s,0)else(⟨0,0,0⟩,6))else(⟨0,0,0⟩,1)
theorem inR_iff {n:Int}:inR n=true↔0≤n∧n≤1048576:=by
 unfold inR
 simp only[Bool.not_eq_true',Bool.or_eq_false_iff,decide_eq_false_iff_not]
 omega
theorem rightB_iff {r:Rs}:rightB r=true↔ (0≤r.a∧r.a≤1048576)∧(0≤r.b∧r.b≤1048576)∧(0≤r.c∧r.c≤1048576):=by
 unfold rightB
 simp only[Bool.and_eq_true,inR_iff,and_assoc]
theorem both_ok(a b:Rs)(s:Int)(hs:s=1∨s= -1):AC PR 108 [rsA a,rsA b,i64 s] [] (.tuple [rsA (bothF a b s).1,i64 (bothF a b s).2]) []:=by
 have c1:=right_ok a
 have c2:=right_ok b
 have c3:=right_ok (addR a b s)
 unfold bothF
 cases h1:rightB a
 ·rw[h1]at c1
  apply A108
  conv=>whnf
  refine call_closed (c1) ?_
  conv=>whnf
  exact at_end []
 cases h2:rightB b
 ·rw[h1]at c1
  rw[h2]at c2
  apply A108
  conv=>whnf
  refine call_closed (c1) ?_
  conv=>whnf
  refine call_closed (c2) ?_
  conv=>whnf
  exact at_end []
 rw[h1]at c1
 rw[h2]at c2
 rw[rightB_iff]at h1 h2
 obtain⟨a0,a1,a2⟩:=a
 obtain⟨b0,b1,b2⟩:=b
 simp only at h1 h2
 generalize hR:rightB (addR ⟨a0,a1,a2⟩ ⟨b0,b1,b2⟩ s)=R at c3
 rcases hs with rfl|rfl
 ·apply A108
  conv=>whnf
  refine call_closed (c1) ?_
  conv=>whnf
  refine call_closed (c2) ?_
  conv=>whnf
  refine loop_un 4 ?_
  conv=>whnf
  refine tN ?_
  refine w_as (1*b0) rfl (by omega) ?_
  conv=>whnf
  refine w_as (a0+1*b0) rfl (by omega) ?_
  conv=>whnf
  refine tN ?_
  refine w_as (1*b1) rfl (by omega) ?_
  conv=>whnf
  refine w_as (a1+1*b1) rfl (by omega) ?_
  conv=>whnf
  refine tN ?_
  refine w_as (1*b2) rfl (by omega) ?_
  conv=>whnf
  refine w_as (a2+1*b2) rfl (by omega) ?_
  conv=>whnf
  refine tN ?_
  refine call_closed (c3) ?_
  conv=>whnf
  cases R<;>exact at_end []
 ·apply A108
  conv=>whnf
  refine call_closed (c1) ?_
  conv=>whnf
  refine call_closed (c2) ?_
  conv=>whnf
  refine loop_un 4 ?_
  conv=>whnf
  refine tN ?_
  refine w_as ((-1) *b0) rfl (by omega) ?_
  conv=>whnf
  refine w_as (a0+ (-1) *b0) rfl (by omega) ?_
  conv=>whnf
  refine tN ?_
  refine w_as ((-1) *b1) rfl (by omega) ?_
  conv=>whnf
  refine w_as (a1+ (-1) *b1) rfl (by omega) ?_
  conv=>whnf
  refine tN ?_
  refine w_as ((-1) *b2) rfl (by omega) ?_
  conv=>whnf
  refine w_as (a2+ (-1) *b2) rfl (by omega) ?_
  conv=>whnf
  refine tN ?_
  refine call_closed (c3) ?_
  conv=>whnf
  cases R<;>exact at_end []
def addF(a b:Rs):Rs×Int:=bothF a b 1
def subF(a b:Rs):Rs×Int:=bothF a b (-1)
theorem add_ok(a b:Rs):AC PR 107 [rsA a,rsA b] [] (.tuple [rsA (addF a b).1,i64 (addF a b).2]) []:=by
 have c1:=both_ok a b 1 (.inl rfl)
 unfold addF
 generalize bothF a b 1=x at c1
 apply A107
 conv=>whnf
 refine call_closed (c1) ?_
 conv=>whnf
 exact at_end []
theorem sub_ok(a b:Rs):AC PR 59 [rsA a,rsA b] [] (.tuple [rsA (subF a b).1,i64 (subF a b).2]) []:=by
 have c1:=both_ok a b (-1) (.inr rfl)
 unfold subF
 generalize bothF a b (-1)=x at c1
 apply A59
 conv=>whnf
 refine call_closed (c1) ?_
 conv=>whnf
 exact at_end []
def sumG:List Rs→Rs→Rs×Int
 | [],o=>(o,0)
 |a::l,o=>if(addF o a).2=0 then sumG l (addF o a).1 else(⟨0,0,0⟩,(addF o a).2)
def sumF(l:List Rs):Rs×Int:=sumG l ⟨0,0,0⟩
abbrev rss(l:List Rs):AV:= .lst 3 (l.map rsA) none
theorem sum_ok(l:List Rs)(hl:(l.length:Int)≤1000000):AC PR 58 [rss l] [] (.tuple [rsA (sumF l).1,i64 (sumF l).2]) []:=by
 have hm:(l.map rsA).length=l.length:=List.length_map ..
 unfold sumF
 generalize ht:sumG l ⟨0,0,0⟩=t
 apply A58
 conv=>whnf
 refine loop_to l.length (fun k e H=>∃o:Rs,sumG (l.drop k) o=t∧e=[(2, .ptr 0 0 0),(4, .ptr 1 0 0),(9,rss l),(10,i64 (l.map rsA).length),(11,i64 k)]∧H=[some (.rows 40 3 [.agg [i64 0,i64 0,i64 0]]),some (.rows 40 3 [.agg [i64 o.a,i64 o.b,i64 o.c]])]) ?_ ?_
 ·rintro k e H hk ⟨o,ho,rfl,rfl⟩
  conv=>whnf
  generalize hq:decide ((k:Int)<((l.map rsA).length:Int))=q
  cases q
  case false=>
   have hk2:k=l.length:=by have:=of_decide_eq_false hq;omega
   subst hk2
   rw[List.drop_length]at ho
   subst ho
   conv=>whnf
   exact at_end []
  have hk2:k<l.length:=by have:=of_decide_eq_true hq;omega
  have hga:=List.getElem?_eq_getElem hk2
  rw[List.drop_eq_getElem_cons hk2]at ho
  generalize l[k]=x at hga ho
  simp only[sumG]at ho
  have c1:=add_ok o x
  generalize addF o x=y at ho c1
  conv=>whnf
  refine tA ?_
  refine call_closed c1 ?_
  conv=>whnf
  generalize hq1:decide (y.2=0)=q1
  cases q1<;>conv=>whnf
  ·rw[if_neg (of_decide_eq_false hq1)]at ho
   subst ho
   exact at_end []
  rw[if_pos (of_decide_eq_true hq1)]at ho
  refine w_as ((k+1:Nat):Int) (by omega) (by omega) ?_
  conv=>whnf
  exact at_head [some 0,some 1] _ [(2, .ptr 0 0 0),(4, .ptr 1 0 0),(9,rss l),(10,i64 (l.map rsA).length),(11,i64 (k+1:Nat))] ⟨by omega,y.1,ho,rfl,rfl⟩
 ·conv=>whnf
  exact at_head [some 0,some 1] _ [(2, .ptr 0 0 0),(4, .ptr 1 0 0),(9,rss l),(10,i64 (l.map rsA).length),(11,i64 (0:Nat))] ⟨⟨0,0,0⟩,by simpa using ht,rfl,rfl⟩
def idxOf(l:List Lb)(x:Lb):Int:=match l.findIdx? (fun y=>decide (x=y))with
 |some i=>i
 |none=> -1
theorem lb_eqB(x y:Lb):(decide (x.1=y.1) && (decide (x.2=y.2) &&true))=decide (x=y):=by
 obtain⟨a,b⟩:=x
 obtain⟨c,d⟩:=y
 rw[Bool.eq_iff_iff]
 simp only[Bool.and_true,Bool.and_eq_true,decide_eq_true_eq,Prod.mk.injEq]
theorem index_ok(l:List Lb)(x:Lb)(hl:(l.length:Int)≤1000000):AC PR 169 [lbs l,lb x] [] (i64 (idxOf l x)) []:=by
 have hm:(l.map lb).length=l.length:=List.length_map ..
 generalize hr:idxOf l x=r
 apply A169
 conv=>whnf
 refine loop_to l.length (fun k e H=>(∀j y,j<k→l[j]? =some y→decide (x=y)=false)∧e=[(0,lbs l),(3, .ptr 0 0 0),(7,i64 (l.map lb).length),(8,i64 k)]∧H=[some (.rows 65 2 [.agg [.str x.1, .str x.2]])]) ?_ ?_
 ·rintro k e H hk ⟨hn,rfl,rfl⟩
  conv=>whnf
  generalize hq:decide ((k:Int)<((l.map lb).length:Int))=q
  cases q
  case false=>
   have hk2:k=l.length:=by have:=of_decide_eq_false hq;omega
   have hnone:l.findIdx? (fun y=>decide (x=y))=none:=by
    rw[List.findIdx?_eq_none_iff]
    intro y hy
    obtain⟨j,hj,rfl⟩:=List.getElem_of_mem hy
    exact hn j _ (by omega) (List.getElem?_eq_getElem hj)
   have:r= -1:=by rw[←hr,idxOf,hnone]
   subst this
   conv=>whnf
   exact at_end []
  have hk2:k<l.length:=by have:=of_decide_eq_true hq;omega
  have hga:=List.getElem?_eq_getElem hk2
  generalize hy:l[k]=y at hga
  conv=>whnf
  refine tA ?_
  rw[lb_eqB]
  generalize hq1:decide (x=y)=q1
  cases q1<;>conv=>whnf
  ·refine w_as ((k+1:Nat):Int) (by omega) (by omega) ?_
   conv=>whnf
   exact at_head [some 0] _ [(0,lbs l),(3, .ptr 0 0 0),(7,i64 (l.map lb).length),(8,i64 (k+1:Nat))] ⟨by omega,fun j z hj hz=>by
    by_cases e:j=k
    ·subst e;rw[hga]at hz;cases hz;exact hq1
    ·exact hn j z (by omega) hz,rfl,rfl⟩
  ·have hs:l.findIdx? (fun y=>decide (x=y))=some k:=by
    rw[List.findIdx?_eq_some_iff_getElem]
    refine⟨hk2,by rw[hy];exact hq1,fun j hj=> ?_⟩
    rw[hn j _ hj (List.getElem?_eq_getElem (by omega))];simp
   have:r=k:=by rw[←hr,idxOf,hs]
   subst this
   exact at_end []
 ·conv=>whnf
  exact at_head [some 0] _ [(0,lbs l),(3, .ptr 0 0 0),(7,i64 (l.map lb).length),(8,i64 (0:Nat))] ⟨by omega,rfl,rfl⟩
def hasL(l:List Lb)(x:Lb):Bool:=decide (0≤idxOf l x)
theorem contains_ok(l:List Lb)(x:Lb)(hl:(l.length:Int)≤1000000):AC PR 142 [lbs l, .agg [.str x.1, .str x.2]] [] (.bool (hasL l x)) []:=by
 have c1:AC PR 169 [lbs l, .agg [.str x.1, .str x.2]] [] (i64 (idxOf l x)) []:=index_ok l x hl
 unfold hasL
 generalize idxOf l x=r at c1
 apply A142
 conv=>whnf
 refine call_closed (c1) ?_
 conv=>whnf
 exact at_end []
def hasB(l w:List Lb):Bool:=w.all (hasL l)
theorem has_ok(l w:List Lb)(hl:(l.length:Int)≤1000000)(hw:(w.length:Int)≤1000000):AC PR 114 [lbs l,lbs w] [] (.bool (hasB l w)) []:=by
 have hm:(w.map lb).length=w.length:=List.length_map ..
 have hB:hasB l w=w.all (hasL l):=rfl
 generalize hasB l w=B at hB
 apply A114
 conv=>whnf
 refine loop_to w.length (fun k e H=>(w.take k).all (hasL l)=true∧e=[(0,lbs l),(7,lbs w),(8,i64 (w.map lb).length),(9,i64 k)]∧H=[]) ?_ ?_
 ·rintro k e H hk ⟨ht,rfl,rfl⟩
  conv=>whnf
  generalize hq:decide ((k:Int)<((w.map lb).length:Int))=q
  cases q
  case false=>
   have hk2:k=w.length:=by have:=of_decide_eq_false hq;omega
   rw[hk2,List.take_length]at ht
   rw[ht]at hB
   conv=>whnf
   exact at_end []
  have hk2:k<w.length:=by have:=of_decide_eq_true hq;omega
  have hga:=List.getElem?_eq_getElem hk2
  generalize w[k]=y at hga
  have c1:=contains_ok l y hl
  generalize hq1:hasL l y=q1 at c1
  conv=>whnf
  refine tA ?_
  refine call_closed c1 ?_
  conv=>whnf
  cases q1<;>conv=>whnf
  ·have:B=false:=by rw[hB];exact List.all_eq_false.2 ⟨y,List.mem_of_getElem? hga,by simp[hq1]⟩
   exact at_end []
  ·refine w_as ((k+1:Nat):Int) (by omega) (by omega) ?_
   conv=>whnf
   exact at_head [] [] [(0,lbs l),(7,lbs w),(8,i64 (w.map lb).length),(9,i64 (k+1:Nat))] ⟨by omega,by
    rw[List.take_add_one,hga]
    simp only[Option.toList_some,List.all_append,ht,List.all_cons,hq1,List.all_nil,Bool.and_self],rfl,rfl⟩
 ·conv=>whnf
  exact at_head [] [] [(0,lbs l),(7,lbs w),(8,i64 (w.map lb).length),(9,i64 (0:Nat))] ⟨by simp,rfl,rfl⟩
end Go.Am.Pt
end
section
namespace Go.Am
open Go
theorem bl_irr:∀l:List UInt8,Op.bytesLess l l=false
 | []=>rfl
 |a::l=>by simp[Op.bytesLess,bl_irr l]
theorem bl_trans:∀x y z:List UInt8,Op.bytesLess x y=true→Op.bytesLess y z=true→Op.bytesLess x z=true
 |_,[],_,h,_=>by cases ‹List UInt8› <;>simp[Op.bytesLess]at h
 |_,_::_,[],_,h=>by simp[Op.bytesLess]at h
 | [],_::_,_::_,_,_=>rfl
 |a::x,b::y,c::z,h1,h2=>by
  simp only[Op.bytesLess,Bool.or_eq_true,decide_eq_true_eq,Bool.and_eq_true,beq_iff_eq]at h1 h2⊢
  rcases h1 with h1| ⟨rfl,h1⟩<;>rcases h2 with h2| ⟨rfl,h2⟩
  ·exact .inl (UInt8.lt_trans h1 h2)
  ·exact .inl h1
  ·exact .inl h2
  ·exact .inr ⟨rfl,bl_trans x y z h1 h2⟩
theorem bl_total:∀x y:List UInt8,Op.bytesLess x y=false→Op.bytesLess y x=false→x=y
 | [],[],_,_=>rfl
 | [],_::_,h,_=>by simp[Op.bytesLess]at h
 |_::_,[],_,h=>by simp[Op.bytesLess]at h
 |a::x,b::y,h1,h2=>by
  simp only[Op.bytesLess,Bool.or_eq_false_iff,decide_eq_false_iff_not,Bool.and_eq_false_iff,beq_eq_false_iff_ne]at h1 h2
  have e:a=b:=UInt8.le_antisymm (UInt8.not_lt.1 h2.1) (UInt8.not_lt.1 h1.1)
  subst e
  rcases h1.2 with h|h
  ·exact absurd rfl h
  ·rcases h2.2 with h'|h'
   ·exact absurd rfl h'
   ·rw[bl_total x y h h']
theorem lt_irr(a:ByteArray):strLt a a=false:=bl_irr _
theorem lt_trans {a b c:ByteArray}(h:strLt a b=true)(k:strLt b c=true):strLt a c=true:=bl_trans _ _ _ h k
theorem lt_total {a b:ByteArray}(h:strLt a b=false)(k:strLt b a=false):a=b:=(by
 have e:=bl_total _ _ h k
 have h2:=toList_inj a b
 rw[e]at h2
 simpa using h2.symm)
theorem lt_asymm {a b:ByteArray}(h:strLt a b=true):strLt b a=false:=by
 cases hb:strLt b a
 ·rfl
 ·have:=lt_trans h hb;rw[lt_irr]at this;cases this
theorem lt_ne {a b:ByteArray}(h:strLt a b=true):a≠b:=by rintro rfl;rw[lt_irr]at h;cases h
theorem le_not(a b:ByteArray):(strLt a b||decide (a=b))= !strLt b a:=by
 cases h:strLt b a
 ·cases k:strLt a b
  ·rw[lt_total k h];simp
  ·rfl
 ·rw[lt_asymm h]
  have:=(lt_ne h).symm
  simp[this]
end Go.Am
end
section
open Go Go.Am Go.Proofs
namespace Go.Am.Pt
def lastK(l:List Lb)(k:Nat):ByteArray:=
 match k with
 |0=>⟨#[]⟩
 |j+1=>match l[j]? with
  |some y=>y.1
  |none=>⟨#[]⟩
theorem labels_ok(l:List Lb):AC PR 123 [lbs l] [] (.bool (labelsB l)) []:=by
 have hm:(l.map lb).length=l.length:=List.length_map ..
 have hB:labelsB l=(decide (l.length≤4) && (List.range l.length).all (okAt l)):=rfl
 generalize labelsB l=B at hB
 apply A123
 conv=>whnf
 generalize hq:decide (4<((l.map lb).length:Int))=q
 cases q
 case true=>
  have h1:4<l.length:=by have:=of_decide_eq_true hq;omega
  rw[decide_eq_false (show¬l.length≤4 by omega)]at hB
  subst hB
  conv=>whnf
  exact at_end []
 have h4:l.length≤4:=by have:=of_decide_eq_false hq;omega
 rw[decide_eq_true h4,Bool.true_and]at hB
 conv=>whnf
 refine loop_to l.length (fun k e H=>e=[(3, .str (lastK l k)),(9,lbs l),(10,i64 (l.map lb).length),(11,i64 k)]∧H=[]∧∀j,j<k→okAt l j=true) ?_ ?_
 ·rintro k e H hk ⟨rfl,rfl,ht⟩
  conv=>whnf
  generalize hq:decide ((k:Int)<((l.map lb).length:Int))=q
  cases q
  case false=>
   have hk2:k=l.length:=by have:=of_decide_eq_false hq;omega
   have h1:(List.range l.length).all (okAt l)=true:=List.all_eq_true.2 fun j hj=>ht j (by have:=List.mem_range.1 hj;omega)
   rw[h1]at hB
   conv=>whnf
   exact at_end []
  have hk2:k<l.length:=by have:=of_decide_eq_true hq;omega
  have good:okAt l k=true→∀j,j<k+1→okAt l j=true:=fun h j hj=>by
   by_cases e:j=k
   ·subst e;exact h
   ·exact ht j (by omega)
  have bad:okAt l k=false→B=false:=fun h=>by rw[hB];exact all_range_false hk2 h
  have hga:=List.getElem?_eq_getElem hk2
  generalize l[k]=x at hga
  have hx:okAt l k=(nameB x.1&&nameB x.2&& (decide (k=0) || (match l[k-1]? with
   |none=>true
   |some y=>strLt y.1 x.1))):=by unfold okAt;rw[hga]<;>cases l[k-1]? <;>rfl
  have hlk:lastK l (k+1)=x.1:=by show(match l[k]? with|some y=>y.1|none=>⟨#[]⟩)=x.1;rw[hga]
  have c1:=name_ok x.1
  have c2:=name_ok x.2
  generalize nameB x.1=q1 at hx c1
  generalize nameB x.2=q2 at hx c2
  conv=>whnf
  refine tA ?_
  refine call_closed c1 ?_
  conv=>whnf
  cases q1<;>conv=>whnf
  ·replace bad:=bad hx
   exact at_end []
  refine call_closed c2 ?_
  conv=>whnf
  cases q2<;>conv=>whnf
  ·replace bad:=bad hx
   exact at_end []
  cases k with
  |zero=>
   conv=>whnf
   refine w_as ((0+1:Nat):Int) (by omega) (by omega) ?_
   conv=>whnf
   exact at_head [] [] _ ⟨by omega,by rw[hlk],rfl,good hx⟩
  |succ j=>
   have hgb:=List.getElem?_eq_getElem (show j<l.length by omega)
   generalize l[j]'(show j<l.length by omega)=y at hgb
   rw[show j+1-1=j from rfl,hgb,decide_eq_false (show¬j+1=0 by omega)]at hx
   simp only[Bool.true_and,Bool.false_or]at hx
   have hly:lastK l (j+1)=y.1:=by show(match l[j]? with|some y=>y.1|none=>⟨#[]⟩)=y.1;rw[hgb]
   generalize hq3:decide (0<((j+1:Nat):Int))=q3
   cases q3
   case false=>have:=of_decide_eq_false hq3;omega
   conv=>whnf
   rw[hly,le_not]
   cases hs:strLt y.1 x.1
   ·rw[hs]at hx
    conv=>whnf
    replace bad:=bad hx
    exact at_end []
   ·rw[hs]at hx
    conv=>whnf
    refine w_as ((j+1+1:Nat):Int) (by omega) (by omega) ?_
    conv=>whnf
    exact at_head [] [] _ ⟨by omega,by rw[hlk],rfl,good hx⟩
 ·conv=>whnf
  exact at_head [] [] _ ⟨rfl,rfl,by omega⟩
theorem node_ok(n:Nd):AC PR 81 [nodeA n] [] (.bool (nodeB n)) []:=by
 have hB:nodeB n=(nameB n.name&&rightB n.cap&&labelsB n.labels):=rfl
 have c1:=name_ok n.name
 have c2:=right_ok n.cap
 have c3:=labels_ok n.labels
 generalize nodeB n=B at hB
 generalize nameB n.name=q1 at hB c1
 generalize rightB n.cap=q2 at hB c2
 generalize labelsB n.labels=q3 at hB c3
 apply A81
 conv=>whnf
 refine call_closed (c1) ?_
 conv=>whnf
 cases q1<;>conv=>whnf
 ·exact at_end []
 refine call_closed (c2) ?_
 conv=>whnf
 cases q2<;>conv=>whnf
 ·exact at_end []
 refine call_closed (c3) ?_
 conv=>whnf
 cases q3<;>exact at_end []
theorem queue_ok(n:Qu):AC PR 82 [quA n] [] (.bool (queueB n)) []:=by
 have hB:queueB n=(nameB n.name&&rightB n.quota):=rfl
 have c1:=name_ok n.name
 have c2:=right_ok n.quota
 generalize queueB n=B at hB
 generalize nameB n.name=q1 at hB c1
 generalize rightB n.quota=q2 at hB c2
 apply A82
 conv=>whnf
 refine call_closed (c1) ?_
 conv=>whnf
 cases q1<;>conv=>whnf
 ·exact at_end []
 refine call_closed (c2) ?_
 conv=>whnf
 cases q2<;>exact at_end []
theorem maybe_ok(s:ByteArray):AC PR 124 [.str s] [] (.bool (maybeB s)) []:=by
 have hB:maybeB s=(decide (s=⟨#[]⟩) ||nameB s):=rfl
 have c1:=name_ok s
 generalize maybeB s=B at hB
 generalize nameB s=q1 at hB c1
 apply A124
 conv=>whnf
 generalize decide (s=⟨#[]⟩)=q2 at hB
 cases q2<;>conv=>whnf
 case true=>exact at_end []
 refine call_closed (c1) ?_
 conv=>whnf
 cases q1<;>exact at_end []
theorem task_ok(t:Tk):AC PR 83 [tkA t] [] (.bool (taskB t)) []:=by
 have hB:taskB t=(nameB t.name&&nameB t.queue&& !(decide (t.prio<0) ||decide (9<t.prio)) &&rightB t.need&&labelsB t.wants&&maybeB t.apart&&gangB t):=rfl
 have hG:gangB t=if t.gang=⟨#[]⟩then decide (t.size=0)else nameB t.gang&&decide (2≤t.size) &&decide (t.size≤4):=rfl
 have hM:maybeB t.gang=(decide (t.gang=⟨#[]⟩) ||nameB t.gang):=rfl
 have c1:=name_ok t.name
 have c2:=name_ok t.queue
 have c3:=right_ok t.need
 have c4:=labels_ok t.wants
 have c5:=maybe_ok t.apart
 have c6:=maybe_ok t.gang
 generalize taskB t=B at hB
 generalize gangB t=G at hB hG
 generalize nameB t.name=q1 at hB c1
 generalize nameB t.queue=q2 at hB c2
 generalize rightB t.need=q3 at hB c3
 generalize labelsB t.wants=q4 at hB c4
 generalize maybeB t.apart=q5 at hB c5
 generalize maybeB t.gang=q6 at hM c6
 apply A83
 conv=>whnf
 refine call_closed (c1) ?_
 conv=>whnf
 cases q1<;>conv=>whnf
 ·exact at_end []
 refine call_closed (c2) ?_
 conv=>whnf
 cases q2<;>conv=>whnf
 ·exact at_end []
 generalize decide (t.prio<0)=p1 at hB
 cases p1<;>conv=>whnf
 case true=>exact at_end []
 generalize decide (9<t.prio)=p2 at hB
 cases p2<;>conv=>whnf
 case true=>exact at_end []
 refine call_closed (c3) ?_
 conv=>whnf
 cases q3<;>conv=>whnf
 ·exact at_end []
 refine call_closed (c4) ?_
 conv=>whnf
 cases q4<;>conv=>whnf
 ·exact at_end []
 refine call_closed (c5) ?_
 conv=>whnf
 cases q5<;>conv=>whnf
 ·exact at_end []
 simp only[Bool.true_and,Bool.not_false,Bool.or_false]at hB
 subst hB
 by_cases hg:t.gang=⟨#[]⟩
 ·rw[if_pos hg]at hG
  rw[decide_eq_true hg]at hM
  subst hM
  refine call_closed (c6) ?_
  conv=>whnf
  rw[decide_eq_true hg]
  conv=>whnf
  exact at_end []
 rw[if_neg hg]at hG
 rw[decide_eq_false hg,Bool.false_or]at hM
 rw[←hM]at hG
 refine call_closed (c6) ?_
 conv=>whnf
 cases q6<;>conv=>whnf
 ·exact at_end []
 rw[decide_eq_false hg]
 conv=>whnf
 generalize decide (2≤t.size)=p4 at hG
 cases p4<;>conv=>whnf
 ·exact at_end []
 exact at_end []
theorem named_ok(k:Int):AC PR 84 [i64 k] [] (.bool (namedB k)) []:=by
 have hB:namedB k=(decide (k=2) ||decide (k=4) ||decide (k=6) ||decide (k=7) ||decide (k=8)):=rfl
 generalize namedB k=B at hB
 apply A84
 conv=>whnf
 generalize decide (k=2)=q1 at hB
 cases q1<;>conv=>whnf
 case true=>exact at_end []
 generalize decide (k=4)=q1 at hB
 cases q1<;>conv=>whnf
 case true=>exact at_end []
 generalize decide (k=6)=q1 at hB
 cases q1<;>conv=>whnf
 case true=>exact at_end []
 generalize decide (k=7)=q1 at hB
 cases q1<;>conv=>whnf
 case true=>exact at_end []
 generalize decide (k=8)=q1 at hB
 cases q1<;>exact at_end []
def catT(t:Tk):ByteArray:=t.name++t.queue++t.apart++t.gang
def nodeZ(n:Nd):Bool:=decide (n.name=⟨#[]⟩) && (decide (n.cap.a=0) && (decide (n.cap.b=0) && (decide (n.cap.c=0) &&true))) && !decide (0<((n.labels.map lb).length:Int))
def taskZ(t:Tk):Bool:=decide (catT t=⟨#[]⟩) &&decide (t.prio=0) &&decide (t.size=0) && (decide (t.need.a=0) && (decide (t.need.b=0) && (decide (t.need.c=0) &&true))) && !decide (0<((t.wants.map lb).length:Int))
def quZ'(q:Qu):Bool:=decide (q.name=⟨#[]⟩) && (decide (q.quota.a=0) && (decide (q.quota.b=0) && (decide (q.quota.c=0) &&true)))
def bareB(o:Op'):Bool:=(decide (o.kind=1) ||nodeZ o.node) && (decide (o.kind=3) ||quZ' o.queue) && (decide (o.kind=5) ||taskZ o.task) && (namedB o.kind||decide (o.name=⟨#[]⟩))
theorem at_cat {a b:ByteArray}{k:AV→Prop}(h:(a.size:Int)+b.size≤1000000000)(hk:k (.str (a++b))):CatK a b k:=⟨by omega,hk⟩
structure Sized(t:Tk):Prop where
 s:(t.name.size:Int)+t.queue.size+t.apart.size+t.gang.size≤1000000000
theorem bare_ok(o:Op')(hz:Sized o.task):AC PR 80 [opA o] [] (.bool (bareB o)) []:=by
 obtain⟨hz⟩:=hz
 obtain⟨kind,node,queue,task,name⟩:=o
 have hB:bareB ⟨kind,node,queue,task,name⟩=((decide (kind=1) || (decide (node.name=⟨#[]⟩) && (decide (node.cap.a=0) && (decide (node.cap.b=0) && (decide (node.cap.c=0) &&true))) && !decide (0<((node.labels.map lb).length:Int)))) &&
  (decide (kind=3) || (decide (queue.name=⟨#[]⟩) && (decide (queue.quota.a=0) && (decide (queue.quota.b=0) && (decide (queue.quota.c=0) &&true))))) &&
  (decide (kind=5) || (decide (task.name++task.queue++task.apart++task.gang=⟨#[]⟩) &&decide (task.prio=0) &&decide (task.size=0) && (decide (task.need.a=0) && (decide (task.need.b=0) && (decide (task.need.c=0) &&true))) && !decide (0<((task.wants.map lb).length:Int)))) &&
  (namedB kind||decide (name=⟨#[]⟩))):=rfl
 have c1:=named_ok kind
 generalize bareB ⟨kind,node,queue,task,name⟩=B at hB
 generalize namedB kind=N at hB c1
 simp only at hz
 have z1:(task.name++task.queue).size=task.name.size+task.queue.size:=ByteArray.size_append ..
 have z2:(task.name++task.queue++task.apart).size=(task.name++task.queue).size+task.apart.size:=ByteArray.size_append ..
 apply A80
 conv=>whnf
 refine tA ?_
 generalize decide (kind=1)=q1 at hB
 cases q1<;>conv=>whnf
 ·generalize decide (node.name=⟨#[]⟩)=q2 at hB
  cases q2<;>conv=>whnf
  ·exact at_end []
  generalize(decide (node.cap.a=0) && (decide (node.cap.b=0) && (decide (node.cap.c=0) &&true)))=q3 at hB
  cases q3<;>conv=>whnf
  ·exact at_end []
  generalize decide (0<((node.labels.map lb).length:Int))=q4 at hB
  cases q4<;>conv=>whnf
  case true=>exact at_end []
  generalize decide (kind=3)=q5 at hB
  cases q5<;>conv=>whnf
  ·generalize(decide (queue.name=⟨#[]⟩) && (decide (queue.quota.a=0) && (decide (queue.quota.b=0) && (decide (queue.quota.c=0) &&true))))=q6 at hB
   cases q6<;>conv=>whnf
   ·exact at_end []
   generalize decide (kind=5)=q7 at hB
   cases q7<;>conv=>whnf
   ·refine at_cat (a:=task.name) (b:=task.queue) (by omega) ?_
    conv=>whnf
    refine at_cat (a:=task.name++task.queue) (b:=task.apart) (by omega) ?_
    conv=>whnf
    refine at_cat (a:=task.name++task.queue++task.apart) (b:=task.gang) (by omega) ?_
    conv=>whnf
    generalize decide (task.name++task.queue++task.apart++task.gang=⟨#[]⟩)=q8 at hB
    cases q8<;>conv=>whnf
    ·exact at_end []
    generalize decide (task.prio=0)=q9 at hB
    cases q9<;>conv=>whnf
    ·exact at_end []
    generalize decide (task.size=0)=q10 at hB
    cases q10<;>conv=>whnf
    ·exact at_end []
    generalize(decide (task.need.a=0) && (decide (task.need.b=0) && (decide (task.need.c=0) &&true)))=q11 at hB
    cases q11<;>conv=>whnf
    ·exact at_end []
    generalize decide (0<((task.wants.map lb).length:Int))=q12 at hB
    cases q12<;>conv=>whnf
    case true=>exact at_end []
    refine call_closed c1 ?_
    conv=>whnf
    cases N<;>conv=>whnf
    ·generalize decide (name=⟨#[]⟩)=q13 at hB
     cases q13<;>exact at_end []
    ·exact at_end []
   ·refine call_closed c1 ?_
    conv=>whnf
    cases N<;>conv=>whnf
    ·generalize decide (name=⟨#[]⟩)=q13 at hB
     cases q13<;>exact at_end []
    ·exact at_end []
  ·generalize decide (kind=5)=q7 at hB
   cases q7<;>conv=>whnf
   ·refine at_cat (a:=task.name) (b:=task.queue) (by omega) ?_
    conv=>whnf
    refine at_cat (a:=task.name++task.queue) (b:=task.apart) (by omega) ?_
    conv=>whnf
    refine at_cat (a:=task.name++task.queue++task.apart) (b:=task.gang) (by omega) ?_
    conv=>whnf
    generalize decide (task.name++task.queue++task.apart++task.gang=⟨#[]⟩)=q8 at hB
    cases q8<;>conv=>whnf
    ·exact at_end []
    generalize decide (task.prio=0)=q9 at hB
    cases q9<;>conv=>whnf
    ·exact at_end []
    generalize decide (task.size=0)=q10 at hB
    cases q10<;>conv=>whnf
    ·exact at_end []
    generalize(decide (task.need.a=0) && (decide (task.need.b=0) && (decide (task.need.c=0) &&true)))=q11 at hB
    cases q11<;>conv=>whnf
    ·exact at_end []
    generalize decide (0<((task.wants.map lb).length:Int))=q12 at hB
    cases q12<;>conv=>whnf
    case true=>exact at_end []
    refine call_closed c1 ?_
    conv=>whnf
    cases N<;>conv=>whnf
    ·generalize decide (name=⟨#[]⟩)=q13 at hB
     cases q13<;>exact at_end []
    ·exact at_end []
   ·refine call_closed c1 ?_
    conv=>whnf
    cases N<;>conv=>whnf
    ·generalize decide (name=⟨#[]⟩)=q13 at hB
     cases q13<;>exact at_end []
    ·exact at_end []
 ·generalize decide (kind=3)=q5 at hB
  cases q5<;>conv=>whnf
  ·generalize(decide (queue.name=⟨#[]⟩) && (decide (queue.quota.a=0) && (decide (queue.quota.b=0) && (decide (queue.quota.c=0) &&true))))=q6 at hB
   cases q6<;>conv=>whnf
   ·exact at_end []
   generalize decide (kind=5)=q7 at hB
   cases q7<;>conv=>whnf
   ·refine at_cat (a:=task.name) (b:=task.queue) (by omega) ?_
    conv=>whnf
    refine at_cat (a:=task.name++task.queue) (b:=task.apart) (by omega) ?_
    conv=>whnf
    refine at_cat (a:=task.name++task.queue++task.apart) (b:=task.gang) (by omega) ?_
    conv=>whnf
    generalize decide (task.name++task.queue++task.apart++task.gang=⟨#[]⟩)=q8 at hB
    cases q8<;>conv=>whnf
    ·exact at_end []
    generalize decide (task.prio=0)=q9 at hB
    cases q9<;>conv=>whnf
    ·exact at_end []
    generalize decide (task.size=0)=q10 at hB
    cases q10<;>conv=>whnf
    ·exact at_end []
    generalize(decide (task.need.a=0) && (decide (task.need.b=0) && (decide (task.need.c=0) &&true)))=q11 at hB
    cases q11<;>conv=>whnf
    ·exact at_end []
    generalize decide (0<((task.wants.map lb).length:Int))=q12 at hB
    cases q12<;>conv=>whnf
    case true=>exact at_end []
    refine call_closed c1 ?_
    conv=>whnf
    cases N<;>conv=>whnf
    ·generalize decide (name=⟨#[]⟩)=q13 at hB
     cases q13<;>exact at_end []
    ·exact at_end []
   ·refine call_closed c1 ?_
    conv=>whnf
    cases N<;>conv=>whnf
    ·generalize decide (name=⟨#[]⟩)=q13 at hB
     cases q13<;>exact at_end []
    ·exact at_end []
  ·generalize decide (kind=5)=q7 at hB
   cases q7<;>conv=>whnf
   ·refine at_cat (a:=task.name) (b:=task.queue) (by omega) ?_
    conv=>whnf
    refine at_cat (a:=task.name++task.queue) (b:=task.apart) (by omega) ?_
    conv=>whnf
    refine at_cat (a:=task.name++task.queue++task.apart) (b:=task.gang) (by omega) ?_
    conv=>whnf
    generalize decide (task.name++task.queue++task.apart++task.gang=⟨#[]⟩)=q8 at hB
    cases q8<;>conv=>whnf
    ·exact at_end []
    generalize decide (task.prio=0)=q9 at hB
    cases q9<;>conv=>whnf
    ·exact at_end []
    generalize decide (task.size=0)=q10 at hB
    cases q10<;>conv=>whnf
    ·exact at_end []
    generalize(decide (task.need.a=0) && (decide (task.need.b=0) && (decide (task.need.c=0) &&true)))=q11 at hB
    cases q11<;>conv=>whnf
    ·exact at_end []
    generalize decide (0<((task.wants.map lb).length:Int))=q12 at hB
    cases q12<;>conv=>whnf
    case true=>exact at_end []
    refine call_closed c1 ?_
    conv=>whnf
    cases N<;>conv=>whnf
    ·generalize decide (name=⟨#[]⟩)=q13 at hB
     cases q13<;>exact at_end []
    ·exact at_end []
   ·refine call_closed c1 ?_
    conv=>whnf
    cases N<;>conv=>whnf
    ·generalize decide (name=⟨#[]⟩)=q13 at hB
     cases q13<;>exact at_end []
    ·exact at_end []
def pOpR(o:Op'):Bool:=bareB o&& (if o.kind=1 then nodeB o.node else if o.kind=3 then queueB o.queue else if o.kind=5 then taskB o.task else if o.kind=9 then true else namedB o.kind&&nameB o.name)
theorem popRight_ok(o:Op')(hz:Sized o.task):AC PR 43 [opA o] [] (.bool (pOpR o)) []:=by
 have hB:pOpR o=(bareB o&& (if o.kind=1 then nodeB o.node else if o.kind=3 then queueB o.queue else if o.kind=5 then taskB o.task else if o.kind=9 then true else namedB o.kind&&nameB o.name)):=rfl
 have c0:=bare_ok o hz
 have c1:=node_ok o.node
 have c2:=queue_ok o.queue
 have c3:=task_ok o.task
 have c4:=named_ok o.kind
 have c5:=name_ok o.name
 generalize pOpR o=B at hB
 generalize bareB o=q0 at hB c0
 generalize nodeB o.node=q1 at hB c1
 generalize queueB o.queue=q2 at hB c2
 generalize taskB o.task=q3 at hB c3
 generalize namedB o.kind=q4 at hB c4
 generalize nameB o.name=q5 at hB c5
 apply A43
 conv=>whnf
 refine call_closed (c0) ?_
 conv=>whnf
 cases q0<;>conv=>whnf
 ·exact at_end []
 rw[Bool.true_and]at hB
 generalize h1:decide (o.kind=1)=p1
 cases p1<;>conv=>whnf
 case true=>
  rw[if_pos (of_decide_eq_true h1)]at hB
  refine call_closed (c1) ?_
  conv=>whnf
  exact at_end []
 rw[if_neg (of_decide_eq_false h1)]at hB
 generalize h3:decide (o.kind=3)=p1
 cases p1<;>conv=>whnf
 case true=>
  rw[if_pos (of_decide_eq_true h3)]at hB
  refine call_closed (c2) ?_
  conv=>whnf
  exact at_end []
 rw[if_neg (of_decide_eq_false h3)]at hB
 generalize h5:decide (o.kind=5)=p1
 cases p1<;>conv=>whnf
 case true=>
  rw[if_pos (of_decide_eq_true h5)]at hB
  refine call_closed (c3) ?_
  conv=>whnf
  exact at_end []
 rw[if_neg (of_decide_eq_false h5)]at hB
 generalize h9:decide (o.kind=9)=p1
 cases p1<;>conv=>whnf
 case true=>
  rw[if_pos (of_decide_eq_true h9)]at hB
  exact at_end []
 rw[if_neg (of_decide_eq_false h9)]at hB
 refine call_closed (c4) ?_
 conv=>whnf
 cases q4<;>conv=>whnf
 ·exact at_end []
 refine call_closed (c5) ?_
 conv=>whnf
 exact at_end []
theorem empty_iff(a:ByteArray):a=⟨#[]⟩ ↔a.size=0:=by
 constructor
 ·rintro rfl;rfl
 ·intro h
  cases a with
  |mk d=>
   have:d= #[]:=Array.size_eq_zero_iff.1 h
   rw[this]
theorem cat_empty(a b:ByteArray):decide (a++b=⟨#[]⟩)=(decide (a=⟨#[]⟩) &&decide (b=⟨#[]⟩)):=by
 rw[Bool.eq_iff_iff]
 simp only[Bool.and_eq_true,decide_eq_true_eq,empty_iff,ByteArray.size_append]
 omega
theorem len_z(l:List Lb):(!decide (0<((l.map lb).length:Int)))=decide (l=[]):=by
 cases l with
 |nil=>rfl
 |cons a l=>
  have:(0:Int)<(((a::l).map lb).length:Int):=by simp
  rw[decide_eq_true this];simp
theorem nodeZ_eq(n:Nd):nodeZ n=nodeEq n ndZ:=by
 unfold nodeZ nodeEq rsEq
 rw[len_z];rfl
theorem taskZ_eq(t:Tk):taskZ t=taskEq t tkZ:=by
 unfold taskZ taskEq rsEq catT
 rw[len_z,cat_empty,cat_empty,cat_empty]
 rw[Bool.eq_iff_iff]
 simp only[Bool.and_eq_true,Bool.and_true,decide_eq_true_eq,show tkZ.name=⟨#[]⟩from rfl,show tkZ.queue=⟨#[]⟩from rfl,show tkZ.prio=0 from rfl,show tkZ.need=⟨0,0,0⟩from rfl,show tkZ.wants=[]from rfl,show tkZ.apart=⟨#[]⟩from rfl,show tkZ.gang=⟨#[]⟩from rfl,show tkZ.size=0 from rfl]
 constructor
 ·rintro⟨⟨⟨⟨⟨⟨⟨a,b⟩,c⟩,d⟩,e⟩,f⟩,g⟩,h⟩;exact⟨⟨⟨⟨⟨⟨⟨a,b⟩,e⟩,g⟩,h⟩,c⟩,d⟩,f⟩
 ·rintro⟨⟨⟨⟨⟨⟨⟨a,b⟩,e⟩,g⟩,h⟩,c⟩,d⟩,f⟩;exact⟨⟨⟨⟨⟨⟨⟨a,b⟩,c⟩,d⟩,e⟩,f⟩,g⟩,h⟩
theorem namedB_cases(k:Int):namedB k=true↔k=2∨k=4∨k=6∨k=7∨k=8:=by
 unfold namedB
 simp only[Bool.or_eq_true,decide_eq_true_eq,or_assoc]
theorem pOpR_eq(o:Op'):pOpR o=opR o:=by
 unfold pOpR opR bareB
 rw[nodeZ_eq,taskZ_eq,show quZ' o.queue=quEq o.queue quZ from rfl]
 by_cases hk:o.kind<1∨9<o.kind
 ·have hn:namedB o.kind=false:=by
   cases h:namedB o.kind
   ·rfl
   ·rw[namedB_cases]at h;omega
  have e:(decide (o.kind<1) ||decide (9<o.kind))=true:=by simpa using hk
  rw[e,if_neg (by omega),if_neg (by omega),if_neg (by omega),if_neg (by omega),hn]
  simp
 ·have e:(decide (o.kind<1) ||decide (9<o.kind))=false:=by
   rw[Bool.or_eq_false_iff]
   exact⟨decide_eq_false (by omega),decide_eq_false (by omega)⟩
  rw[e,Bool.not_false,Bool.true_and]
  congr 1
  by_cases h1:o.kind=1
  ·rw[if_pos h1,if_pos h1]
  by_cases h3:o.kind=3
  ·rw[if_neg h1,if_pos h3,if_neg h1,if_pos h3]
  by_cases h5:o.kind=5
  ·rw[if_neg h1,if_neg h3,if_pos h5,if_neg h1,if_neg h3,if_pos h5]
  by_cases h9:o.kind=9
  ·rw[if_neg h1,if_neg h3,if_neg h5,if_pos h9,if_neg h1,if_neg h3,if_neg h5,if_pos h9]
  rw[if_neg h1,if_neg h3,if_neg h5,if_neg h9,if_neg h1,if_neg h3,if_neg h5,if_neg h9]
  have:namedB o.kind=true:=by rw[namedB_cases];omega
  rw[this,Bool.true_and]
theorem opRight_ok(o:Op')(hz:Sized o.task):AC PR 43 [opA o] [] (.bool (opR o)) []:=by
 rw[←pOpR_eq];exact popRight_ok o hz
end Go.Am.Pt
end
