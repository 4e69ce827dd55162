/- Part of the proof: what functions of the program compute, walked. No conditions. -/
import Derived.Test.YtejbmdnhchoilaaGreatP04
set_option linter.unusedVariables false
set_option linter.unusedSimpArgs false
set_option maxRecDepth 100000
section
open Go Go.Am Go.Proofs
namespace Go.Am.Pt
def callOf:Op→Call
 | .call c=>c
 |_=>default
theorem x_appz' {P:Program} {o:Oper} {c:Call} {X Y:Operand} {t tn e sz:Nat} {kn kq:IntKind} {inf:TypeInfo} {zs:List AV} {id n cp kk:Nat} {kz:Int} {H:AHeap} {k:AV→AHeap→Prop} {rs:List AV} (ho:o.op= .call c) (hc:c.callee= .builtin .append) (ha:c.args= #[X,Y]) (ht:c.argTypes= #[t,tn])
  (hu:P.underlying t=some (.slice e)) (hun:P.underlying tn=some (.int kn)) (hi:P.info? e=some inf) (hs:inf.size=sz) (hz:zeroT P e=some zs) (hzl:zs.length=sz) (h0:0<sz) (hb:0<inf.bytes) (hb2:inf.bytes≤200) (hH:H[id]? =some (some (.rows e sz rs))) (hn:n≤rs.length) (hkz:kz=kk) (hk0:0<kk) (hcp:cp<n+kk) (hroom:n+kk≤1000001)
  (hk:forceS (H++ [some (.rows e sz (rs.take n++List.replicate kk (.agg zs)))]) fun H'=>k (.slc H.length 0 (n+kk) none) H'):
  Stop (ExtP P o [.slc id 0 n (some cp), .int kq kz] H k):=by
 subst hs
 rw[forceS_eq]at hk
 exact x_appz ho hc ha ht hu hun hi hz hzl h0 hb hH hn hkz hk0 hcp (by unfold roomBound;have:=Nat.mul_le_mul hroom hb2;omega) hk
theorem insEndM_ok(l:List Mc)(x:Mc)(hl:(l.length:Int)≤1000000):AC PR 89 [.slc 0 0 l.length none,i64 l.length, .slc 1 0 1 none] [some (.rows 57 7 (l.map mcA)),some (.rows 57 7 ([x].map mcA))] (.slc 2 0 (l.length+1) none) [none,some (.rows 57 7 ([x].map mcA)),some (.rows 57 7 ((insAt l.length x l).map mcA))]:=by
 have hI:insAt l.length x l=l++ [x]:=by simp[insAt]
 rw[hI]
 apply A89
 conv=>whnf
 refine k_eq (sl_lo_eq rfl (by omega) (by omega) (by simp)) ?_
 conv=>whnf
 rw[decide_eq_true (rfl:(l.length:Int)=l.length)]
 conv=>whnf
 refine app_map (f:=mcA) (l:=l) (new:=[x]) rfl rfl (Nat.le_refl _) (by simp[roomBound];omega) (fun _=> ?_) (fun h=>absurd h (by omega))
 conv=>whnf
 exact at_end [some 0,some 1,some 2]
theorem capM_o:(exO 89 25).op= .call (callOf (exO 89 25).op):=by kernel_rfl
theorem capM_c:(callOf (exO 89 25).op).callee= .builtin .cap:=by kernel_rfl
theorem capM_a:(callOf (exO 89 25).op).args= #[.tmp 29]:=by kernel_rfl
theorem capM_t:(callOf (exO 89 25).op).argTypes= #[27]:=by kernel_rfl
theorem appM_o:(exO 89 35).op= .call (callOf (exO 89 35).op):=by kernel_rfl
theorem appM_c:(callOf (exO 89 35).op).callee= .builtin .append:=by kernel_rfl
theorem appM_a:(callOf (exO 89 35).op).args= #[.tmp 34, .tmp 39]:=by kernel_rfl
theorem appM_t:(callOf (exO 89 35).op).argTypes= #[27,3]:=by kernel_rfl
theorem ovlM_o:(exO 89 65).op= .call (callOf (exO 89 65).op):=by kernel_rfl
theorem ovlM_c:(callOf (exO 89 65).op).callee= .value (.func 128):=by kernel_rfl
theorem ovlM_a:(callOf (exO 89 65).op).args= #[.tmp 61, .tmp 66]:=by kernel_rfl
theorem undM:PR.underlying 27=some (.slice 57):=by kernel_rfl
theorem undIM:PR.underlying 3=some (.int .i64):=by kernel_rfl
theorem infM:PR.info? 57=some ((PR.info? 57).getD default):=by kernel_rfl
theorem infM_s:((PR.info? 57).getD default).size=7:=by kernel_rfl
theorem infM_b:0<((PR.info? 57).getD default).bytes∧((PR.info? 57).getD default).bytes≤200:=by
 have:(Nat.blt 0 ((PR.info? 57).getD default).bytes&&Nat.ble ((PR.info? 57).getD default).bytes 200)=true:=by kernel_rfl
 rw[Bool.and_eq_true]at this
 exact⟨Nat.le_of_ble_eq_true this.1,Nat.le_of_ble_eq_true this.2⟩
theorem zerM:zeroT PR 57=some ((zeroT PR 57).getD []):=by kernel_rfl
theorem zerM_l:((zeroT PR 57).getD []).length=7:=by kernel_rfl
theorem insMidM_ok(l:List Mc)(x:Mc)(i:Nat)(hi:i<l.length)(hl:(l.length:Int)≤999999):AC PR 89 [.slc 0 0 l.length none,i64 i, .slc 1 0 1 none] [some (.rows 57 7 (l.map mcA)),some (.rows 57 7 ([x].map mcA))] (.slc 2 0 (l.length+1) none) [none,some (.rows 57 7 ([x].map mcA)),some (.rows 57 7 ((insAt i x l).map mcA))]:=by
 refine AC_cap (rs:=l.map mcA) (n:=l.length) (List.length_map ..) fun c hc=> ?_
 by_cases hc2:c<l.length+1
 ·have hcn:c=l.length:=by omega
  subst hcn
  rw[Nat.sub_self,List.replicate_zero,List.append_nil]
  refine⟨.slc 2 0 (l.length+1) none,[some (.rows 57 7 (l.map mcA)),some (.rows 57 7 ([x].map mcA)),some (.rows 57 7 ((insAt i x l).map mcA))], ?_, ?_⟩
  ·apply A89
   conv=>whnf
   refine k_eq (sl_loC rfl (by omega) (by omega) (by omega) (by simp)) ?_
   conv=>whnf
   rw[decide_eq_false (by omega:¬ (i:Int)=l.length)]
   conv=>whnf
   refine w_as ((l.length+1:Nat):Int) (by omega) (by omega) ?_
   conv=>whnf
   refine x_cap capM_o capM_c capM_a capM_t undM ?_
   conv=>whnf
   rw[decide_eq_true (by omega:(l.length:Int)<((l.length+1:Nat):Int))]
   conv=>whnf
   refine k_eq (sl_hiC rfl (by omega) (by omega) (by simp)) ?_
   conv=>whnf
   refine w_as ((l.length+1:Nat):Int) (by omega) (by omega) ?_
   conv=>whnf
   refine w_as ((l.length+1-i:Nat):Int) (by omega) (by omega) ?_
   conv=>whnf
   have hz:=zerM_l
   refine x_appz' appM_o appM_c appM_a appM_t undM undIM infM infM_s zerM zerM_l (by decide) infM_b.1 infM_b.2 rfl (by simp;omega) rfl (by omega) (by omega) (by omega) ?_
   generalize(zeroT PR 57).getD []=Zs at hz
   rw[show(i:Int).toNat+ (l.length+1-i)=l.length+1 by rw[show(i:Int).toNat=i from rfl];omega,show(i:Int).toNat=i from rfl]
   conv=>whnf
   have hR:((l.map mcA).take i++List.replicate (l.length+1-i) (AV.agg Zs)).length=l.length+1:=by simp;omega
   refine k_eq (sl_lo_eq rfl (by omega) (by omega) (by rw[hR];exact Nat.le_refl _)) ?_
   conv=>whnf
   rw[show(i:Int).toNat=i from rfl]
   refine cp_raw (src:=[mcA x]) rfl (by intro r hr;simp at hr;subst hr;rfl) rfl (by rw[hR];omega) ?_
   have hR1:((l.map mcA).take i++List.replicate (l.length+1-i) (AV.agg Zs)).take i++ [mcA x].take (l.length+1-i)++ ((l.map mcA).take i++List.replicate (l.length+1-i) (AV.agg Zs)).drop (i+min [mcA x].length (l.length+1-i))=(l.map mcA).take i++mcA x::List.replicate (l.length-i) (AV.agg Zs):=by
    have hti:((l.map mcA).take i).length=i:=by simp;omega
    rw[List.take_append_of_le_length (by omega),show((l.map mcA).take i).take i=(l.map mcA).take i from List.take_of_length_le (by omega),show [mcA x].take (l.length+1-i)=[mcA x]from List.take_of_length_le (by simp;omega),show min [mcA x].length (l.length+1-i)=1 by simp;omega,List.drop_append,show((l.map mcA).take i).drop (i+1)=[]from List.drop_eq_nil_of_le (by omega),hti,show i+1-i=1 by omega,List.drop_replicate]
    simp
    omega
   rw[hR1]
   conv=>whnf
   have hR2:((l.map mcA).take i++mcA x::List.replicate (l.length-i) (AV.agg Zs)).length=l.length+1:=by simp;omega
   refine w_as ((i+1:Nat):Int) (by omega) (by omega) ?_
   conv=>whnf
   refine k_eq (sl_lo_eq rfl (by omega) (by omega) (by rw[hR2];exact Nat.le_refl _)) ?_
   conv=>whnf
   refine k_eq (sl_loC rfl (by omega) (by omega) (by omega) (by simp)) ?_
   conv=>whnf
   rw[show((i+1:Nat):Int).toNat=i+1 from rfl,show(i:Int).toNat=i from rfl]
   refine cp_raw (src:=(l.drop i).map mcA) (view_v (f:=mcA) (l:=l) (new:=l.drop i) rfl (by omega) (by rw[Nat.zero_add,List.take_of_length_le (by simp)])) (by intro r hr;obtain⟨a,_,rfl⟩:=List.mem_map.1 hr;rfl) rfl (by rw[hR2];omega) ?_
   have hR3:((l.map mcA).take i++mcA x::List.replicate (l.length-i) (AV.agg Zs)).take (i+1)++ ((l.drop i).map mcA).take (l.length+1- (i+1))++ ((l.map mcA).take i++mcA x::List.replicate (l.length-i) (AV.agg Zs)).drop (i+1+min ((l.drop i).map mcA).length (l.length+1- (i+1)))=(insAt i x l).map mcA:=by
    have hti:((l.map mcA).take i).length=i:=by simp;omega
    have h3:((l.map mcA).take i++mcA x::List.replicate (l.length-i) (AV.agg Zs)).take (i+1)=(l.map mcA).take i++ [mcA x]:=by
     rw[show(l.map mcA).take i++mcA x::List.replicate (l.length-i) (AV.agg Zs)=((l.map mcA).take i++ [mcA x])++List.replicate (l.length-i) (AV.agg Zs) by simp]
     exact List.take_left' (by rw[List.length_append,hti];rfl)
    have h4:((l.map mcA).take i++mcA x::List.replicate (l.length-i) (AV.agg Zs)).drop (i+1+min ((l.drop i).map mcA).length (l.length+1- (i+1)))=[]:=List.drop_eq_nil_of_le (by rw[hR2];simp;omega)
    have h5:((l.drop i).map mcA).take (l.length+1- (i+1))=(l.drop i).map mcA:=List.take_of_length_le (by simp)
    rw[h3,h4,h5]
    simp[insAt,List.map_take,List.map_drop]
   rw[hR3]
   conv=>whnf
   exact at_end [some 0,some 1,some 2]
  ·exact(at_end [some 0,some 1,some 2]).1
 ·obtain⟨d,hd⟩:∃d,c=l.length+1+d:=⟨c- (l.length+1),by omega⟩
  subst hd
  generalize hU:AV.agg (List.replicate 7 AV.undef)=U
  have hUl:U.cells.length=7:=by subst hU;rfl
  have hUb:Bel 0 U:=by subst hU;simp
  have hrs:l.map mcA++List.replicate (l.length+1+d-l.length) U=l.map mcA++U::List.replicate d U:=by
   rw[show l.length+1+d-l.length=d+1 by omega,List.replicate_succ]
  rw[hrs]
  have hlen:(l.map mcA++U::List.replicate d U).length=l.length+1+d:=by simp;omega
  have hcell:∀r∈l.map mcA++U::List.replicate d U,r.cells.length=7:=fun r hr=>by
   rcases List.mem_append.1 hr with hr|hr
   ·obtain⟨a,_,rfl⟩:=List.mem_map.1 hr;rfl
   ·rcases List.mem_cons.1 hr with rfl|hr
    ·exact hUl
    ·rw[List.eq_of_mem_replicate hr];exact hUl
  have hfin:∀m:List Mc,∀r∈m.map mcA++List.replicate d U,Bel 2 r:=fun m r hr=>by
   rcases List.mem_append.1 hr with hr|hr
   ·obtain⟨a,_,rfl⟩:=List.mem_map.1 hr;simp
   ·rw[List.eq_of_mem_replicate hr];exact hUb.mono (Nat.zero_le _)
  refine⟨.slc 0 0 (l.length+1) (some (l.length+1+d)),[some (.rows 57 7 ((insAt i x l).map mcA++List.replicate d U)),some (.rows 57 7 ([x].map mcA))], ?_, ?_⟩
  ·apply A89
   conv=>whnf
   refine k_eq (sl_loC rfl (by omega) (by omega) (by omega) (by rw[hlen];omega)) ?_
   conv=>whnf
   rw[decide_eq_false (by omega:¬ (i:Int)=l.length)]
   conv=>whnf
   refine w_as ((l.length+1:Nat):Int) (by omega) (by omega) ?_
   conv=>whnf
   refine x_cap capM_o capM_c capM_a capM_t undM ?_
   conv=>whnf
   rw[decide_eq_false (by omega:¬ ((l.length+1+d:Nat):Int)<((l.length+1:Nat):Int))]
   conv=>whnf
   refine w_as ((l.length+1:Nat):Int) (by omega) (by omega) ?_
   conv=>whnf
   refine k_eq (sl_hiC rfl (by omega) (by omega) (by omega)) ?_
   conv=>whnf
   refine w_as ((i+1:Nat):Int) (by omega) (by omega) ?_
   conv=>whnf
   refine k_eq (sl_loC rfl (by omega) (by omega) (by omega) (by omega)) ?_
   conv=>whnf
   refine x_ovl (fn:=PRfn 128) (t:=27) (tr:=4) ovlM_o ovlM_c ovlM_a (by kernel_rfl) (by kernel_rfl) (by kernel_rfl) (by kernel_rfl) (by kernel_rfl) undM (sz1:=7) (by kernel_rfl) rfl rfl (by decide) fun b=> ?_
   cases b
   ·conv=>whnf
    refine w_as ((i+1:Nat):Int) (by omega) (by omega) ?_
    conv=>whnf
    refine k_eq (sl_loC rfl (by omega) (by omega) (by omega) (by omega)) ?_
    conv=>whnf
    refine k_eq (sl_loC rfl (by omega) (by omega) (by omega) (by omega)) ?_
    conv=>whnf
    rw[show((i+1:Nat):Int).toNat=i+1 from rfl,show(i:Int).toNat=i from rfl,show((l.length+1:Nat):Int).toNat=l.length+1 from rfl]
    refine cp_raw (view_r rfl (by omega)) (fun r hr=>hcell r (List.mem_of_mem_drop (List.mem_of_mem_take hr))) rfl (by omega) ?_
    have hE1:(l.map mcA++U::List.replicate d U).take (0+ (i+1))++ (((l.map mcA++U::List.replicate d U).drop (0+i)).take (l.length+1-i)).take (l.length+1- (i+1))++ (l.map mcA++U::List.replicate d U).drop (0+ (i+1)+min (((l.map mcA++U::List.replicate d U).drop (0+i)).take (l.length+1-i)).length (l.length+1- (i+1)))=(l.map mcA).take (i+1)++ (l.map mcA).drop i++List.replicate d U:=by
     have hm:(l.map mcA).length=l.length:=List.length_map ..
     have a1:(l.map mcA++U::List.replicate d U).take (0+ (i+1))=(l.map mcA).take (i+1):=by rw[List.take_append_of_le_length (by omega),Nat.zero_add]
     have a2:((l.map mcA++U::List.replicate d U).drop (0+i)).take (l.length+1-i)=(l.map mcA).drop i++ [U]:=by
      rw[List.drop_append_of_le_length (by omega),Nat.zero_add,List.take_append,show((l.map mcA).drop i).take (l.length+1-i)=(l.map mcA).drop i from List.take_of_length_le (by simp;omega),List.length_drop,hm,show l.length+1-i- (l.length-i)=1 by omega]
      rfl
     have a3:((l.map mcA).drop i++ [U]).take (l.length+1- (i+1))=(l.map mcA).drop i:=List.take_left' (by rw[List.length_drop,hm];omega)
     have a4:((l.map mcA).drop i++ [U]).length=l.length+1-i:=by rw[List.length_append,List.length_drop,hm];simp;omega
     rw[a2,a3,a1,a4,show 0+ (i+1)+min (l.length+1-i) (l.length+1- (i+1))=l.length+1 by omega]
     congr 1
     rw[show l.map mcA++U::List.replicate d U=(l.map mcA++ [U])++List.replicate d U by simp]
     exact List.drop_left' (by simp)
    rw[hE1]
    have hE1l:((l.map mcA).take (i+1)++ (l.map mcA).drop i++List.replicate d U).length=l.length+1+d:=by simp;omega
    conv=>whnf
    refine k_eq (sl_loC rfl (by omega) (by omega) (by omega) (by omega)) ?_
    conv=>whnf
    rw[show(i:Int).toNat=i from rfl]
    refine cp_raw (src:=[mcA x]) rfl (by intro r hr;simp at hr;subst hr;rfl) rfl (by omega) ?_
    have hE2:((l.map mcA).take (i+1)++ (l.map mcA).drop i++List.replicate d U).take (0+i)++ [mcA x].take (l.length+1-i)++ ((l.map mcA).take (i+1)++ (l.map mcA).drop i++List.replicate d U).drop (0+i+min [mcA x].length (l.length+1-i))=(insAt i x l).map mcA++List.replicate d U:=by
     have hm:(l.map mcA).length=l.length:=List.length_map ..
     have b0:((l.map mcA).take (i+1)).length=i+1:=by simp;omega
     have b1:((l.map mcA).take (i+1)++ (l.map mcA).drop i++List.replicate d U).take (0+i)=(l.map mcA).take i:=by
      rw[List.append_assoc,List.take_append_of_le_length (by omega),List.take_take,show min (0+i) (i+1)=i by omega]
     have b2:((l.map mcA).take (i+1)++ (l.map mcA).drop i++List.replicate d U).drop (0+i+min [mcA x].length (l.length+1-i))=(l.map mcA).drop i++List.replicate d U:=by
      rw[show 0+i+min [mcA x].length (l.length+1-i)=i+1 by simp;omega,List.append_assoc]
      exact List.drop_left' b0
     rw[b1,b2,show [mcA x].take (l.length+1-i)=[mcA x]from List.take_of_length_le (by simp;omega)]
     simp[insAt,List.map_take,List.map_drop]
    rw[hE2]
    conv=>whnf
    exact at_end [some 0,some 1] (hN:=⟨⟨_,rfl,Go'.same _ _ _ (hfin _)⟩,⟨_,rfl,by exact autoG⟩,trivial⟩)
   ·conv=>whnf
    refine k_eq (sl_loC rfl (by omega) (by omega) (by omega) (by omega)) ?_
    conv=>whnf
    rw[show((l.length+1:Nat):Int).toNat=l.length+1 from rfl,show(l.length:Int).toNat=l.length from rfl]
    refine cp_raw (src:=[mcA x]) rfl (by intro r hr;simp at hr;subst hr;rfl) rfl (by omega) ?_
    have hE3:(l.map mcA++U::List.replicate d U).take (0+l.length)++ [mcA x].take (l.length+1-l.length)++ (l.map mcA++U::List.replicate d U).drop (0+l.length+min [mcA x].length (l.length+1-l.length))=(l++ [x]).map mcA++List.replicate d U:=by
     have b1:(l.map mcA++U::List.replicate d U).take (0+l.length)=l.map mcA:=List.take_left' (by simp)
     have b2:(l.map mcA++U::List.replicate d U).drop (0+l.length+min [mcA x].length (l.length+1-l.length))=List.replicate d U:=by
      rw[show l.map mcA++U::List.replicate d U=(l.map mcA++ [U])++List.replicate d U by simp]
      exact List.drop_left' (by simp)
     rw[b1,b2,show l.length+1-l.length=1 by omega]
     simp
    rw[hE3]
    have hE3l:((l++ [x]).map mcA++List.replicate d U).length=l.length+1+d:=by simp;omega
    conv=>whnf
    refine k_eq (sl_loC rfl (by omega) (by omega) (by omega) (by omega)) ?_
    conv=>whnf
    rw[show(i:Int).toNat=i from rfl,Nat.zero_add]
    have hrot:=rotateRightM_ok (l++ [x]) (List.replicate d U) i (l.length+1-i) (l.length+1+d-i) (by omega) (by omega) (by simp;omega) (by simp;omega) (fun r hr=>by rw[List.eq_of_mem_replicate hr];exact hUb)
    rw[rot_ins i x l (by omega)]at hrot
    have hf0:∀m:List Mc,∀r∈m.map mcA++List.replicate d U,Bel 0 r:=fun m r hr=>by
     rcases List.mem_append.1 hr with hr|hr
     ·obtain⟨a,_,rfl⟩:=List.mem_map.1 hr;simp
     ·rw[List.eq_of_mem_replicate hr];exact hUb
    refine call_fr (R:= .tuple []) [0] [] [some (.rows 57 7 ((insAt i x l).map mcA++List.replicate d U))] hrot ?_ (hN:=⟨⟨_,rfl,Go'.same _ _ _ (hf0 _)⟩,trivial⟩) (hO:=⟨.closed _ _ _ (hf0 _) rfl,trivial⟩)
    conv=>whnf
    exact at_end [some 0,some 1] (hN:=⟨⟨_,rfl,Go'.same _ _ _ (hfin _)⟩,⟨_,rfl,by exact autoG⟩,trivial⟩)
  ·rw[show uncap (l.length+1+d) (.slc 0 0 (l.length+1) (some (l.length+1+d)))= .slc 0 0 (l.length+1) none by simp[uncap]]
   exact fin_of_stop (at_end [some 0,some 1,some 0] (hN:=⟨⟨_,rfl,by exact autoG⟩,⟨_,rfl,Go'.preR (List.prefix_append _ _) (by intro r hr;obtain⟨a,_,rfl⟩:=List.mem_map.1 hr;simp)⟩,trivial⟩))
theorem insertM_ok(l:List Mc)(x:Mc)(i:Nat)(hi:i≤l.length)(hl:(l.length:Int)≤999999):AC PR 89 [.slc 0 0 l.length none,i64 i, .slc 1 0 1 none] [some (.rows 57 7 (l.map mcA)),some (.rows 57 7 ([x].map mcA))] (.slc 2 0 (l.length+1) none) [none,some (.rows 57 7 ([x].map mcA)),some (.rows 57 7 ((insAt i x l).map mcA))]:=by
 by_cases h:i=l.length
 ·subst h
  exact insEndM_ok l x (by omega)
 ·exact insMidM_ok l x i (by omega) hl
theorem insEndQ_ok(l:List Qu)(x:Qu)(hl:(l.length:Int)≤1000000):AC PR 95 [.slc 0 0 l.length none,i64 l.length, .slc 1 0 1 none] [some (.rows 45 4 (l.map quR)),some (.rows 45 4 ([x].map quR))] (.slc 2 0 (l.length+1) none) [none,some (.rows 45 4 ([x].map quR)),some (.rows 45 4 ((insAt l.length x l).map quR))]:=by
 have hI:insAt l.length x l=l++ [x]:=by simp[insAt]
 rw[hI]
 apply A95
 conv=>whnf
 refine k_eq (sl_lo_eq rfl (by omega) (by omega) (by simp)) ?_
 conv=>whnf
 rw[decide_eq_true (rfl:(l.length:Int)=l.length)]
 conv=>whnf
 refine app_map (f:=quR) (l:=l) (new:=[x]) rfl rfl (Nat.le_refl _) (by simp[roomBound];omega) (fun _=> ?_) (fun h=>absurd h (by omega))
 conv=>whnf
 exact at_end [some 0,some 1,some 2]
theorem capQ_o:(exO 95 25).op= .call (callOf (exO 95 25).op):=by kernel_rfl
theorem capQ_c:(callOf (exO 95 25).op).callee= .builtin .cap:=by kernel_rfl
theorem capQ_a:(callOf (exO 95 25).op).args= #[.tmp 29]:=by kernel_rfl
theorem capQ_t:(callOf (exO 95 25).op).argTypes= #[28]:=by kernel_rfl
theorem appQ_o:(exO 95 35).op= .call (callOf (exO 95 35).op):=by kernel_rfl
theorem appQ_c:(callOf (exO 95 35).op).callee= .builtin .append:=by kernel_rfl
theorem appQ_a:(callOf (exO 95 35).op).args= #[.tmp 34, .tmp 39]:=by kernel_rfl
theorem appQ_t:(callOf (exO 95 35).op).argTypes= #[28,3]:=by kernel_rfl
theorem ovlQ_o:(exO 95 65).op= .call (callOf (exO 95 65).op):=by kernel_rfl
theorem ovlQ_c:(callOf (exO 95 65).op).callee= .value (.func 132):=by kernel_rfl
theorem ovlQ_a:(callOf (exO 95 65).op).args= #[.tmp 61, .tmp 66]:=by kernel_rfl
theorem undQ:PR.underlying 28=some (.slice 45):=by kernel_rfl
theorem undIQ:PR.underlying 3=some (.int .i64):=by kernel_rfl
theorem infQ:PR.info? 45=some ((PR.info? 45).getD default):=by kernel_rfl
theorem infQ_s:((PR.info? 45).getD default).size=4:=by kernel_rfl
theorem infQ_b:0<((PR.info? 45).getD default).bytes∧((PR.info? 45).getD default).bytes≤200:=by
 have:(Nat.blt 0 ((PR.info? 45).getD default).bytes&&Nat.ble ((PR.info? 45).getD default).bytes 200)=true:=by kernel_rfl
 rw[Bool.and_eq_true]at this
 exact⟨Nat.le_of_ble_eq_true this.1,Nat.le_of_ble_eq_true this.2⟩
theorem zerQ:zeroT PR 45=some ((zeroT PR 45).getD []):=by kernel_rfl
theorem zerQ_l:((zeroT PR 45).getD []).length=4:=by kernel_rfl
theorem insMidQ_ok(l:List Qu)(x:Qu)(i:Nat)(hi:i<l.length)(hl:(l.length:Int)≤999999):AC PR 95 [.slc 0 0 l.length none,i64 i, .slc 1 0 1 none] [some (.rows 45 4 (l.map quR)),some (.rows 45 4 ([x].map quR))] (.slc 2 0 (l.length+1) none) [none,some (.rows 45 4 ([x].map quR)),some (.rows 45 4 ((insAt i x l).map quR))]:=by
 refine AC_cap (rs:=l.map quR) (n:=l.length) (List.length_map ..) fun c hc=> ?_
 by_cases hc2:c<l.length+1
 ·have hcn:c=l.length:=by omega
  subst hcn
  rw[Nat.sub_self,List.replicate_zero,List.append_nil]
  refine⟨.slc 2 0 (l.length+1) none,[some (.rows 45 4 (l.map quR)),some (.rows 45 4 ([x].map quR)),some (.rows 45 4 ((insAt i x l).map quR))], ?_, ?_⟩
  ·apply A95
   conv=>whnf
   refine k_eq (sl_loC rfl (by omega) (by omega) (by omega) (by simp)) ?_
   conv=>whnf
   rw[decide_eq_false (by omega:¬ (i:Int)=l.length)]
   conv=>whnf
   refine w_as ((l.length+1:Nat):Int) (by omega) (by omega) ?_
   conv=>whnf
   refine x_cap capQ_o capQ_c capQ_a capQ_t undQ ?_
   conv=>whnf
   rw[decide_eq_true (by omega:(l.length:Int)<((l.length+1:Nat):Int))]
   conv=>whnf
   refine k_eq (sl_hiC rfl (by omega) (by omega) (by simp)) ?_
   conv=>whnf
   refine w_as ((l.length+1:Nat):Int) (by omega) (by omega) ?_
   conv=>whnf
   refine w_as ((l.length+1-i:Nat):Int) (by omega) (by omega) ?_
   conv=>whnf
   have hz:=zerQ_l
   refine x_appz' appQ_o appQ_c appQ_a appQ_t undQ undIQ infQ infQ_s zerQ zerQ_l (by decide) infQ_b.1 infQ_b.2 rfl (by simp;omega) rfl (by omega) (by omega) (by omega) ?_
   generalize(zeroT PR 45).getD []=Zs at hz
   rw[show(i:Int).toNat+ (l.length+1-i)=l.length+1 by rw[show(i:Int).toNat=i from rfl];omega,show(i:Int).toNat=i from rfl]
   conv=>whnf
   have hR:((l.map quR).take i++List.replicate (l.length+1-i) (AV.agg Zs)).length=l.length+1:=by simp;omega
   refine k_eq (sl_lo_eq rfl (by omega) (by omega) (by rw[hR];exact Nat.le_refl _)) ?_
   conv=>whnf
   rw[show(i:Int).toNat=i from rfl]
   refine cp_raw (src:=[quR x]) rfl (by intro r hr;simp at hr;subst hr;rfl) rfl (by rw[hR];omega) ?_
   have hR1:((l.map quR).take i++List.replicate (l.length+1-i) (AV.agg Zs)).take i++ [quR x].take (l.length+1-i)++ ((l.map quR).take i++List.replicate (l.length+1-i) (AV.agg Zs)).drop (i+min [quR x].length (l.length+1-i))=(l.map quR).take i++quR x::List.replicate (l.length-i) (AV.agg Zs):=by
    have hti:((l.map quR).take i).length=i:=by simp;omega
    rw[List.take_append_of_le_length (by omega),show((l.map quR).take i).take i=(l.map quR).take i from List.take_of_length_le (by omega),show [quR x].take (l.length+1-i)=[quR x]from List.take_of_length_le (by simp;omega),show min [quR x].length (l.length+1-i)=1 by simp;omega,List.drop_append,show((l.map quR).take i).drop (i+1)=[]from List.drop_eq_nil_of_le (by omega),hti,show i+1-i=1 by omega,List.drop_replicate]
    simp
    omega
   rw[hR1]
   conv=>whnf
   have hR2:((l.map quR).take i++quR x::List.replicate (l.length-i) (AV.agg Zs)).length=l.length+1:=by simp;omega
   refine w_as ((i+1:Nat):Int) (by omega) (by omega) ?_
   conv=>whnf
   refine k_eq (sl_lo_eq rfl (by omega) (by omega) (by rw[hR2];exact Nat.le_refl _)) ?_
   conv=>whnf
   refine k_eq (sl_loC rfl (by omega) (by omega) (by omega) (by simp)) ?_
   conv=>whnf
   rw[show((i+1:Nat):Int).toNat=i+1 from rfl,show(i:Int).toNat=i from rfl]
   refine cp_raw (src:=(l.drop i).map quR) (view_v (f:=quR) (l:=l) (new:=l.drop i) rfl (by omega) (by rw[Nat.zero_add,List.take_of_length_le (by simp)])) (by intro r hr;obtain⟨a,_,rfl⟩:=List.mem_map.1 hr;rfl) rfl (by rw[hR2];omega) ?_
   have hR3:((l.map quR).take i++quR x::List.replicate (l.length-i) (AV.agg Zs)).take (i+1)++ ((l.drop i).map quR).take (l.length+1- (i+1))++ ((l.map quR).take i++quR x::List.replicate (l.length-i) (AV.agg Zs)).drop (i+1+min ((l.drop i).map quR).length (l.length+1- (i+1)))=(insAt i x l).map quR:=by
    have hti:((l.map quR).take i).length=i:=by simp;omega
    have h3:((l.map quR).take i++quR x::List.replicate (l.length-i) (AV.agg Zs)).take (i+1)=(l.map quR).take i++ [quR x]:=by
     rw[show(l.map quR).take i++quR x::List.replicate (l.length-i) (AV.agg Zs)=((l.map quR).take i++ [quR x])++List.replicate (l.length-i) (AV.agg Zs) by simp]
     exact List.take_left' (by rw[List.length_append,hti];rfl)
    have h4:((l.map quR).take i++quR x::List.replicate (l.length-i) (AV.agg Zs)).drop (i+1+min ((l.drop i).map quR).length (l.length+1- (i+1)))=[]:=List.drop_eq_nil_of_le (by rw[hR2];simp;omega)
    have h5:((l.drop i).map quR).take (l.length+1- (i+1))=(l.drop i).map quR:=List.take_of_length_le (by simp)
    rw[h3,h4,h5]
    simp[insAt,List.map_take,List.map_drop]
   rw[hR3]
   conv=>whnf
   exact at_end [some 0,some 1,some 2]
  ·exact(at_end [some 0,some 1,some 2]).1
 ·obtain⟨d,hd⟩:∃d,c=l.length+1+d:=⟨c- (l.length+1),by omega⟩
  subst hd
  generalize hU:AV.agg (List.replicate 4 AV.undef)=U
  have hUl:U.cells.length=4:=by subst hU;rfl
  have hUb:Bel 0 U:=by subst hU;simp
  have hrs:l.map quR++List.replicate (l.length+1+d-l.length) U=l.map quR++U::List.replicate d U:=by
   rw[show l.length+1+d-l.length=d+1 by omega,List.replicate_succ]
  rw[hrs]
  have hlen:(l.map quR++U::List.replicate d U).length=l.length+1+d:=by simp;omega
  have hcell:∀r∈l.map quR++U::List.replicate d U,r.cells.length=4:=fun r hr=>by
   rcases List.mem_append.1 hr with hr|hr
   ·obtain⟨a,_,rfl⟩:=List.mem_map.1 hr;rfl
   ·rcases List.mem_cons.1 hr with rfl|hr
    ·exact hUl
    ·rw[List.eq_of_mem_replicate hr];exact hUl
  have hfin:∀m:List Qu,∀r∈m.map quR++List.replicate d U,Bel 2 r:=fun m r hr=>by
   rcases List.mem_append.1 hr with hr|hr
   ·obtain⟨a,_,rfl⟩:=List.mem_map.1 hr;simp
   ·rw[List.eq_of_mem_replicate hr];exact hUb.mono (Nat.zero_le _)
  refine⟨.slc 0 0 (l.length+1) (some (l.length+1+d)),[some (.rows 45 4 ((insAt i x l).map quR++List.replicate d U)),some (.rows 45 4 ([x].map quR))], ?_, ?_⟩
  ·apply A95
   conv=>whnf
   refine k_eq (sl_loC rfl (by omega) (by omega) (by omega) (by rw[hlen];omega)) ?_
   conv=>whnf
   rw[decide_eq_false (by omega:¬ (i:Int)=l.length)]
   conv=>whnf
   refine w_as ((l.length+1:Nat):Int) (by omega) (by omega) ?_
   conv=>whnf
   refine x_cap capQ_o capQ_c capQ_a capQ_t undQ ?_
   conv=>whnf
   rw[decide_eq_false (by omega:¬ ((l.length+1+d:Nat):Int)<((l.length+1:Nat):Int))]
   conv=>whnf
   refine w_as ((l.length+1:Nat):Int) (by omega) (by omega) ?_
   conv=>whnf
   refine k_eq (sl_hiC rfl (by omega) (by omega) (by omega)) ?_
   conv=>whnf
   refine w_as ((i+1:Nat):Int) (by omega) (by omega) ?_
   conv=>whnf
   refine k_eq (sl_loC rfl (by omega) (by omega) (by omega) (by omega)) ?_
   conv=>whnf
   refine x_ovl (fn:=PRfn 132) (t:=28) (tr:=4) ovlQ_o ovlQ_c ovlQ_a (by kernel_rfl) (by kernel_rfl) (by kernel_rfl) (by kernel_rfl) (by kernel_rfl) undQ (sz1:=4) (by kernel_rfl) rfl rfl (by decide) fun b=> ?_
   cases b
   ·conv=>whnf
    refine w_as ((i+1:Nat):Int) (by omega) (by omega) ?_
    conv=>whnf
    refine k_eq (sl_loC rfl (by omega) (by omega) (by omega) (by omega)) ?_
    conv=>whnf
    refine k_eq (sl_loC rfl (by omega) (by omega) (by omega) (by omega)) ?_
    conv=>whnf
    rw[show((i+1:Nat):Int).toNat=i+1 from rfl,show(i:Int).toNat=i from rfl,show((l.length+1:Nat):Int).toNat=l.length+1 from rfl]
    refine cp_raw (view_r rfl (by omega)) (fun r hr=>hcell r (List.mem_of_mem_drop (List.mem_of_mem_take hr))) rfl (by omega) ?_
    have hE1:(l.map quR++U::List.replicate d U).take (0+ (i+1))++ (((l.map quR++U::List.replicate d U).drop (0+i)).take (l.length+1-i)).take (l.length+1- (i+1))++ (l.map quR++U::List.replicate d U).drop (0+ (i+1)+min (((l.map quR++U::List.replicate d U).drop (0+i)).take (l.length+1-i)).length (l.length+1- (i+1)))=(l.map quR).take (i+1)++ (l.map quR).drop i++List.replicate d U:=by
     have hm:(l.map quR).length=l.length:=List.length_map ..
     have a1:(l.map quR++U::List.replicate d U).take (0+ (i+1))=(l.map quR).take (i+1):=by rw[List.take_append_of_le_length (by omega),Nat.zero_add]
     have a2:((l.map quR++U::List.replicate d U).drop (0+i)).take (l.length+1-i)=(l.map quR).drop i++ [U]:=by
      rw[List.drop_append_of_le_length (by omega),Nat.zero_add,List.take_append,show((l.map quR).drop i).take (l.length+1-i)=(l.map quR).drop i from List.take_of_length_le (by simp;omega),List.length_drop,hm,show l.length+1-i- (l.length-i)=1 by omega]
      rfl
     have a3:((l.map quR).drop i++ [U]).take (l.length+1- (i+1))=(l.map quR).drop i:=List.take_left' (by rw[List.length_drop,hm];omega)
     have a4:((l.map quR).drop i++ [U]).length=l.length+1-i:=by rw[List.length_append,List.length_drop,hm];simp;omega
     rw[a2,a3,a1,a4,show 0+ (i+1)+min (l.length+1-i) (l.length+1- (i+1))=l.length+1 by omega]
     congr 1
     rw[show l.map quR++U::List.replicate d U=(l.map quR++ [U])++List.replicate d U by simp]
     exact List.drop_left' (by simp)
    rw[hE1]
    have hE1l:((l.map quR).take (i+1)++ (l.map quR).drop i++List.replicate d U).length=l.length+1+d:=by simp;omega
    conv=>whnf
    refine k_eq (sl_loC rfl (by omega) (by omega) (by omega) (by omega)) ?_
    conv=>whnf
    rw[show(i:Int).toNat=i from rfl]
    refine cp_raw (src:=[quR x]) rfl (by intro r hr;simp at hr;subst hr;rfl) rfl (by omega) ?_
    have hE2:((l.map quR).take (i+1)++ (l.map quR).drop i++List.replicate d U).take (0+i)++ [quR x].take (l.length+1-i)++ ((l.map quR).take (i+1)++ (l.map quR).drop i++List.replicate d U).drop (0+i+min [quR x].length (l.length+1-i))=(insAt i x l).map quR++List.replicate d U:=by
     have hm:(l.map quR).length=l.length:=List.length_map ..
     have b0:((l.map quR).take (i+1)).length=i+1:=by simp;omega
     have b1:((l.map quR).take (i+1)++ (l.map quR).drop i++List.replicate d U).take (0+i)=(l.map quR).take i:=by
      rw[List.append_assoc,List.take_append_of_le_length (by omega),List.take_take,show min (0+i) (i+1)=i by omega]
     have b2:((l.map quR).take (i+1)++ (l.map quR).drop i++List.replicate d U).drop (0+i+min [quR x].length (l.length+1-i))=(l.map quR).drop i++List.replicate d U:=by
      rw[show 0+i+min [quR x].length (l.length+1-i)=i+1 by simp;omega,List.append_assoc]
      exact List.drop_left' b0
     rw[b1,b2,show [quR x].take (l.length+1-i)=[quR x]from List.take_of_length_le (by simp;omega)]
     simp[insAt,List.map_take,List.map_drop]
    rw[hE2]
    conv=>whnf
    exact at_end [some 0,some 1] (hN:=⟨⟨_,rfl,Go'.same _ _ _ (hfin _)⟩,⟨_,rfl,by exact autoG⟩,trivial⟩)
   ·conv=>whnf
    refine k_eq (sl_loC rfl (by omega) (by omega) (by omega) (by omega)) ?_
    conv=>whnf
    rw[show((l.length+1:Nat):Int).toNat=l.length+1 from rfl,show(l.length:Int).toNat=l.length from rfl]
    refine cp_raw (src:=[quR x]) rfl (by intro r hr;simp at hr;subst hr;rfl) rfl (by omega) ?_
    have hE3:(l.map quR++U::List.replicate d U).take (0+l.length)++ [quR x].take (l.length+1-l.length)++ (l.map quR++U::List.replicate d U).drop (0+l.length+min [quR x].length (l.length+1-l.length))=(l++ [x]).map quR++List.replicate d U:=by
     have b1:(l.map quR++U::List.replicate d U).take (0+l.length)=l.map quR:=List.take_left' (by simp)
     have b2:(l.map quR++U::List.replicate d U).drop (0+l.length+min [quR x].length (l.length+1-l.length))=List.replicate d U:=by
      rw[show l.map quR++U::List.replicate d U=(l.map quR++ [U])++List.replicate d U by simp]
      exact List.drop_left' (by simp)
     rw[b1,b2,show l.length+1-l.length=1 by omega]
     simp
    rw[hE3]
    have hE3l:((l++ [x]).map quR++List.replicate d U).length=l.length+1+d:=by simp;omega
    conv=>whnf
    refine k_eq (sl_loC rfl (by omega) (by omega) (by omega) (by omega)) ?_
    conv=>whnf
    rw[show(i:Int).toNat=i from rfl,Nat.zero_add]
    have hrot:=rotateRightQ_ok (l++ [x]) (List.replicate d U) i (l.length+1-i) (l.length+1+d-i) (by omega) (by omega) (by simp;omega) (by simp;omega) (fun r hr=>by rw[List.eq_of_mem_replicate hr];exact hUb)
    rw[rot_ins i x l (by omega)]at hrot
    have hf0:∀m:List Qu,∀r∈m.map quR++List.replicate d U,Bel 0 r:=fun m r hr=>by
     rcases List.mem_append.1 hr with hr|hr
     ·obtain⟨a,_,rfl⟩:=List.mem_map.1 hr;simp
     ·rw[List.eq_of_mem_replicate hr];exact hUb
    refine call_fr (R:= .tuple []) [0] [] [some (.rows 45 4 ((insAt i x l).map quR++List.replicate d U))] hrot ?_ (hN:=⟨⟨_,rfl,Go'.same _ _ _ (hf0 _)⟩,trivial⟩) (hO:=⟨.closed _ _ _ (hf0 _) rfl,trivial⟩)
    conv=>whnf
    exact at_end [some 0,some 1] (hN:=⟨⟨_,rfl,Go'.same _ _ _ (hfin _)⟩,⟨_,rfl,by exact autoG⟩,trivial⟩)
  ·rw[show uncap (l.length+1+d) (.slc 0 0 (l.length+1) (some (l.length+1+d)))= .slc 0 0 (l.length+1) none by simp[uncap]]
   exact fin_of_stop (at_end [some 0,some 1,some 0] (hN:=⟨⟨_,rfl,by exact autoG⟩,⟨_,rfl,Go'.preR (List.prefix_append _ _) (by intro r hr;obtain⟨a,_,rfl⟩:=List.mem_map.1 hr;simp)⟩,trivial⟩))
theorem insertQ_ok(l:List Qu)(x:Qu)(i:Nat)(hi:i≤l.length)(hl:(l.length:Int)≤999999):AC PR 95 [.slc 0 0 l.length none,i64 i, .slc 1 0 1 none] [some (.rows 45 4 (l.map quR)),some (.rows 45 4 ([x].map quR))] (.slc 2 0 (l.length+1) none) [none,some (.rows 45 4 ([x].map quR)),some (.rows 45 4 ((insAt i x l).map quR))]:=by
 by_cases h:i=l.length
 ·subst h
  exact insEndQ_ok l x (by omega)
 ·exact insMidQ_ok l x i (by omega) hl
theorem isNaN_ok(s:ByteArray):AC PR 127 [.str s] [] (.bool false) []:=by
 apply A127
 conv=>whnf
 rw[decide_eq_true (rfl:s=s)]
 conv=>whnf
 exact at_end []
def cmpS(a b:ByteArray):Int:=if strLt a b then-1 else if a=b then 0 else 1
theorem compare_ok(a b:ByteArray):AC PR 88 [.str a, .str b] [] (i64 (cmpS a b)) []:=by
 have hB:cmpS a b=if strLt a b then-1 else if a=b then 0 else 1:=rfl
 generalize cmpS a b=r at hB
 have c1:=isNaN_ok a
 have c2:=isNaN_ok b
 apply A88
 conv=>whnf
 refine call_closed c1 ?_
 conv=>whnf
 refine call_closed c2 ?_
 conv=>whnf
 cases h1:strLt a b
 ·rw[h1,if_neg (by simp)]at hB
  conv=>whnf
  rw[h1]
  generalize h2:decide (a=b)=q
  cases q
  ·rw[if_neg (of_decide_eq_false h2)]at hB
   subst hB
   conv=>whnf
   exact at_end []
  ·rw[if_pos (of_decide_eq_true h2)]at hB
   subst hB
   conv=>whnf
   exact at_end []
 ·rw[h1,if_pos rfl]at hB
  subst hB
  conv=>whnf
  exact at_end []
def bs(p:Nat→Bool):Nat→Nat→Nat→Nat
 |0,i,_=>i
 |f+1,i,j=>if i<j then(if p ((i+j) /2)then bs p f ((i+j) /2+1) j else bs p f i ((i+j) /2))else i
theorem bs_end {p:Nat→Bool}{f i j:Nat}(h:¬i<j):bs p f i j=i:=by
 cases f with
 |zero=>rfl
 |succ f=>simp[bs,h]
def atB {α:Type}(q:α→Bool)(l:List α)(i:Nat):Bool:=match l[i]? with
 |some x=>q x
 |none=>false
theorem cmpM_ok(x:Mc)(s:ByteArray):AC PR 87 [mcA x, .str s] [] (i64 (cmpS x.node.name s)) []:=by
 have c1:=compare_ok x.node.name s
 generalize cmpS x.node.name s=r at c1
 apply A87
 conv=>whnf
 refine call_closed c1 ?_
 conv=>whnf
 exact at_end []
theorem searchM_ok(l:List Mc)(s:ByteArray)(hl:(l.length:Int)≤1000000):AC PR 86 [.lst 7 (l.map mcA) none, .str s, .fn (.func 87) [] []] [] (.tuple [i64 (bs (atB (fun x:Mc=>decide (cmpS x.node.name s<0)) l) l.length 0 l.length), .bool (atB (fun x:Mc=>decide (cmpS x.node.name s=0)) l (bs (atB (fun x:Mc=>decide (cmpS x.node.name s<0)) l) l.length 0 l.length))]) []:=by
 have hm:(l.map mcA).length=l.length:=List.length_map ..
 have cc:=fun x=>cmpM_ok x s
 generalize hR:bs (atB (fun x:Mc=>decide (cmpS x.node.name s<0)) l) l.length 0 l.length=R
 apply A86
 conv=>whnf
 refine loop_dn (fun k e H=>∃i j f,k=j-i∧i≤j∧j≤l.length∧j-i≤f∧bs (atB (fun x:Mc=>decide (cmpS x.node.name s<0)) l) f i j=R∧e=[(0, .lst 7 (l.map mcA) none),(1, .str s),(2, .fn (.func 87) [] []),(8,i64 (l.map mcA).length),(9,i64 i),(10,i64 j)]∧H=[]) ?_ ?_
 ·rintro k e H ⟨i,j,f,rfl,hij,hjn,hf,hb,rfl,rfl⟩
  conv=>whnf
  generalize hq:decide ((i:Int)<(j:Int))=q
  cases q
  case false=>
   have hq':=of_decide_eq_false hq
   rw[bs_end (by omega)]at hb
   subst hb
   conv=>whnf
   generalize hq2:decide ((i:Int)<(((l.map mcA).length:Nat):Int))=q2
   cases q2
   case false=>
    have hq2':=of_decide_eq_false hq2
    rw[show atB (fun x:Mc=>decide (cmpS x.node.name s=0)) l i=false by unfold atB;rw[List.getElem?_eq_none (by omega)]]
    conv=>whnf
    exact at_end []
   have hq2':=of_decide_eq_true hq2
   have hgo:=List.getElem?_eq_getElem (show i<l.length by omega)
   generalize l[i]'(by omega)=x at hgo
   have c1:=cc x
   rw[show atB (fun x:Mc=>decide (cmpS x.node.name s=0)) l i=decide (cmpS x.node.name s=0) by unfold atB;rw[hgo]]
   generalize cmpS x.node.name s=r at c1
   conv=>whnf
   refine tA ?_
   refine callv_closed c1 ?_
   conv=>whnf
   exact at_end []
  have hq':=of_decide_eq_true hq
  obtain⟨f,rfl⟩:∃g,f=g+1:=⟨f-1,by omega⟩
  conv=>whnf
  refine w_i64 (by omega) ?_
  conv=>whnf
  refine w_u64 (by omega) ?_
  conv=>whnf
  refine w_as (((i+j) /2:Nat):Int) (by
   show Int.fdiv ((i:Int)+j) 2=_
   rw[Int.fdiv_eq_ediv_of_nonneg _ (by decide)];omega) (by omega) ?_
  conv=>whnf
  obtain⟨h,hh⟩:∃h,h=(i+j) /2:=⟨_,rfl⟩
  have hhl:h<l.length:=by omega
  have hih:i≤h:=by omega
  have hhj:h<j:=by omega
  have hgo:=List.getElem?_eq_getElem hhl
  generalize l[h]=x at hgo
  have c1:=cc x
  have hb':(if cmpS x.node.name s<0 then bs (atB (fun x:Mc=>decide (cmpS x.node.name s<0)) l) f (h+1) j else bs (atB (fun x:Mc=>decide (cmpS x.node.name s<0)) l) f i h)=R:=by
   rw[←hb,bs,if_pos (by omega:i<j),←hh]
   rw[show atB (fun x:Mc=>decide (cmpS x.node.name s<0)) l h=decide (cmpS x.node.name s<0) by unfold atB;rw[hgo]]
   by_cases hd:cmpS x.node.name s<0
   ·rw[if_pos hd,if_pos (decide_eq_true hd)]
   ·rw[if_neg hd,if_neg (by rw[decide_eq_false hd];simp)]
  rw[←hh]
  conv=>whnf
  refine tA ?_
  refine callv_closed c1 ?_
  conv=>whnf
  generalize hq3:decide (cmpS x.node.name s<0)=q3
  cases q3
  case true=>
   rw[if_pos (of_decide_eq_true hq3)]at hb'
   conv=>whnf
   refine w_i64 (by omega) ?_
   conv=>whnf
   exact at_head [] _ [(0, .lst 7 (l.map mcA) none),(1, .str s),(2, .fn (.func 87) [] []),(8,i64 (l.map mcA).length),(9,i64 (h+1:Nat)),(10,i64 j)] ⟨_,by omega,h+1,j,f,rfl,by omega,by omega,by omega,hb',rfl,rfl⟩
  ·rw[if_neg (of_decide_eq_false hq3)]at hb'
   conv=>whnf
   exact at_head [] _ [(0, .lst 7 (l.map mcA) none),(1, .str s),(2, .fn (.func 87) [] []),(8,i64 (l.map mcA).length),(9,i64 i),(10,i64 h)] ⟨_,by omega,i,h,f,rfl,by omega,by omega,by omega,hb',rfl,rfl⟩
 ·conv=>whnf
  exact at_head [] _ [(0, .lst 7 (l.map mcA) none),(1, .str s),(2, .fn (.func 87) [] []),(8,i64 (l.map mcA).length),(9,i64 (0:Nat)),(10,i64 l.length)] ⟨_,0,l.length,l.length,rfl,by omega,by omega,by omega,hR,rfl,rfl⟩
theorem cmpQ_ok(x:Qu)(s:ByteArray):AC PR 94 [quR x, .str s] [] (i64 (cmpS x.name s)) []:=by
 have c1:=compare_ok x.name s
 generalize cmpS x.name s=r at c1
 apply A94
 conv=>whnf
 refine call_closed c1 ?_
 conv=>whnf
 exact at_end []
theorem searchQ_ok(l:List Qu)(s:ByteArray)(hl:(l.length:Int)≤1000000):AC PR 93 [.lst 4 (l.map quR) none, .str s, .fn (.func 94) [] []] [] (.tuple [i64 (bs (atB (fun x:Qu=>decide (cmpS x.name s<0)) l) l.length 0 l.length), .bool (atB (fun x:Qu=>decide (cmpS x.name s=0)) l (bs (atB (fun x:Qu=>decide (cmpS x.name s<0)) l) l.length 0 l.length))]) []:=by
 have hm:(l.map quR).length=l.length:=List.length_map ..
 have cc:=fun x=>cmpQ_ok x s
 generalize hR:bs (atB (fun x:Qu=>decide (cmpS x.name s<0)) l) l.length 0 l.length=R
 apply A93
 conv=>whnf
 refine loop_dn (fun k e H=>∃i j f,k=j-i∧i≤j∧j≤l.length∧j-i≤f∧bs (atB (fun x:Qu=>decide (cmpS x.name s<0)) l) f i j=R∧e=[(0, .lst 4 (l.map quR) none),(1, .str s),(2, .fn (.func 94) [] []),(8,i64 (l.map quR).length),(9,i64 i),(10,i64 j)]∧H=[]) ?_ ?_
 ·rintro k e H ⟨i,j,f,rfl,hij,hjn,hf,hb,rfl,rfl⟩
  conv=>whnf
  generalize hq:decide ((i:Int)<(j:Int))=q
  cases q
  case false=>
   have hq':=of_decide_eq_false hq
   rw[bs_end (by omega)]at hb
   subst hb
   conv=>whnf
   generalize hq2:decide ((i:Int)<(((l.map quR).length:Nat):Int))=q2
   cases q2
   case false=>
    have hq2':=of_decide_eq_false hq2
    rw[show atB (fun x:Qu=>decide (cmpS x.name s=0)) l i=false by unfold atB;rw[List.getElem?_eq_none (by omega)]]
    conv=>whnf
    exact at_end []
   have hq2':=of_decide_eq_true hq2
   have hgo:=List.getElem?_eq_getElem (show i<l.length by omega)
   generalize l[i]'(by omega)=x at hgo
   have c1:=cc x
   rw[show atB (fun x:Qu=>decide (cmpS x.name s=0)) l i=decide (cmpS x.name s=0) by unfold atB;rw[hgo]]
   generalize cmpS x.name s=r at c1
   conv=>whnf
   refine tA ?_
   refine callv_closed c1 ?_
   conv=>whnf
   exact at_end []
  have hq':=of_decide_eq_true hq
  obtain⟨f,rfl⟩:∃g,f=g+1:=⟨f-1,by omega⟩
  conv=>whnf
  refine w_i64 (by omega) ?_
  conv=>whnf
  refine w_u64 (by omega) ?_
  conv=>whnf
  refine w_as (((i+j) /2:Nat):Int) (by
   show Int.fdiv ((i:Int)+j) 2=_
   rw[Int.fdiv_eq_ediv_of_nonneg _ (by decide)];omega) (by omega) ?_
  conv=>whnf
  obtain⟨h,hh⟩:∃h,h=(i+j) /2:=⟨_,rfl⟩
  have hhl:h<l.length:=by omega
  have hih:i≤h:=by omega
  have hhj:h<j:=by omega
  have hgo:=List.getElem?_eq_getElem hhl
  generalize l[h]=x at hgo
  have c1:=cc x
  have hb':(if cmpS x.name s<0 then bs (atB (fun x:Qu=>decide (cmpS x.name s<0)) l) f (h+1) j else bs (atB (fun x:Qu=>decide (cmpS x.name s<0)) l) f i h)=R:=by
   rw[←hb,bs,if_pos (by omega:i<j),←hh]
   rw[show atB (fun x:Qu=>decide (cmpS x.name s<0)) l h=decide (cmpS x.name s<0) by unfold atB;rw[hgo]]
   by_cases hd:cmpS x.name s<0
   ·rw[if_pos hd,if_pos (decide_eq_true hd)]
   ·rw[if_neg hd,if_neg (by rw[decide_eq_false hd];simp)]
  rw[←hh]
  conv=>whnf
  refine tA ?_
  refine callv_closed c1 ?_
  conv=>whnf
  generalize hq3:decide (cmpS x.name s<0)=q3
  cases q3
  case true=>
   rw[if_pos (of_decide_eq_true hq3)]at hb'
   conv=>whnf
   refine w_i64 (by omega) ?_
   conv=>whnf
   exact at_head [] _ [(0, .lst 4 (l.map quR) none),(1, .str s),(2, .fn (.func 94) [] []),(8,i64 (l.map quR).length),(9,i64 (h+1:Nat)),(10,i64 j)] ⟨_,by omega,h+1,j,f,rfl,by omega,by omega,by omega,hb',rfl,rfl⟩
  ·rw[if_neg (of_decide_eq_false hq3)]at hb'
   conv=>whnf
   exact at_head [] _ [(0, .lst 4 (l.map quR) none),(1, .str s),(2, .fn (.func 94) [] []),(8,i64 (l.map quR).length),(9,i64 i),(10,i64 h)] ⟨_,by omega,i,h,f,rfl,by omega,by omega,by omega,hb',rfl,rfl⟩
 ·conv=>whnf
  exact at_head [] _ [(0, .lst 4 (l.map quR) none),(1, .str s),(2, .fn (.func 94) [] []),(8,i64 (l.map quR).length),(9,i64 (0:Nat)),(10,i64 l.length)] ⟨_,0,l.length,l.length,rfl,by omega,by omega,by omega,hR,rfl,rfl⟩
theorem bs_le(p:Nat→Bool):∀ (f i j:Nat),i≤j→bs p f i j≤j
 |0,i,j,h=>h
 |f+1,i,j,h=>by
  unfold bs
  split
  ·split
   ·exact bs_le p f _ _ (by omega)
   ·exact Nat.le_trans (bs_le p f _ _ (by omega)) (by omega)
  ·exact h
def posM(l:List Mc)(s:ByteArray):Nat:=bs (atB (fun x:Mc=>decide (cmpS x.node.name s<0)) l) l.length 0 l.length
def posQ(l:List Qu)(s:ByteArray):Nat:=bs (atB (fun x:Qu=>decide (cmpS x.name s<0)) l) l.length 0 l.length
def addNodeS(s:St)(n:Nd):St:= {s with machines:=insAt (posM s.machines n.name) ⟨n,true,s.clock+4⟩ s.machines}
def addNodeG(s:St)(n:Nd):An×St:=
 if atB (fun x:Mc=>decide (cmpS x.node.name n.name=0)) s.machines (posM s.machines n.name)then(no 8,s)else if s.machines.length=16 then(no 10,s)else(no 0,addNodeS s n)
theorem addNode_ok(s:St)(n:Nd)(hz:StW s)(hn:(n.labels.length:Int)≤1000000)(hl:(s.machines.length:Int)≤999999):AC PR 45 [.ptr 0 0 0,nodeA n] (gH s) (anA (addNodeG s n).1) (gK (addNodeG s n).2):=by
 have c1:=searchM_ok s.machines n.name hz.m
 have hp:posM s.machines n.name≤s.machines.length:=bs_le _ _ _ _ (by omega)
 have hB:addNodeG s n=if atB (fun x:Mc=>decide (cmpS x.node.name n.name=0)) s.machines (posM s.machines n.name)then(no 8,s)else if s.machines.length=16 then(no 10,s)else(no 0,{s with machines:=insAt (posM s.machines n.name) ⟨n,true,s.clock+4⟩ s.machines}):=rfl
 rw[show bs (atB (fun x:Mc=>decide (cmpS x.node.name n.name<0)) s.machines) s.machines.length 0 s.machines.length=posM s.machines n.name from rfl]at c1
 generalize atB (fun x:Mc=>decide (cmpS x.node.name n.name=0)) s.machines (posM s.machines n.name)=b at c1 hB
 generalize posM s.machines n.name=p at c1 hB hp
 have hc0:=hz.c0
 have hc1:=hz.c1
 apply A45
 conv=>whnf
 refine call_fr [] [1] [] c1 ?_
 conv=>whnf
 refine tB ?_
 cases b
 case true=>
  rw[if_pos rfl]at hB
  rw[hB]
  conv=>whnf
  refine call_closed (refuse_ok 8) ?_
  conv=>whnf
  exact at_end [some 0,some 1,some 2,some 3,some 1,some 2,some 3]
 rw[if_neg (by simp)]at hB
 conv=>whnf
 generalize hq3:decide ((s.machines.length:Int)=16)=q3
 cases q3
 case true=>
  rw[if_pos (by have:=of_decide_eq_true hq3;omega)]at hB
  rw[hB]
  conv=>whnf
  refine call_closed (refuse_ok 10) ?_
  conv=>whnf
  exact at_end [some 0,some 1,some 2,some 3,some 1,some 2,some 3]
 rw[if_neg (by have:=of_decide_eq_false hq3;omega)]at hB
 rw[hB]
 conv=>whnf
 refine call_fr [] [] [some (.rows 65 2 (n.labels.map lb))] (cloneL_ok n.labels hn) ?_
 conv=>whnf
 refine w_i64 (by omega) ?_
 conv=>whnf
 refine call_fz (args:=[.slc 1 0 s.machines.length none,i64 p, .slc 7 0 1 none]) [some 0,some 1,some 2,some 3,some 4,some 5,some 6,some 7] [some (.rows 68 5 [gRow s]),rowsM s.machines,rowsQ s.queues,rowsJ s.jobs,some (.rows 43 5 [nodeA n]),some (.rows 36 2 [.agg [i64 0, .nilslc]]),none,rowsM [⟨n,true,s.clock+4⟩]] ?_
 refine call_fr (R:= .slc 8 0 (s.machines.length+1) none) [1,7] [] [none,rowsM [⟨n,true,s.clock+4⟩],rowsM (insAt p ⟨n,true,s.clock+4⟩ s.machines)] (insertM_ok s.machines ⟨n,true,s.clock+4⟩ p hp hl) ?_
 conv=>whnf
 have hlen:(insAt p (⟨n,true,s.clock+4⟩:Mc) s.machines).length=s.machines.length+1:=by simp[insAt];omega
 exact at_end [some 0,some 1,some 2,some 3,some 8,some 2,some 3]
def addQueueS(s:St)(q:Qu):St:= {s with queues:=insAt (posQ s.queues q.name) q s.queues}
def addQueueG(s:St)(n:Qu):An×St:=
 if atB (fun x:Qu=>decide (cmpS x.name n.name=0)) s.queues (posQ s.queues n.name)then(no 8,s)else if s.queues.length=8 then(no 10,s)else(no 0,addQueueS s n)
theorem addQueue_ok(s:St)(n:Qu)(hz:StW s)(hl:(s.queues.length:Int)≤999999):AC PR 47 [.ptr 0 0 0,quA n] (gH s) (anA (addQueueG s n).1) (gK (addQueueG s n).2):=by
 have c1:=searchQ_ok s.queues n.name hz.q
 have hp:posQ s.queues n.name≤s.queues.length:=bs_le _ _ _ _ (by omega)
 have hB:addQueueG s n=if atB (fun x:Qu=>decide (cmpS x.name n.name=0)) s.queues (posQ s.queues n.name)then(no 8,s)else if s.queues.length=8 then(no 10,s)else(no 0,{s with queues:=insAt (posQ s.queues n.name) n s.queues}):=rfl
 rw[show bs (atB (fun x:Qu=>decide (cmpS x.name n.name<0)) s.queues) s.queues.length 0 s.queues.length=posQ s.queues n.name from rfl]at c1
 generalize atB (fun x:Qu=>decide (cmpS x.name n.name=0)) s.queues (posQ s.queues n.name)=b at c1 hB
 generalize posQ s.queues n.name=p at c1 hB hp
 apply A47
 conv=>whnf
 refine call_fr [] [2] [] c1 ?_
 conv=>whnf
 refine tB ?_
 cases b
 case true=>
  rw[if_pos rfl]at hB
  rw[hB]
  conv=>whnf
  refine call_closed (refuse_ok 8) ?_
  conv=>whnf
  exact at_end [some 0,some 1,some 2,some 3,some 1,some 2,some 3]
 rw[if_neg (by simp)]at hB
 conv=>whnf
 generalize hq3:decide ((s.queues.length:Int)=8)=q3
 cases q3
 case true=>
  rw[if_pos (by have:=of_decide_eq_true hq3;omega)]at hB
  rw[hB]
  conv=>whnf
  refine call_closed (refuse_ok 10) ?_
  conv=>whnf
  exact at_end [some 0,some 1,some 2,some 3,some 1,some 2,some 3]
 rw[if_neg (by have:=of_decide_eq_false hq3;omega)]at hB
 rw[hB]
 conv=>whnf
 refine call_fr (R:= .slc 7 0 (s.queues.length+1) none) [2,6] [] [none,rowsQ [n],rowsQ (insAt p n s.queues)] (insertQ_ok s.queues n p hp hl) ?_
 conv=>whnf
 have hlen:(insAt p n s.queues).length=s.queues.length+1:=by simp[insAt];omega
 exact at_end [some 0,some 1,some 2,some 3,some 1,some 7,some 3]
def bindJ(name:ByteArray)(j:Jb):Jb:= {j with node:=name,bound:=IntKind.i64.wrap (j.bound+1)}
theorem bind_ok(l:List Jb)(p:Nat)(x:Jb)(name:ByteArray)(hx:l[p]? =some x)(hl:(l.length:Int)≤1000000):AC PR 167 [.slc 0 0 l.length none,i64 p, .str name] [rowsJ l] (acA ⟨1,x.task.name,name⟩) [rowsJ (l.set p (bindJ name x))]:=by
 have hp:p<l.length:=(List.getElem?_eq_some_iff.1 hx).1
 apply A167
 conv=>whnf
 refine tA ?_
 refine f_set (f:=jbA) {x with node:=name} rfl ?_
 conv=>whnf
 have hx2:(l.set p {x with node:=name})[p]? =some {x with node:=name}:=by rw[List.getElem?_set_self hp]
 have hll:(l.set p {x with node:=name}).length=l.length:=List.length_set ..
 repeat(first
  | (refine And.intro rfl ?_;conv=>whnf)
  | (refine k_idx ?_ _ rfl (by omega) (by omega);conv=>whnf)
  | (refine e_idx ?_ _ rfl (by omega) (by omega);conv=>whnf)
  | (refine k_row (get_map hx2) ?_;conv=>whnf)
  | (refine k_cell (get_map hx2) ?_;conv=>whnf)
  | (refine e_row (get_map hx2) rfl ?_;conv=>whnf)
  | (refine k_some (get_map hx2) ?_;conv=>whnf)
  | (refine w_raw ?_;conv=>whnf))
 refine f_set (f:=jbA) (bindJ name x) rfl ?_
 rw[List.set_set,show(p:Int).toNat=p from rfl]
 conv=>whnf
 have hx3:(l.set p (bindJ name x))[p]? =some (bindJ name x):=by rw[List.getElem?_set_self hp]
 have hl3:(l.set p (bindJ name x)).length=l.length:=List.length_set ..
 repeat(first
  | (refine And.intro rfl ?_;conv=>whnf)
  | (refine k_idx ?_ _ rfl (by omega) (by omega);conv=>whnf)
  | (refine e_idx ?_ _ rfl (by omega) (by omega);conv=>whnf)
  | (refine k_row (get_map hx3) ?_;conv=>whnf)
  | (refine k_cell (get_map hx3) ?_;conv=>whnf)
  | (refine e_row (get_map hx3) rfl ?_;conv=>whnf)
  | (refine k_some (get_map hx3) ?_;conv=>whnf))
 exact at_end [some 0]
end Go.Am.Pt
end
