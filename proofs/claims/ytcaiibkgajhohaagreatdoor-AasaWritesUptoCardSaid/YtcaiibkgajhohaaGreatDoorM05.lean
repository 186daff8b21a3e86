/- waybill: lemmas and walks, printed from longer texts. -/
import Derived.Test.YtcaiibkgajhohaaGreatDoorM04
import Derived.Deep.DeepCutAuto
import Derived.IntWalk
import Derived.Laws.IdiomStrings
set_option maxRecDepth 100000
set_option maxHeartbeats 8000000
namespace Go.Proofs.YtcaiibkgajhohaaGreatDoor
open Go.RowKit
section
variable{v:Value}{B:ByteArray}{w:World}
theorem MD{i e:Nat}(hr:fi B i=.ok e)(h:Rd (Own w) w v (dF B))(hm:B.size≤1100000)(hi:i≤B.size):Calls Tryz.prog 155 #[v,.int .i64 i] w fun ev w'=>ev=.returned (.tuple #[.int .i64 e,.nilIface])∧w=w':=by have:=CJ v B i w h hm hi;rwa[hr]at this
theorem MF{i k:Nat}{p:Int}(hr:fi B i=.no k p)(h:Rd (Own w) w v (dF B))(hm:B.size≤1100000)(hi:i≤B.size):Calls Tryz.prog 155 #[v,.int .i64 i] w fun ev w'=>∃u,ev=.returned (.tuple #[.int .i64 0,.iface 85 (.pointer (some u))])∧dK w k p (.iface 85 (.pointer (some u))) w':=by have:=CJ v B i w h hm hi;rw[hr]at this;refine this.mono ?_;rintro ev w'⟨u,rfl,hf⟩;obtain⟨p,rfl⟩:=hf.form;exact⟨_,rfl,hf⟩
end
def sJ(B:ByteArray)(i3:Nat):Sc Nat:=if dB [101,69] B i3 then fi B (if dB [43,45] B (i3+1)then i3+2 else i3+1)else .ok i3
def yP(B:ByteArray)(i2:Nat):Sc Nat:=(if dB [46] B i2 then fi B (i2+1)else .ok i2).bind (sJ B)
def yQ(B:ByteArray)(i1:Nat):Sc Nat:=if dB [48] B i1 then .ok (i1+1)else fi B i1
theorem XQ(B:ByteArray)(i:Nat):pR B i=(yQ B (if dB [45] B i then i+1 else i)).bind (yP B):=rfl
theorem XR(v:Value)(B:ByteArray)(i:Nat)(w:World)(h:Rd (Own w) w v (dF B))(hm:B.size≤1100000)(hi:i<B.size):Calls Tryz.prog 118 #[v,.int .i64 i] w (Mx w (pR B i)):=by
 have HH:=Lib.hid h;clear h;rw[XQ];obtain⟨i1,nj⟩:∃i1,(if dB [45] B i then i+1 else i)=i1:=⟨_,rfl⟩;rw[nj];have b1:i1≤B.size:=by rw[←nj];split<;>omega
 obtain⟨r2,fC⟩:∃r2,yQ B i1=r2:=⟨_,rfl⟩;rw[fC];have rl:=Lib.hid nj;have jX:=Lib.hid fC;clear nj fC;go_enter Tryz.func118,Tryz.ntmps118;go_wp2_with fail;refine(yO v B i _ [45] (by rfl) w HH.out hm (by omega)).mono ?_;rintro e w1⟨rfl,rfl⟩;go_upto_if 8 with(fail);go_cut[1](fun s1 wx=>s1=.int .i64 i1∧w=wx)
 case first=>
  cases ho:dB [45] B i with
  |true=>have h1:=rl.out;rw[ho,if_pos rfl]at h1;subst h1;clear ho;go_wp2;go_meet;exact⟨by go_num,rfl⟩
  |false=>have h1:=rl.out;rw[ho,if_neg (by simp)]at h1;subst h1;clear ho;go_wp2;go_meet;exact⟨rfl,rfl⟩
 case rest=>
  obtain⟨rfl,rfl⟩:=hcut;clear rl;go_wp2_with fail;refine(yO v B i1 _ [48] (by rfl) w HH.out hm (by omega)).mono ?_;rintro e w1⟨rfl,rfl⟩
  have b2:∀i2,r2=.ok i2→i2≤B.size:=by
   intro i2 h2;have fC:=jX.out;rw[h2]at fC;unfold yQ at fC;split at fC
   ·rename_i ho;have:=lV ho;cases fC;omega
   ·exact(sI b1 fC).2
  have aP:=Lib.hid b2;clear b2;go_upto_if 13 with(fail);go_cut[1](fun s1 wx=>∃i2:Nat,r2=.ok i2∧s1=.int .i64 i2∧w=wx)
  case first=>
   cases ho:dB [48] B i1 with
   |true=>have h1:=jX.out;unfold yQ at h1;rw[ho,if_pos rfl]at h1;subst h1;clear ho;go_wp2;go_meet;exact⟨i1+1,rfl,by go_num,rfl⟩
   |false=>
    have h1:=jX.out;unfold yQ at h1;rw[ho,if_neg (by simp)]at h1;clear ho
    cases r2 with
    |ok i2=>have HD:=Lib.hid (MD h1 HH.out hm b1);clear h1;go_wp2_with fail;refine HD.out.mono ?_;rintro e w1⟨rfl,rfl⟩;go_wp2;go_meet;exact⟨i2,rfl,rfl,rfl⟩
    |no k p=>have HD:=Lib.hid (MF h1 HH.out hm b1);clear h1;go_wp2_with fail;refine HD.out.mono ?_;rintro e w1⟨u,rfl,hf⟩;have HF:=Lib.hid hf;clear hf;go_wp2;go_ret2;exact⟨_,rfl,HF.out⟩
  case rest=>
   obtain⟨i2,rfl,rfl,rfl⟩:=hcut;have b2:=aP.out i2 rfl;clear jX aP;go_wp2_with fail;refine(yO v B i2 _ [46] (by rfl) w HH.out hm (by omega)).mono ?_;rintro e w1⟨rfl,rfl⟩;go_upto_if 27 with(fail);go_cut[1](fun s1 wx=>∃i3:Nat,(if dB [46] B i2 then fi B (i2+1)else .ok i2)=.ok i3∧s1=.int .i64 i3∧i3≤B.size∧w=wx)
   case first=>
    cases ho:dB [46] B i2 with
    |true=>
     have hlt:=lV ho
     cases hr:fi B (i2+1)with
     |ok i3=>have b3:=(sI (by omega) hr).2;have HD:=Lib.hid (MD hr HH.out hm (by omega));(have HZ:(if dB [46] B i2 then fi B (i2+1)else .ok i2)=.ok i3:=by rw[ho,if_pos rfl,hr]);have HZ:=Lib.hid HZ;clear hr ho;go_wp2_with fail;refine HD.out.mono ?_;rintro e w1⟨rfl,rfl⟩;go_wp2;go_meet;exact⟨i3,HZ.out,rfl,b3,rfl⟩
     |no k p=>have HD:=Lib.hid (MF hr HH.out hm (by omega));(have HX:yP B i2=.no k p:=by unfold yP;rw[ho,if_pos rfl,hr];rfl);have HX:=Lib.hid HX;clear hr ho;go_wp2_with fail;refine HD.out.mono ?_;rintro e w1⟨u,rfl,hf⟩;have HF:=Lib.hid hf;clear hf;go_wp2;go_ret2;rw[Sc.fA,HX.out];exact⟨_,rfl,HF.out⟩
    |false=>(have HZ:(if dB [46] B i2 then fi B (i2+1)else .ok i2)=.ok i2:=by rw[ho,if_neg (by simp)]);have HZ:=Lib.hid HZ;clear ho;go_wp2;go_meet;exact⟨i2,HZ.out,rfl,b2,rfl⟩
   case rest=>
    obtain⟨i3,iu,rfl,b3,rfl⟩:=hcut;have HX:yP B i2=sJ B i3:=by unfold yP;rw[iu];rfl
    have HX:=Lib.hid HX;clear iu;go_wp2_with fail;refine(yO v B i3 _ [101,69] (by rfl) w HH.out hm (by omega)).mono ?_;rintro e w1⟨rfl,rfl⟩
    cases ho:dB [101,69] B i3 with
    |true=>
     have hlt:=lV ho;go_wp2_with fail;refine(yO v B (i3+1) _ [43,45] (by rfl) w HH.out hm (by omega)).mono ?_;rintro e w1⟨rfl,rfl⟩
     cases aE:dB [43,45] B (i3+1)with
     |true=>
      have bP:=lV aE;have HY:sJ B i3=fi B (i3+2):=by unfold sJ;rw[ho,if_pos rfl,aE,if_pos rfl]
      have HY:=Lib.hid HY;have HD:=Lib.hid (CJ v B (i3+2) w HH.out hm (by omega));clear ho aE;go_wp2_with fail;rw[show(i3:Int)+1+1=((i3+2:Nat):Int)by omega];refine HD.out.mono ?_;intro e w1 bV
      cases hr:fi B (i3+2)with
      |ok n=>rw[hr]at bV;obtain⟨rfl,rfl⟩:=bV;have HR:=Lib.hid hr;clear hr;go_wp2;go_ret2;rw[Sc.fA,HX.out,HY.out,HR.out];exact⟨rfl,rfl⟩
      |no k p=>rw[hr]at bV;obtain⟨u,rfl,hf⟩:=bV;have HR:=Lib.hid hr;have HF:=Lib.hid hf;clear hr hf;go_wp2;go_ret2;rw[Sc.fA,HX.out,HY.out,HR.out];exact⟨_,rfl,HF.out⟩
     |false=>
      have HY:sJ B i3=fi B (i3+1):=by unfold sJ;rw[ho,if_pos rfl,aE,if_neg (by simp)]
      have HY:=Lib.hid HY;have HD:=Lib.hid (CJ v B (i3+1) w HH.out hm (by omega));clear ho aE;go_wp2_with fail;refine HD.out.mono ?_;intro e w1 bV
      cases hr:fi B (i3+1)with
      |ok n=>rw[hr]at bV;obtain⟨rfl,rfl⟩:=bV;have HR:=Lib.hid hr;clear hr;go_wp2;go_ret2;rw[Sc.fA,HX.out,HY.out,HR.out];exact⟨rfl,rfl⟩
      |no k p=>rw[hr]at bV;obtain⟨u,rfl,hf⟩:=bV;have HR:=Lib.hid hr;have HF:=Lib.hid hf;clear hr hf;go_wp2;go_ret2;rw[Sc.fA,HX.out,HY.out,HR.out];exact⟨_,rfl,HF.out⟩
    |false=>(have HY:sJ B i3=.ok i3:=by unfold sJ;rw[ho,if_neg (by simp)]);have HY:=Lib.hid HY;clear ho;go_wp2;go_ret2;rw[Sc.fA,HX.out,HY.out];exact⟨rfl,rfl⟩
def F_(w:World)(r:Sc Nat)(e:Ending)(w':World):Prop:=match r with
  |.ok n=>e=.returned (.tuple #[.int .i64 n,.nilIface])∧Below w.heap.size w w'
  |.no k i=>∃u,e=.returned (.tuple #[.int .i64 0,.iface 85 (.pointer (some u))])∧dK w k i (.iface 85 (.pointer (some u))) w'
def np(B:ByteArray)(i:Nat)(l:List Nat)(k:Nat):Bool:=decide (i+k<B.size)&&(af B (i+k)==l[k]?.getD 0)
theorem XS(B:ByteArray)(i:Nat)(l:List Nat):nc B i l=(iM B i l.length (np B i l)).bind fun _=>.ok (i+l.length):=rfl
def MG(B:ByteArray)(i:Nat)(l:List Nat)(w:World)(k:Value)(wr:World):Prop:=∃j nq:Nat,k=.int .i64 j∧j≤l.length∧wr=w.drewN nq∧∀m,m<j→np B i l m=true
theorem Ga(v:Value)(B:ByteArray)(i:Nat)(s:ByteArray)(l:List Nat)(hl:s.data.toList.map (·.toNat)=l)(w:World)(h:Rd (Own w) w v (dF B))(hm:B.size≤1100000)(hi:i≤B.size)(hs:s.size≤1000):Calls Tryz.prog 119 #[v,.int .i64 i,.string s] w (F_ w (nc B i l)):=by
 rw[XS];have oK:s.size=l.length:=by rw[←hl];simp
 have HR:=Lib.hid h;obtain⟨a,c,rfl,_,_,hc⟩:=h.eY;have HC:=Lib.hid hc;have HL:=Lib.hid hl;have k7:=Lib.hid oK;have Gb:l.length≤1000:=by omega
 clear h hc hl oK;go_enter Tryz.func119,Tryz.ntmps119;go_wp2_with fail;go_loopw[11](MG B i l w)(fun k _=>l.length-(intOf k).toNat);case atStart=>exact⟨0,0,rfl,Nat.zero_le _,rfl,fun m h=>by omega⟩
 case round=>
  obtain⟨j,nq,rfl,hj,rfl,hf⟩:=hrel;by_cases hlt:j<l.length
  ·have lX:j<s.size:=by rw[k7.out];exact hlt
   by_cases ja:i+j=B.size
   ·have hE:(iM B i l.length (np B i l))=.no 10 B.size:=by rw[CD hlt (by simp[np];omega) hf,if_pos ja]
    have HE:=Lib.hid hE;have t1:((i:Int)+(j:Int)==(B.size:Int))=true:=beq_iff_eq.2 (by omega);have HS:=Lib.hid (yM (.slice a B.size c) B (w.drewN nq) (HR.out.drewN nq));have XT:=Lib.hid ja;clear hE hf ja;go_wp2_with fail;refine HS.out.mono ?_;rintro e w1⟨u,rfl,hx⟩;obtain⟨p,rfl⟩:=hx.form;have HX:=Lib.hid (hx.after (a:=w) (eW nq (Below.refl _ _)));clear hx;go_wp2;go_ret2;rw[HE.out];exact⟨_,rfl,HX.out⟩
   ·have MH:np B i l j=false∨np B i l j=true:=by cases np B i l j<;>simp
    have bP:i+j<B.size:=by
     by_cases h0:j=0
     ·omega
     ·have:=hf (j-1) (by omega);simp only[np,Bool.and_eq_true,decide_eq_true_eq]at this;omega
    obtain⟨b,off,rfl,_,x0⟩:=HC.out (by omega);have x1:=x0 (i+j) bP;have t1:((i:Int)+(j:Int)==(B.size:Int))=false:=beq_eq_false_iff_ne.2 (by omega);have CO:l[j]?=some (s[j]'lX).toNat:=by have XU:j<s.data.size:=lX;rw[←HL.out,List.getElem?_map,Array.getElem?_toList,Array.getElem?_eq_getElem XU];rfl
    have q1:IntKind.i64.wrap ((i:Int)+(j:Int))=(i:Int)+(j:Int):=IntWalk.i64_in _ (by omega);have q2:(0:Int)≤(i:Int)+(j:Int):=by omega
    have q3:((i:Int)+(j:Int)).toNat=i+j:=by omega
    have q4:(i:Int)+(j:Int)<(B.size:Int):=by omega
    by_cases hb:af B (i+j)=(s[j]'lX).toNat
    ·have t2:((af B (i+j):Int)!=((s[j]'lX).toNat:Int))=false:=by simp[hb]
     have t3:(af B (i+j)!=(s[j]'lX).toNat)=false:=by simp[hb]
     have R:∀n,MG B i l w (.int .i64 (j+1)) (w.drewN n):=fun n=>⟨j+1,n,by go_num,by omega,rfl,fun m hm=>by
      by_cases e:m=j
      ·subst e;simp[np,bP,CO,hb]
      ·exact hf m (by omega)⟩
     have aO:=Lib.hid R;clear R hf x0 MH hb CO;go_wp2;go_quiet(fail);go_wp2;refine⟨?_,by simp[intOf];omega⟩;have R:=aO.out;first|exact R _|((repeat apply Exists.intro);exact⟨R _,rfl⟩)
    ·have t2:((af B (i+j):Int)!=((s[j]'lX).toNat:Int))=true:=bne_iff_ne.2 (by omega);have t3:(af B (i+j)!=(s[j]'lX).toNat)=true:=bne_iff_ne.2 hb;have hE:(iM B i l.length (np B i l))=.no 11 (i+j:Nat):=by rw[CD hlt (by simp[np,CO,hb]) hf,if_neg (by omega)]
     have HE:=Lib.hid hE;clear hf x0 MH hb CO hE;go_wp2;go_quiet(fail);go_wp2_with fail;rw[show(i:Int)+(j:Int)=((i+j:Nat):Int)by omega];refine(fails 11 _ _).mono ?_;rintro e w1⟨u,rfl,hx⟩;obtain⟨p,rfl⟩:=hx.form;have HX:=Lib.hid (hx.after (a:=w) (eW _ (Below.refl _ _)));clear hx;go_wp2;go_ret2;rw[HE.out];exact⟨_,rfl,HX.out⟩
  ·obtain rfl:j=l.length:=by omega
   have hE:(iM B i l.length (np B i l))=.ok ():=Mr hf;have HE:=Lib.hid hE;have q0:s.size=l.length:=k7.out;have HQ:=Lib.hid q0;have q1:(s.size:Int)≤(l.length:Int):=by omega
   have t0:decide ((l.length:Int)<(s.size:Int))=false:=decide_eq_false (by omega);clear hf hE q0;go_wp2;go_ret2;rw[HE.out];exact⟨by rw[HQ.out];rfl,eW _ (Below.refl _ _)⟩
def uJ(c:Nat):Value×Value:=match sG c with
  |some x=>(.int .u8 x,.bool true)
  |none=>(.int .u8 0,.bool false)
theorem XV(c:Nat)(w:World)(hc:c<256):Calls Tryz.prog 174 #[.int .u8 c] w fun e w'=>e=.returned (.tuple #[(uJ c).1,(uJ c).2])∧w=w':=by
 have key:∀k:Nat,k<256→k≠c→((c:Int)==(k:Int))=false:=fun k _ h=>beq_eq_false_iff_ne.2 (by omega);by_cases e1:c=34
 ·subst e1;go_enter Tryz.func174,Tryz.ntmps174;go_wp2;go_ret2;exact⟨rfl,rfl⟩
 by_cases e2:c=92
 ·subst e2;go_enter Tryz.func174,Tryz.ntmps174;go_wp2;go_ret2;exact⟨rfl,rfl⟩
 by_cases e3:c=47
 ·subst e3;go_enter Tryz.func174,Tryz.ntmps174;go_wp2;go_ret2;exact⟨rfl,rfl⟩
 by_cases e4:c=98
 ·subst e4;go_enter Tryz.func174,Tryz.ntmps174;go_wp2;go_ret2;exact⟨rfl,rfl⟩
 by_cases e5:c=102
 ·subst e5;go_enter Tryz.func174,Tryz.ntmps174;go_wp2;go_ret2;exact⟨rfl,rfl⟩
 by_cases e6:c=110
 ·subst e6;go_enter Tryz.func174,Tryz.ntmps174;go_wp2;go_ret2;exact⟨rfl,rfl⟩
 by_cases e7:c=114
 ·subst e7;go_enter Tryz.func174,Tryz.ntmps174;go_wp2;go_ret2;exact⟨rfl,rfl⟩
 by_cases e8:c=116
 ·subst e8;go_enter Tryz.func174,Tryz.ntmps174;go_wp2;go_ret2;exact⟨rfl,rfl⟩
 have hs:sG c=none:=by unfold sG;rw[if_neg (by omega),if_neg e4,if_neg e5,if_neg e6,if_neg e7,if_neg e8]
 have HS:=Lib.hid hs;have t1:=key 34 (by decide) (fun h=>e1 h.symm);have t2:=key 92 (by decide) (fun h=>e2 h.symm);have t3:=key 47 (by decide) (fun h=>e3 h.symm);have t4:=key 98 (by decide) (fun h=>e4 h.symm);have t5:=key 102 (by decide) (fun h=>e5 h.symm);have t6:=key 110 (by decide) (fun h=>e6 h.symm);have t7:=key 114 (by decide) (fun h=>e7 h.symm);have t8:=key 116 (by decide) (fun h=>e8 h.symm);clear hs key e1 e2 e3 e4 e5 e6 e7 e8;go_enter Tryz.func174,Tryz.ntmps174;go_wp2;go_ret2;unfold uJ;rw[HS.out]
 exact⟨rfl,rfl⟩
theorem CQ{a b:Int}(h:a=b):Ending.returned (.int .u64 a)=.returned (.int .u64 b):=by rw[h]
theorem X9(c:Nat)(hc:c<256)(w:World):Calls Tryz.prog 199 #[.int .u8 c] w fun e w'=>e=.returned (.int .u64 (fD c))∧w=w':=by
 have hd:fD c=fD c:=rfl;conv at hd=>rhs;unfold fD
 by_cases h1:48≤c∧c≤57
 ·rw[if_pos h1]at hd;have HD:=Lib.hid hd;have t1:decide ((48:Int)≤(c:Int))=true:=decide_eq_true (by omega);have t2:decide ((c:Int)≤57)=true:=decide_eq_true (by omega);have q1:(48:Int)≤c:=by omega
  have q2:(c:Int)≤57:=by omega
  clear hd h1;go_enter Tryz.func199,Tryz.ntmps199;go_wp2;go_ret;exact⟨CQ (by rw[HD.out];omega),rfl⟩
 ·rw[if_neg h1]at hd;by_cases h2:97≤c∧c≤102
  ·rw[if_pos h2]at hd;have HD:=Lib.hid hd;have t1:decide ((48:Int)≤(c:Int))=true:=decide_eq_true (by omega);have t2:decide ((c:Int)≤57)=false:=decide_eq_false (by omega);have t3:decide ((97:Int)≤(c:Int))=true:=decide_eq_true (by omega);have t4:decide ((c:Int)≤102)=true:=decide_eq_true (by omega);have q1:(97:Int)≤c:=by omega
   have q2:(c:Int)≤102:=by omega
   clear hd h1 h2;go_enter Tryz.func199,Tryz.ntmps199;go_wp2;go_ret;exact⟨CQ (by rw[HD.out];omega),rfl⟩
  ·rw[if_neg h2]at hd;by_cases h3:65≤c∧c≤70
   ·rw[if_pos h3]at hd;have HD:=Lib.hid hd;have t1:decide ((48:Int)≤(c:Int))=true:=decide_eq_true (by omega);have t2:decide ((c:Int)≤57)=false:=decide_eq_false (by omega);have t3:decide ((97:Int)≤(c:Int))=false:=decide_eq_false (by omega);have t5:decide ((65:Int)≤(c:Int))=true:=decide_eq_true (by omega);have t6:decide ((c:Int)≤70)=true:=decide_eq_true (by omega);have q1:(65:Int)≤c:=by omega
    have q2:(c:Int)≤70:=by omega
    clear hd h1 h2 h3;go_enter Tryz.func199,Tryz.ntmps199;go_wp2;go_ret;exact⟨CQ (by rw[HD.out];omega),rfl⟩
   ·rw[if_neg h3]at hd;have HD:=Lib.hid hd
    have q:(decide ((48:Int)≤(c:Int))=false∨decide ((48:Int)≤(c:Int))=true∧decide ((c:Int)≤57)=false):=by
     by_cases h:48≤c
     ·exact .inr ⟨decide_eq_true (by omega),decide_eq_false (by omega)⟩
     ·exact .inl (decide_eq_false (by omega))
    have q':(decide ((97:Int)≤(c:Int))=false∨decide ((97:Int)≤(c:Int))=true∧decide ((c:Int)≤102)=false):=by
     by_cases h:97≤c
     ·exact .inr ⟨decide_eq_true (by omega),decide_eq_false (by omega)⟩
     ·exact .inl (decide_eq_false (by omega))
    have q2:(decide ((65:Int)≤(c:Int))=false∨decide ((65:Int)≤(c:Int))=true∧decide ((c:Int)≤70)=false):=by
     by_cases h:65≤c
     ·exact .inr ⟨decide_eq_true (by omega),decide_eq_false (by omega)⟩
     ·exact .inl (decide_eq_false (by omega))
    clear hd h1 h2 h3;rcases q with q|⟨q,p⟩;all_goals rcases q' with q'|⟨q',p'⟩
    all_goals rcases q2 with q2|⟨q2,p2⟩
    all_goals go_enter Tryz.func199,Tryz.ntmps199;go_wp2;go_ret;exact⟨CQ (by rw[HD.out];rfl),rfl⟩
theorem yR(s:ByteArray)(w:World):∃(W0:World)(cap:Nat),(convert 9 22 (.string s)).run Tryz.prog w=.ok (.slice (some ⟨w.heap.size,0,none⟩) s.size cap) W0∧s.size≤cap∧Below w.heap.size w W0∧w.heap.size<W0.heap.size∧∀i,i<s.size→W0.cell? ⟨w.heap.size,i,none⟩=some (.int .u8 (af s i)):=by
 have hcv:=run_bytes_of_string (P:=Tryz.prog) w 9 22 5 s Tryz.underlying9 Tryz.underlying22 Tryz.underlying5;refine⟨_,_,hcv,?_,⟨rfl,rfl,rfl,by simp,fun k hk=>Below.heap_alloc w.drew _ k hk⟩,by simp,fun i hi=>?_⟩
 ·exact grownCap_ge _ _ _ _
 ·have eB:i<s.data.size:=hi;have:=bytesRow_at s (grownCap w s.size 0 5) i eB;rw[af,Array.getElem?_eq_getElem eB];have hx:(w.drew.alloc (.cells (bytesRow s (grownCap w s.size 0 5)) 5 ((bytesRow s (grownCap w s.size 0 5)).size,(bytesRow s (grownCap w s.size 0 5)).size+1))).heap[w.heap.size]?=some (.cells (bytesRow s (grownCap w s.size 0 5)) 5 ((bytesRow s (grownCap w s.size 0 5)).size,(bytesRow s (grownCap w s.size 0 5)).size+1)):=heap_alloc_new w.drew _;rw[cell_of_row _ w.heap.size i _ _ _ hx]
  simpa using this
theorem Gd{s:ByteArray}(h:s.size≠0):s.toList.isEmpty=false:=by
 rw[ByteArray.toList_eq]
 cases hd:s.data.toList with
 |nil=>exact absurd (by show s.data.size=0;rw[←Array.length_toList,hd];rfl) h
 |cons a l=>rfl
theorem ML{s:ByteArray}(h:s.size=0):s=⟨#[]⟩:=by
 cases s with
 |mk d=>rw[Array.eq_empty_of_size_eq_zero h]
def lY:Nat:=18446744073709551616
def MM(w:World)(r:Sc Nat)(e:Ending)(w':World):Prop:=match r with
  |.ok n=>e=.returned (.tuple #[.int .u64 n,.nilIface])∧Below w.heap.size w w'
  |.no k i=>∃u,e=.returned (.tuple #[.int .u64 0,.iface 85 (.pointer (some u))])∧dK w k i (.iface 85 (.pointer (some u))) w'
def CR(base:Nat)(s:ByteArray)(W:World)(n o i:Value)(wr:World):Prop:=wr=W∧∃(j N:Nat)(ov:Bool),i=.int .i64 j∧j≤s.size∧n=.int .u64 N∧o=.bool ov∧N<lY∧ov=decide (lY≤gn base s j)∧(ov=false→N=gn base s j)∧∀m,m<j→nt base s m=false
theorem X_{base:Nat}{s:ByteArray}{j N:Nat}(ar:1≤base)(hb:base≤16)(hN:N<lY):∃H L C S2:Nat,N*base/18446744073709551616=H∧N*base%18446744073709551616=L∧(L+fD (af s j)+0)/18446744073709551616=C∧(L+fD (af s j)+0)%18446744073709551616=S2∧H≤16∧C≤1∧S2<lY∧L<lY∧(N=gn base s j→(decide (0<H+C)=decide (lY≤gn base s (j+1))∧(¬0<H+C→S2=gn base s (j+1)))):=by
 unfold lY at*;have hd:=MI (af s j);refine⟨_,_,_,_,rfl,rfl,rfl,rfl,?_,by omega,by omega,by omega,?_⟩
 ·have:N*base≤N*16:=Nat.mul_le_mul_left _ hb;generalize N*base=x at*;omega
 ·intro hN;have st:=XW (n:=N) (base:=base) (d:=fD (af s j)) (by omega) (by omega) (by omega);have e:gn base s (j+1)=N*base+fD (af s j):=by rw[hN];rfl
  rw[e,Nat.add_zero];refine⟨?_,fun h=>st.2 (by have:=st.1;omega)⟩;rw[Bool.eq_iff_iff,decide_eq_true_eq,decide_eq_true_eq];exact st.1
theorem Ya{base:Nat}{s:ByteArray}{j:Nat}(ar:1≤base)(h:true=decide (lY≤gn base s j)):true=decide (lY≤gn base s (j+1)):=by have h1:=of_decide_eq_true h.symm;have:=X0 base s ar j;exact(decide_eq_true (by omega)).symm
theorem Yb(L D S2 C:Nat)(w:World)(eC:(L+D+0)/18446744073709551616=C)(eS:(L+D+0)%18446744073709551616=S2):(callFunc 201 #[.int .u64 L,.int .u64 D,.int .u64 0]).run Tryz.prog w=.ok (.value (.tuple #[.int .u64 S2,.int .u64 C])) w:=by rw[←eC,←eS];exact Any7.bits_Add64 Tryz.lays7_25 L D 0 (by decide) w
theorem Yc(s:ByteArray)(base most:Nat)(w:World)(hs:s.size≤1100000)(ar:1≤base)(hb:base≤16)(hm:most<lY):Calls Tryz.prog 194 #[.string s,.int .u64 base,.int .u64 most] w (MM w (pU base most s)):=by
 by_cases h0:s.size=0
 ·have e:=ML h0;subst e;have hF:pU base most ⟨#[]⟩=.no 10 0:=rfl;have HF:=Lib.hid hF;clear hF hm h0 hs;go_enter Tryz.func194,Tryz.ntmps194;go_wp2_with fail;refine(fails 10 0 w).mono ?_;rintro e w1⟨u,rfl,hf⟩;obtain⟨p,rfl⟩:=hf.form;have HX:=Lib.hid hf;clear hf;go_wp2;go_ret2;rw[HF.out];exact⟨_,rfl,HX.out⟩
 ·have hne:=Gd h0;obtain⟨W0,cap,hcv,gY,dc,bT,hcell⟩:=yR s w;have HC:=Lib.hid hcell;have HB:=Lib.hid dc;have HM:=Lib.hid hm;clear hcell dc hm;go_enter Tryz.func194,Tryz.ntmps194;go_wp2_with fail;go_loopw[6,8,22](CR base s W0)(fun _ _ i _=>s.size-(intOf i).toNat);case atStart=>exact⟨rfl,0,0,false,rfl,Nat.zero_le _,rfl,rfl,by decide,by rfl,fun _=>rfl,fun m h=>by omega⟩
  case round=>
   obtain⟨rfl,j,N,ov,rfl,hj,rfl,rfl,hN,uK,uL,hn⟩:=hrel;clear hcv;by_cases hlt:j<s.size
   ·have x0:=HC.out j hlt;have hc:=dm s j;have V:=Lib.hid (X9 (af s j) hc wr);have CS:=MI (af s j)
    cases fE:nt base s j with
    |true=>have E:=Lib.hid (MJ (most:=most) hlt fE hn);have t:decide (base≤fD (af s j))=true:=fE;clear hn fE uK uL hN;go_wp2_with fail;refine V.out.mono ?_;rintro e w1⟨rfl,rfl⟩;go_wp2_with fail;refine(fails 11 j wr).mono ?_;rintro e w1⟨u,rfl,hf⟩;obtain⟨p,rfl⟩:=hf.form;have HX:=Lib.hid (hf.after HB.out);clear hf;go_wp2;go_ret2;rw[E.out];exact⟨_,rfl,HX.out⟩
    |false=>
     have t:decide (base≤fD (af s j))=false:=fE;obtain⟨H,L,C,S2,eH,eL,eC,eS,bH,bC,bS,bL,hstep⟩:=X_ (s:=s) (j:=j) ar hb hN;have M:=Tryz.bits_Mul64 N base (by unfold lY at hN;exact hN) (by omega) wr;rw[eH,eL]at M;have A:=Yb L (fD (af s j)) S2 C wr eC eS
     have wL:∀m,m<j+1→nt base s m=false:=fun m hm=>by
      by_cases e:m=j
      ·subst e;exact fE
      ·exact hn m (by omega)
     have Ge:=Lib.hid M;have Gf:=Lib.hid wL;have cM:=Lib.hid hstep;have sK:=Lib.hid bS;have Yd:=Lib.hid uK;have eP:=Lib.hid uL;generalize fD (af s j)=D at*;clear M wL hstep bS uK uL hn fE eH eL eC eS bL hN
     cases ov with
     |true=>have R:CR base s wr (.int .u64 S2) (.bool true) (.int .i64 (j+1)) wr:=⟨rfl,j+1,S2,true,by go_num,by omega,rfl,rfl,sK.out,Ya ar Yd.out,nofun,Gf.out⟩;have HR:=Lib.hid R;clear R;go_wp2_with fail;refine V.out.mono ?_;rintro e w1⟨rfl,rfl⟩;go_wp2_with fail;refine Ge.out.mono ?_;rintro e w1⟨rfl,rfl⟩;go_wp2;refine⟨?_,by simp[intOf];omega⟩;have R:=HR.out;first|exact R|((repeat apply Exists.intro);exact⟨R,rfl⟩)
     |false=>
      have h2:=cM.out (eP.out rfl);by_cases hg:0<H+C
      ·have tg:decide ((0:Int)<(H:Int)+(C:Int))=true:=decide_eq_true (by omega);have R:CR base s wr (.int .u64 S2) (.bool true) (.int .i64 (j+1)) wr:=⟨rfl,j+1,S2,true,by go_num,by omega,rfl,rfl,sK.out,by rw[←h2.1];exact(decide_eq_true hg).symm,nofun,Gf.out⟩;have HR:=Lib.hid R;clear R h2;go_wp2_with fail;refine V.out.mono ?_;rintro e w1⟨rfl,rfl⟩;go_wp2_with fail;refine Ge.out.mono ?_;rintro e w1⟨rfl,rfl⟩;go_wp2;refine⟨?_,by simp[intOf];omega⟩;have R:=HR.out
       first|exact R|((repeat apply Exists.intro);exact⟨R,rfl⟩)
      ·have tg:decide ((0:Int)<(H:Int)+(C:Int))=false:=decide_eq_false (by omega);have R:CR base s wr (.int .u64 S2) (.bool false) (.int .i64 (j+1)) wr:=⟨rfl,j+1,S2,false,by go_num,by omega,rfl,rfl,sK.out,by rw[←h2.1];exact(decide_eq_false hg).symm,fun _=>h2.2 hg,Gf.out⟩;have HR:=Lib.hid R;clear R h2;go_wp2_with fail;refine V.out.mono ?_;rintro e w1⟨rfl,rfl⟩;go_wp2_with fail;refine Ge.out.mono ?_;rintro e w1⟨rfl,rfl⟩;go_wp2;refine⟨?_,by simp[intOf];omega⟩;have R:=HR.out
       first|exact R|((repeat apply Exists.intro);exact⟨R,rfl⟩)
   ·obtain rfl:j=s.size:=by omega
    have E:=Gc (most:=most) h0 hn;have wM:=HM.out
    cases ov with
    |true=>have h2:lY≤gn base s s.size:=of_decide_eq_true uK.symm;rw[if_pos (by omega)]at E;have HE:=Lib.hid E;clear E hn uK uL hN h2 wM;go_wp2_with fail;refine(fails 16 0 wr).mono ?_;rintro e w1⟨u,rfl,hf⟩;obtain⟨p,rfl⟩:=hf.form;have HX:=Lib.hid (hf.after HB.out);clear hf;go_wp2;go_ret2;rw[HE.out];exact⟨_,rfl,HX.out⟩
    |false=>
     have e:=uL rfl;by_cases MN:most<N
     ·rw[if_pos (by omega)]at E;have HE:=Lib.hid E;have t2:decide (most<N)=true:=decide_eq_true MN;clear E hn uK uL hN e wM;go_wp2_with fail;refine(fails 16 0 wr).mono ?_;rintro e w1⟨u,rfl,hf⟩;obtain⟨p,rfl⟩:=hf.form;have HX:=Lib.hid (hf.after HB.out);clear hf;go_wp2;go_ret2;rw[HE.out];exact⟨_,rfl,HX.out⟩
     ·rw[if_neg (by omega),←e]at E;have HE:=Lib.hid E;have t2:decide (most<N)=false:=decide_eq_false MN;clear E hn uK uL hN e wM;go_wp2;go_ret2;rw[HE.out];exact⟨rfl,HB.out⟩
theorem MO(s:ByteArray)(most:Nat)(w:World)(hs:s.size≤1100000)(hm:most<lY):Calls Tryz.prog 191 #[.string s,.int .u64 most] w (MM w (pU 16 most s)):=by
 have C:=Lib.hid (Yc s 16 most w hs (by decide) (by decide) hm);clear hm;go_enter Tryz.func191,Tryz.ntmps191;go_wp2_with fail;refine C.out.mono ?_;intro e w1 bV
 cases hr:pU 16 most s with
 |ok n=>rw[hr]at bV;obtain⟨rfl,hb⟩:=bV;have HB:=Lib.hid hb;have HR:=Lib.hid hr;clear hb hr;go_wp2;go_ret2;rw[HR.out];exact⟨rfl,HB.out⟩
 |no k i=>rw[hr]at bV;obtain⟨u,rfl,hf⟩:=bV;have HF:=Lib.hid hf;have HR:=Lib.hid hr;clear hf hr;go_wp2;go_ret2;rw[HR.out];exact⟨_,rfl,HF.out⟩
end Go.Proofs.YtcaiibkgajhohaaGreatDoor
