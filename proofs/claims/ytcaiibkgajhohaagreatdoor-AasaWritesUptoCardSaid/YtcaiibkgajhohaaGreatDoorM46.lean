/- waybill: lemmas and walks, printed from longer texts. -/
import Derived.Test.YtcaiibkgajhohaaGreatDoorM45
set_option maxRecDepth 100000
set_option maxHeartbeats 32000000
namespace Go.Proofs.YtcaiibkgajhohaaGreatDoor
open Go.RowKit
theorem aha(x:aZ)(h:x.cS=true):uh x [(gy,aG x.query)]:=.inr ⟨.inl h,aG x.query,rfl,Nat.le_trans (tY _) (by unfold lN;omega),fun _=>by unfold ug;rw[if_pos h]⟩
def Vk(w0 wa:World)(X:Nat)(F:Fl)(items:List eI)(v7 v8 k:Value)(wr:World):Prop:=∃j:Nat,k=.int .i64 j∧j≤items.length∧Tw w0 wa X (F.add ((items.take j).any fun i=>!aN i.value) false) v7 v8 j j ((items.map (·.name)).take j) ((items.map fun i=>aG i.value).take j) wr
theorem ahb(w0 w:World)(X:Nat)(f:Fl)(x:aZ)(vI:Value)(h:dX w0 w X f)(hI:qS X w vI x.items)(hs:x.path.size≤1048576∧x.query.size≤1048576∧x.bw.size≤1048576)(hit:∀i∈x.items,i.name.size≤1048576∧i.value.size≤1048576)(hz:fQ x≤100000000000000)(hl:x.items.length≤1100000):Calls Tryz.prog 44 #[an X,.agg (aX x vI)] w fun e w'=>∃T,e=.returned (.string T)∧Tx (fQ x) (!gD x&&!di x) (px x) T∧dX w0 w' X (f.add (gD x) (di x))∧ag (fun b=>b=X) w w':=by
 have HI:=Lib.hid hI;obtain⟨aI,cI,rfl,_⟩:=hI;obtain⟨nI,mQ⟩:∃n,x.items.length=n:=⟨_,rfl⟩;have iI:=Lib.hid mQ;rw[mQ]at hl HI⊢;have H:=Lib.hid h;have HZ:=Lib.hid hz;have BO:=Lib.hid hit;have Am:=Lib.hid hs;have X1:=heap_alloc_new w (.cells (aX x (.slice aI nI cI)) 40);have B1:=aj (Below.refl _ w) (.cells (aX x (.slice aI nI cI)) 40);obtain⟨w1,aH⟩:∃W,w.alloc (.cells (aX x (.slice aI nI cI)) 40)=W:=⟨_,rfl⟩;rw[aH]at X1 B1;have bW:w1.heap.size=w.heap.size+1:=by rw[←aH];simp
 have S0:=Fs (h.ext B1);have iP:=Lib.hid (show w0.heap.size≤w1.heap.size by have:=h.below.size;omega);obtain⟨R,hR⟩:∃R,w.heap.size=R:=⟨_,rfl⟩;have hXR:X<w.heap.size:=h.lt;rw[hR]at X1;rw[bW,hR]at S0;have S0:=Lib.hid S0
 have CB:=Lib.hid (fun W(hW:ag (fun b=>b=X) w1 W)(i:Nat)=>(show W.cell? ⟨R,i,none⟩=(#[.string x.path,.string x.query,.string x.bw,.bool x.bz,.bool x.cS,.bool x.bM,.slice aI nI cI,.bool x.cU,.bool x.fold,.bool x.dG]:Array Value)[i]? from Lib.cell_of_heap ((hW.block R (by omega) (by omega)).trans X1) i))
 have wh:Hid (w.alloc (.cells #[.string x.path,.string x.query,.string x.bw,.bool x.bz,.bool x.cS,.bool x.bM,.slice aI nI cI,.bool x.cU,.bool x.fold,.bool x.dG] 40)=w1):=Lib.hid (by rw[←aH];rfl);have aQ:=Lib.hid B1;have K_:=Lib.hid hR;have amp:=Lib.hid bW;unfold an;simp only[aX];clear h hz hit hs X1 B1 aH hR mQ hXR bW;go_enter Tryz.func44,Tryz.ntmps44;go_upto_region 2 with(fail);rw[wh.out,K_.out];obtain⟨wc,zJ⟩:∃W,(w1.alloc (.cells #[] 9)).alloc (.cells #[] 9)=W:=⟨_,rfl⟩
 obtain⟨a5,h5⟩:∃a:Option Addr,some ⟨R+1,0,none⟩=a:=⟨_,rfl⟩;obtain⟨a6,h6⟩:∃a:Option Addr,some ⟨R+1+1,0,none⟩=a:=⟨_,rfl⟩;rw[zJ,h5,h6]at S0⊢;obtain⟨l0,mH⟩:∃q:List KV,[]=q:=⟨_,rfl⟩;have S0:Hid (Tw w0 w1 X f (.slice a5 0 0) (.slice a6 0 0) 0 0 (l0.map (·.1)) (l0.map (·.2)) wc):=Lib.hid (by rw[←mH];exact S0.out);have Hl0:=Lib.hid mH;clear zJ h5 h6 mH;obtain⟨b,hb⟩:∃b,x.bz=b:=⟨_,rfl⟩
 have cb:(wc.cell? ⟨R,3,none⟩=some (.bool b)):=by rw[←hb];exact CB.out _ S0.out.only 3
 have eV:=Lib.hid hb;clear hb;have cs:(wc.cell? ⟨R,0,none⟩=some (.string x.path)):=CB.out _ S0.out.only 0;go_upto_if 13 with(fail);go_cut[5,6](fun s5 s6 wx=>∃n,n≤1∧Tw w0 w1 X (f.add (x.bz&&!aN x.path) false) s5 s6 n n ((l0++aU x.bz dH (aG x.path)).map (·.1)) ((l0++aU x.bz dH (aG x.path)).map (·.2)) wx)
 case first=>
  clear cb
  cases b with
  |false=>go_wp2;go_meet;exact⟨0,by omega,by rw[eV.out];simpa[aU,Fl.dO]using S0.out⟩
  |true=>
   clear cs;go_wp2_with(at_builtin;refine ga _ #[.string dH] 9 rfl _ _ 96 rfl w1.heap.size eK _ _ _ rfl S0.out.dj rfl rfl ?c1 ?c2 ?c3 ?c4 ?_);case c1=>first|rfl|(intro u hu;simp at hu;subst hu;rfl)
   case c2=>unfold maxLen;omega
   case c3=>omega
   case c4=>exact S0.out.only.size
   intro v2 w2 aE aL bI;have hS:=S0.out.name dH aE aL bI iP.out;obtain⟨a2,c2,rfl,_⟩:=aM aE;have SA:=Lib.hid hS;clear hS aE aL bI;have cs:(w2.cell? ⟨R,0,none⟩=some (.string x.path)):=CB.out _ SA.out.only 0;have TX:=Lib.hid (SA.out.text x.path Am.out.1);go_wp2_with fail;refine TX.out.mono ?_;rintro e w3⟨rfl,hS⟩;have SB:=Lib.hid hS;clear hS cs;go_wp2_with(at_builtin;refine ga _ #[.string (aG x.path)] 9 rfl _ _ 96 rfl w1.heap.size eK _ _ _ rfl SB.out.dD rfl rfl ?c1 ?c2 ?c3 ?c4 ?_)
   case c1=>first|rfl|(intro u hu;simp at hu;subst hu;rfl)
   case c2=>unfold maxLen;omega
   case c3=>omega
   case c4=>exact SB.out.only.size
   intro v2 w2 aE aL bI;have hS:=SB.out.val (aG x.path) aE aL bI iP.out;obtain⟨a2,c2,rfl,_⟩:=aM aE;have SC:=Lib.hid hS;clear hS aE aL bI;go_wp2;go_meet;exact⟨0+1,by omega,by rw[eV.out];simpa[aU]using SC.out⟩
 case rest=>
  clear cb eV cs;obtain⟨n,hn,hS⟩:=hcut;obtain⟨F1,hF⟩:∃F,(f.add (x.bz&&!aN x.path) false)=F:=⟨_,rfl⟩;obtain⟨l1,hL⟩:∃l,l0++aU x.bz dH (aG x.path)=l:=⟨_,rfl⟩;rw[hF,hL]at hS;have K0:=Lib.hid hF;have Hl1:=Lib.hid hL;obtain⟨a5,c5,rfl,_⟩:=aM hS.dj;obtain⟨a6,c6,rfl,_⟩:=aM hS.dD;have S1:=Lib.hid hS;clear hS hF hL;obtain⟨b,hb⟩:∃b,x.cS=b:=⟨_,rfl⟩;have cb:(wc.cell? ⟨R,4,none⟩=some (.bool b)):=by rw[←hb];exact CB.out _ S1.out.only 4
  have eV:=Lib.hid hb;clear hb;have cs:(wc.cell? ⟨R,1,none⟩=some (.string x.query)):=CB.out _ S1.out.only 1;have ci:(wc.cell? ⟨R,6,none⟩=some (.slice aI nI cI)):=CB.out _ S1.out.only 6;go_upto_if 25 with(fail);go_cut[5,6](fun s5 s6 wx=>∃n qs,n≤2∧uh x qs∧Tw w0 w1 X (F1.add (fg x) (di x)) s5 s6 n n ((l1++qs).map (·.1)) ((l1++qs).map (·.2)) wx)
  case first=>
   clear cb
   cases b with
   |true=>
    clear cs ci;go_wp2_with(at_builtin;refine ga _ #[.string gy] 9 rfl _ _ 96 rfl w1.heap.size eK _ _ _ rfl S1.out.dj rfl rfl ?c1 ?c2 ?c3 ?c4 ?_);case c1=>first|rfl|(intro u hu;simp at hu;subst hu;rfl)
    case c2=>unfold maxLen;omega
    case c3=>omega
    case c4=>exact S1.out.only.size
    intro v2 w2 aE aL bI;have hS:=S1.out.name gy aE aL bI iP.out;obtain⟨a2,c2,rfl,_⟩:=aM aE;have SA:=Lib.hid hS;clear hS aE aL bI;have cs:(w2.cell? ⟨R,1,none⟩=some (.string x.query)):=CB.out _ SA.out.only 1;have TX:=Lib.hid (SA.out.text x.query Am.out.2.1);go_wp2_with fail;refine TX.out.mono ?_;rintro e w3⟨rfl,hS⟩;have SB:=Lib.hid hS;clear hS cs;go_wp2_with(at_builtin;refine ga _ #[.string (aG x.query)] 9 rfl _ _ 96 rfl w1.heap.size eK _ _ _ rfl SB.out.dD rfl rfl ?c1 ?c2 ?c3 ?c4 ?_)
    case c1=>first|rfl|(intro u hu;simp at hu;subst hu;rfl)
    case c2=>unfold maxLen;omega
    case c3=>omega
    case c4=>exact SB.out.only.size
    intro v2 w2 aE aL bI;have hS:=SB.out.val (aG x.query) aE aL bI iP.out;obtain⟨a2,c2,rfl,_⟩:=aM aE;have SC:=Lib.hid hS;clear hS aE aL bI;go_wp2;go_meet;exact⟨n+1,[(gy,aG x.query)],by omega,aha x eV.out,by(have e1:fg x=!aN x.query:=by unfold fg;rw[if_pos eV.out]);(have e2:di x=false:=by unfold di;rw[eV.out];rfl);rw[e1,e2];simpa using SC.out⟩
   |false=>
    rcases Nat.eq_zero_or_pos nI with jx|jx
    ·have t3:decide ((0:Int)<(nI:Int))=false:=decide_eq_false (by omega);have gS:decide (0<nI)=false:=decide_eq_false (by omega);have si:x.items=[]:=List.eq_nil_of_length_eq_zero (by rw[iI.out];exact jx);have HQ:=Lib.hid (show uh x []from .inl ⟨eV.out,si,rfl⟩)
     have HS:=Lib.hid (show Tw w0 w1 X (F1.add (fg x) (di x)) (.slice a5 n c5) (.slice a6 n c6) n n ((l1++([]:List KV)).map (·.1)) ((l1++([]:List KV)).map (·.2)) wc by(have e1:fg x=false:=by unfold fg;rw[if_neg (by rw[eV.out];simp),si];rfl);(have e2:di x=false:=by unfold di;rw[si];simp[db]);rw[e1,e2,Fl.dO,List.append_nil];exact S1.out);clear si jx cs;go_wp2;go_meet;exact⟨n,[],by omega,HQ.out,HS.out⟩
    ·have t3:decide ((0:Int)<(nI:Int))=true:=decide_eq_true (by omega);have gS:decide (0<nI)=true:=decide_eq_true (by omega);have Le:=Lib.hid (Fs S1.out.bq);have HH:=Lib.hid ((ag.of (T:=fun b=>b=X) aQ.out).trans S1.out.only);have Lf:=Lib.hid jx;clear cs;go_wp2_with fail;clear ci;go_loopw[7,8,9](Vk w0 wc X F1 x.items)(fun _ _ i _=>nI-(intOf i).toNat);case atStart=>exact⟨0,rfl,Nat.zero_le _,by simpa[Fl.dO]using Le.out⟩
     case' round=>
      obtain⟨j,rfl,hj,hT⟩:=hrel;rw[iI.out]at hj;obtain⟨a7,c7,rfl,_⟩:=aM hT.dj;obtain⟨a8,c8,rfl,_⟩:=aM hT.dD;have T0:=Lib.hid hT;have Lg:ag (fun b=>b=X) w1 wr:=S1.out.only.trans hT.only;have ci:(wr.cell? ⟨R,6,none⟩=some (.slice aI nI cI)):=CB.out _ Lg 6;have xn:=Lib.hid Lg;clear hT Lg;by_cases hlt:j<nI
      case pos=>
       have t1:decide ((j:Int)<(nI:Int))=true:=decide_eq_true (by omega);have aT:decide (j<nI)=true:=decide_eq_true hlt;have q1:IntKind.i64.wrap ((j:Int)+1)=(j:Int)+1:=IntWalk.i64_in _ (by omega);obtain⟨it,qU⟩:=bN x.items j (by rw[iI.out];exact hlt);obtain⟨b,o,hb,rfl,_,_,d0,d1,d2⟩:=(HI.out.turn (HH.out.trans T0.out.only)).cell j it qU;have HJ:=Lib.hid qU;have hsz:=BO.out it (List.mem_of_getElem? qU);clear qU d1 d2
       go_wp2_with(at_builtin;refine ga _ #[.string it.name] 9 rfl _ _ 96 rfl wc.heap.size eK _ _ _ rfl T0.out.dj rfl rfl ?c1 ?c2 ?c3 ?c4 ?_);case c1=>first|rfl|(intro u hu;simp at hu;subst hu;rfl)
       case c2=>unfold maxLen;omega
       case c3=>omega
       case c4=>exact T0.out.only.size
       intro v2 w2 aE aL bI;have hS:=T0.out.name it.name aE aL bI (Nat.le_trans iP.out S1.out.only.size);obtain⟨a9,c9,rfl,_⟩:=aM aE;have SA:=Lib.hid hS;clear hS aE aL bI;obtain⟨b2,o2,ah,h2,_,_,d0,d1,d2⟩:=(HI.out.turn (HH.out.trans SA.out.only)).cell j it HJ.out;cases h2;clear ci;have ci:(w2.cell? ⟨R,6,none⟩=some (.slice (some ⟨b,o,none⟩) nI cI)):=CB.out _ (S1.out.only.trans SA.out.only) 6;have TX:=Lib.hid (SA.out.text it.value hsz.2);clear d0 d2;go_wp2_with fail;refine TX.out.mono ?_;rintro e w3⟨rfl,hS⟩
       have SB:=Lib.hid hS;clear hS ci d1;go_wp2_with(at_builtin;refine ga _ #[.string (aG it.value)] 9 rfl _ _ 96 rfl wc.heap.size eK _ _ _ rfl SB.out.dD rfl rfl ?c1 ?c2 ?c3 ?c4 ?_);case c1=>first|rfl|(intro u hu;simp at hu;subst hu;rfl)
       case c2=>unfold maxLen;omega
       case c3=>omega
       case c4=>exact SB.out.only.size
       intro v2 w2 aE aL bI;have hS:=SB.out.val (aG it.value) aE aL bI (Nat.le_trans iP.out S1.out.only.size);obtain⟨a2,c2,rfl,_⟩:=aM aE;have SC:=Lib.hid hS;clear hS aE aL bI;have R':Vk w0 wc X F1 x.items (.slice a9 (j+1) c9) (.slice a2 (j+1) c2) (.int .i64 ((j:Int)+1)) w2:=by refine⟨j+1,by go_num,by rw[iI.out];exact hlt,?_⟩;have h1:=SC.out;rw[Fl.add_add]at h1;rw[kf _ _ HJ.out,List.take_add_one,List.take_add_one,List.getElem?_map,List.getElem?_map,HJ.out];simpa using h1
       have br:=Lib.hid R';clear R';go_wp2;refine⟨?_,by simp[intOf];omega⟩;first|exact br.out|((repeat apply Exists.intro);exact⟨br.out,rfl⟩)
      case' neg=>
       have t1:decide ((j:Int)<(nI:Int))=false:=decide_eq_false (by omega);have aT:decide (j<nI)=false:=decide_eq_false hlt;have hE:x.items.take j=x.items:=kg (by rw[iI.out];exact hj) (by rw[iI.out];exact hlt);have SN:=Lib.hid (S1.out.call T0.out.bq T0.out.only);go_wp2_with(at_builtin;refine ga _ #[.string gy] 9 rfl _ _ 96 rfl w1.heap.size eK _ _ _ rfl SN.out.dj rfl rfl ?c1 ?c2 ?c3 ?c4 ?_);case c1=>first|rfl|(intro u hu;simp at hu;subst hu;rfl)
       case c2=>unfold maxLen;omega
       case c3=>omega
       case c4=>exact SN.out.only.size
       intro v2 w2 aE aL bI;have hS:=SN.out.name gy aE aL bI iP.out;have wj:ag (fun b=>Value.ownBlock (.slice a5 n c5)=some b) wr w2:=((ag.refl _ wr).alloc _).grown aL (fun k e _=>e);have RH:X<w1.heap.size:=S1.out.x;have lh:=S1.out.only.size;have h7:w2.ownsRow (X+1) 9 1 (.slice a7 j c7) j (bo ((x.items.map (·.name)).take j)):=bu T0.out.dj (fun g hg=>wj.block g (T0.out.dj.lt g hg).2 (fun e=>by have h1:=(T0.out.dj.lt g hg).1;have h2:=(S1.out.dj.lt g e).2;omega)) (by omega)
       have h8:w2.ownsRow (X+1) 9 1 (.slice a8 j c8) j (bo ((x.items.map fun i=>aG i.value).take j)):=bu T0.out.dD (fun g hg=>wj.block g (T0.out.dD.lt g hg).2 (fun e=>by have h1:=(T0.out.dD.lt g hg).1;have h2:=(S1.out.dj.lt g e).2;omega)) (by omega);rw[show(x.items.map (·.name)).take j=x.items.map (·.name)from List.take_of_length_le (by rw[List.length_map,iI.out];omega)]at h7
       rw[show(x.items.map fun i=>aG i.value).take j=x.items.map (fun i=>aG i.value)from List.take_of_length_le (by rw[List.length_map,iI.out];omega)]at h8;have l7:(x.items.map (·.name)).length=j:=by rw[List.length_map,iI.out];omega
       have l8:(x.items.map fun i=>aG i.value).length=j:=by rw[List.length_map,iI.out];omega
       have wm:=hS.bq;rw[hE]at wm;have OB:=yd w0 w2 X _ (.slice a7 j c7) (.slice a8 j c8) (x.items.map (·.name)) (x.items.map fun i=>aG i.value) wm (by rw[l7];exact h7) (by rw[l8];exact h8) (by rw[l7,l8]) (fun p hp=>by obtain⟨it,h2,h3⟩:=List.mem_map.1 hp;rw[←h3];exact(BO.out it h2).1) (by rw[Vh];exact Nat.le_trans (Vj x) (by have:=HZ.out;unfold fQ at this;unfold lN;omega)) (by rw[l7];omega);rw[Vh,ag_ x eV.out]at OB;unfold an at OB;obtain⟨a2,c2,rfl,_⟩:=aM aE
       have SA:=Lib.hid hS;have OB:=Lib.hid OB;clear hS aE aL bI wj h7 h8 l7 l8 wm hE;go_wp2_with fail;refine OB.out.mono ?_;rintro e w3⟨T,rfl,sj,hP,hO⟩;have SB:=Lib.hid (SA.out.call hP hO);have jJ:=Lib.hid (ag9 x eV.out sj);clear sj hP hO;go_wp2_with(at_builtin;refine ga _ #[.string T] 9 rfl _ _ 96 rfl w1.heap.size eK _ _ _ rfl SB.out.dD rfl rfl ?c1 ?c2 ?c3 ?c4 ?_);case c1=>first|rfl|(intro u hu;simp at hu;subst hu;rfl)
       case c2=>unfold maxLen;omega
       case c3=>omega
       case c4=>exact SB.out.only.size
       intro v2 w2 aE aL bI;have hS:=SB.out.val T aE aL bI iP.out;obtain⟨a2,c2,rfl,_⟩:=aM aE;have SC:=Lib.hid hS;clear hS aE aL bI;go_wp2;go_meet;exact⟨n+1,[(gy,T)],by omega,.inr ⟨.inr (fun e=>by have h1:=iI.out;have h2:=Lf.out;rw[e]at h1;simp at h1;omega),T,rfl,jJ.out⟩,by simpa using SC.out⟩
  case rest=>
   clear cb eV cs ci;obtain⟨n,qs,hn,hQ,hS⟩:=hcut;have HQ:=Lib.hid hQ;obtain⟨F2,hF⟩:∃F,F1.add (fg x) (di x)=F:=⟨_,rfl⟩;obtain⟨l2,hL⟩:∃l,l1++qs=l:=⟨_,rfl⟩;rw[hF,hL]at hS;have K3:=Lib.hid hF;have Hl2:=Lib.hid hL;obtain⟨a5,c5,rfl,_⟩:=aM hS.dj;obtain⟨a6,c6,rfl,_⟩:=aM hS.dD;have S2:=Lib.hid hS;clear hS hF hL hQ;obtain⟨b,hb⟩:∃b,x.bM=b:=⟨_,rfl⟩;have cb:(wc.cell? ⟨R,5,none⟩=some (.bool b)):=by rw[←hb];exact CB.out _ S2.out.only 5
   have eV:=Lib.hid hb;clear hb;have cs:(wc.cell? ⟨R,2,none⟩=some (.string x.bw)):=CB.out _ S2.out.only 2;go_upto_if 80 with(fail);go_cut[5,6](fun s5 s6 wx=>∃n,n≤3∧Tw w0 w1 X (F2.add (x.bM&&!aN x.bw) false) s5 s6 n n ((l2++aU x.bM ee (aG x.bw)).map (·.1)) ((l2++aU x.bM ee (aG x.bw)).map (·.2)) wx)
   case first=>
    clear cb
    cases b with
    |false=>go_wp2;go_meet;exact⟨n,by omega,by rw[eV.out];simpa[aU,Fl.dO]using S2.out⟩
    |true=>
     clear cs;go_wp2_with(at_builtin;refine ga _ #[.string ee] 9 rfl _ _ 96 rfl w1.heap.size eK _ _ _ rfl S2.out.dj rfl rfl ?c1 ?c2 ?c3 ?c4 ?_);case c1=>first|rfl|(intro u hu;simp at hu;subst hu;rfl)
     case c2=>unfold maxLen;omega
     case c3=>omega
     case c4=>exact S2.out.only.size
     intro v2 w2 aE aL bI;have hS:=S2.out.name ee aE aL bI iP.out;obtain⟨a2,c2,rfl,_⟩:=aM aE;have SA:=Lib.hid hS;clear hS aE aL bI;have cs:(w2.cell? ⟨R,2,none⟩=some (.string x.bw)):=CB.out _ SA.out.only 2;have TX:=Lib.hid (SA.out.text x.bw Am.out.2.2);go_wp2_with fail;refine TX.out.mono ?_;rintro e w3⟨rfl,hS⟩;have SB:=Lib.hid hS;clear hS cs;go_wp2_with(at_builtin;refine ga _ #[.string (aG x.bw)] 9 rfl _ _ 96 rfl w1.heap.size eK _ _ _ rfl SB.out.dD rfl rfl ?c1 ?c2 ?c3 ?c4 ?_)
     case c1=>first|rfl|(intro u hu;simp at hu;subst hu;rfl)
     case c2=>unfold maxLen;omega
     case c3=>omega
     case c4=>exact SB.out.only.size
     intro v2 w2 aE aL bI;have hS:=SB.out.val (aG x.bw) aE aL bI iP.out;obtain⟨a2,c2,rfl,_⟩:=aM aE;have SC:=Lib.hid hS;clear hS aE aL bI;go_wp2;go_meet;exact⟨n+1,by omega,by rw[eV.out];simpa[aU]using SC.out⟩
   case rest=>
    clear cb eV cs;obtain⟨n,hn,hS⟩:=hcut;obtain⟨F3,hF⟩:∃F,(F2.add (x.bM&&!aN x.bw) false)=F:=⟨_,rfl⟩;obtain⟨l3,hL⟩:∃l,l2++aU x.bM ee (aG x.bw)=l:=⟨_,rfl⟩;rw[hF,hL]at hS;have tj:=Lib.hid hF;have Hl3:=Lib.hid hL;obtain⟨a5,c5,rfl,_⟩:=aM hS.dj;obtain⟨a6,c6,rfl,_⟩:=aM hS.dD;have S3:=Lib.hid hS;clear hS hF hL;obtain⟨b,hb⟩:∃b,x.cU=b:=⟨_,rfl⟩;have cb:(wc.cell? ⟨R,7,none⟩=some (.bool b)):=by rw[←hb];exact CB.out _ S3.out.only 7
    have eV:=Lib.hid hb;clear hb;go_upto_if 92 with(fail);go_cut[5,6](fun s5 s6 wx=>∃n,n≤4∧Tw w0 w1 X F3 s5 s6 n n ((l3++aU x.cU fY kc).map (·.1)) ((l3++aU x.cU fY kc).map (·.2)) wx)
    case first=>
     clear cb
     cases b with
     |false=>go_wp2;go_meet;exact⟨n,by omega,by rw[eV.out];simpa[aU,Fl.dO]using S3.out⟩
     |true=>
      go_wp2_with(at_builtin;refine ga _ #[.string fY] 9 rfl _ _ 96 rfl w1.heap.size eK _ _ _ rfl S3.out.dj rfl rfl ?c1 ?c2 ?c3 ?c4 ?_);case c1=>first|rfl|(intro u hu;simp at hu;subst hu;rfl)
      case c2=>unfold maxLen;omega
      case c3=>omega
      case c4=>exact S3.out.only.size
      intro v2 w2 aE aL bI;have hS:=S3.out.name fY aE aL bI iP.out;obtain⟨a2,c2,rfl,_⟩:=aM aE;have SA:=Lib.hid hS;clear hS aE aL bI;go_wp2_with(at_builtin;refine ga _ #[.string kc] 9 rfl _ _ 96 rfl w1.heap.size eK _ _ _ rfl SA.out.dD rfl rfl ?c1 ?c2 ?c3 ?c4 ?_);case c1=>first|rfl|(intro u hu;simp at hu;subst hu;rfl)
      case c2=>unfold maxLen;omega
      case c3=>omega
      case c4=>exact SA.out.only.size
      intro v2 w2 aE aL bI;have hS:=SA.out.val kc aE aL bI iP.out;obtain⟨a2,c2,rfl,_⟩:=aM aE;have SC:=Lib.hid hS;clear hS aE aL bI;go_wp2;go_meet;exact⟨n+1,by omega,by rw[eV.out];simpa[aU]using SC.out⟩
    case rest=>
     clear cb eV;obtain⟨n,hn,hS⟩:=hcut;obtain⟨F4,hF⟩:∃F,F3=F:=⟨_,rfl⟩;obtain⟨l4,hL⟩:∃l,l3++aU x.cU fY kc=l:=⟨_,rfl⟩;rw[hF,hL]at hS;have kT:=Lib.hid hF;have Hl4:=Lib.hid hL;obtain⟨a5,c5,rfl,_⟩:=aM hS.dj;obtain⟨a6,c6,rfl,_⟩:=aM hS.dD;have S4:=Lib.hid hS;clear hS hF hL;obtain⟨b,hb⟩:∃b,x.fold=b:=⟨_,rfl⟩;have cb:(wc.cell? ⟨R,8,none⟩=some (.bool b)):=by rw[←hb];exact CB.out _ S4.out.only 8
     have eV:=Lib.hid hb;clear hb;go_upto_if 100 with(fail);go_cut[5,6](fun s5 s6 wx=>∃n,n≤5∧Tw w0 w1 X F4 s5 s6 n n ((l4++aU x.fold ew eo).map (·.1)) ((l4++aU x.fold ew eo).map (·.2)) wx)
     case first=>
      clear cb
      cases b with
      |false=>go_wp2;go_meet;exact⟨n,by omega,by rw[eV.out];simpa[aU,Fl.dO]using S4.out⟩
      |true=>
       go_wp2_with(at_builtin;refine ga _ #[.string ew] 9 rfl _ _ 96 rfl w1.heap.size eK _ _ _ rfl S4.out.dj rfl rfl ?c1 ?c2 ?c3 ?c4 ?_);case c1=>first|rfl|(intro u hu;simp at hu;subst hu;rfl)
       case c2=>unfold maxLen;omega
       case c3=>omega
       case c4=>exact S4.out.only.size
       intro v2 w2 aE aL bI;have hS:=S4.out.name ew aE aL bI iP.out;obtain⟨a2,c2,rfl,_⟩:=aM aE;have SA:=Lib.hid hS;clear hS aE aL bI;go_wp2_with(at_builtin;refine ga _ #[.string eo] 9 rfl _ _ 96 rfl w1.heap.size eK _ _ _ rfl SA.out.dD rfl rfl ?c1 ?c2 ?c3 ?c4 ?_);case c1=>first|rfl|(intro u hu;simp at hu;subst hu;rfl)
       case c2=>unfold maxLen;omega
       case c3=>omega
       case c4=>exact SA.out.only.size
       intro v2 w2 aE aL bI;have hS:=SA.out.val eo aE aL bI iP.out;obtain⟨a2,c2,rfl,_⟩:=aM aE;have SC:=Lib.hid hS;clear hS aE aL bI;go_wp2;go_meet;exact⟨n+1,by omega,by rw[eV.out];simpa[aU]using SC.out⟩
     case rest=>
      clear cb eV;obtain⟨n,hn,hS⟩:=hcut;obtain⟨F5,hF⟩:∃F,F4=F:=⟨_,rfl⟩;obtain⟨l5,hL⟩:∃l,l4++aU x.fold ew eo=l:=⟨_,rfl⟩;rw[hF,hL]at hS;have kV:=Lib.hid hF;have Hl5:=Lib.hid hL;obtain⟨a5,c5,rfl,_⟩:=aM hS.dj;obtain⟨a6,c6,rfl,_⟩:=aM hS.dD;have S5:=Lib.hid hS;clear hS hF hL;obtain⟨b,hb⟩:∃b,x.dG=b:=⟨_,rfl⟩;have cb:(wc.cell? ⟨R,9,none⟩=some (.bool b)):=by rw[←hb];exact CB.out _ S5.out.only 9
      have eV:=Lib.hid hb;clear hb;go_upto_if 108 with(fail);go_cut[5,6](fun s5 s6 wx=>∃n,n≤6∧Tw w0 w1 X F5 s5 s6 n n ((l5++aU x.dG fe eo).map (·.1)) ((l5++aU x.dG fe eo).map (·.2)) wx)
      case first=>
       clear cb
       cases b with
       |false=>go_wp2;go_meet;exact⟨n,by omega,by rw[eV.out];simpa[aU,Fl.dO]using S5.out⟩
       |true=>
        go_wp2_with(at_builtin;refine ga _ #[.string fe] 9 rfl _ _ 96 rfl w1.heap.size eK _ _ _ rfl S5.out.dj rfl rfl ?c1 ?c2 ?c3 ?c4 ?_);case c1=>first|rfl|(intro u hu;simp at hu;subst hu;rfl)
        case c2=>unfold maxLen;omega
        case c3=>omega
        case c4=>exact S5.out.only.size
        intro v2 w2 aE aL bI;have hS:=S5.out.name fe aE aL bI iP.out;obtain⟨a2,c2,rfl,_⟩:=aM aE;have SA:=Lib.hid hS;clear hS aE aL bI;go_wp2_with(at_builtin;refine ga _ #[.string eo] 9 rfl _ _ 96 rfl w1.heap.size eK _ _ _ rfl SA.out.dD rfl rfl ?c1 ?c2 ?c3 ?c4 ?_);case c1=>first|rfl|(intro u hu;simp at hu;subst hu;rfl)
        case c2=>unfold maxLen;omega
        case c3=>omega
        case c4=>exact SA.out.only.size
        intro v2 w2 aE aL bI;have hS:=SA.out.val eo aE aL bI iP.out;obtain⟨a2,c2,rfl,_⟩:=aM aE;have SC:=Lib.hid hS;clear hS aE aL bI;go_wp2;go_meet;exact⟨n+1,by omega,by rw[eV.out];simpa[aU]using SC.out⟩
      case rest=>
       clear cb eV;obtain⟨n,hn,hS⟩:=hcut;obtain⟨F6,hF⟩:∃F,F5=F:=⟨_,rfl⟩;obtain⟨l6,hL⟩:∃l,l5++aU x.dG fe eo=l:=⟨_,rfl⟩;rw[hF,hL]at hS;have pF:=Lib.hid hF;have Hl6:=Lib.hid hL;obtain⟨a5,c5,rfl,_⟩:=aM hS.dj;obtain⟨a6,c6,rfl,_⟩:=aM hS.dD;have S6:=Lib.hid hS;clear hS hF hL;have hL:l6=Ft x qs:=by rw[←Hl6.out,←Hl5.out,←Hl4.out,←Hl3.out,←Hl2.out,←Hl1.out,←Hl0.out];rfl
       have RF:=ag8 x HQ.out;rw[←hL]at RF;have pb:F6=f.add (gD x) (di x):=by rw[←pF.out,←kV.out,←kT.out,←tj.out,←K3.out,←K0.out,Fl.add_add,Fl.add_add,show gD x=((x.bM&&!aN x.bw||x.bz&&!aN x.path)||fg x)from rfl];unfold Fl.add;simp only[Bool.or_false,Bool.false_or];cases x.bM<;>cases x.bz<;>cases aN x.bw<;>cases aN x.path<;>cases fg x<;>simp
       have OB:=S6.out.obj rfl (fun p hp=>by obtain⟨q,h1,h2⟩:=List.mem_map.1 hp;rw[←h2];exact RF.keys q h1) (by rw[BV];exact Nat.le_trans RF.size HZ.out) (by omega);rw[BV,RF.bad,RF.dup,Fl.dO,pb]at OB;have OB:=Lib.hid OB;have RF:=Lib.hid RF;clear hL pb;go_wp2_with fail;refine OB.out.mono ?_;rintro e w3⟨T,rfl,hT,hP,hO⟩
       have HT:=Lib.hid (show Tx (fQ x) (!gD x&&!di x) (px x) T from⟨Nat.le_trans hT.size RF.out.size,fun ho=>by rw[hT.eq rfl];rw[Bool.and_eq_true]at ho;exact RF.out.eq (by simpa using ho.1) (by simpa using ho.2)⟩);have HP:=Lib.hid hP;have HO:=Lib.hid ((ag.of (T:=fun b=>b=X) aQ.out).trans hO);clear hT hP hO;go_wp2;go_ret;exact⟨_,rfl,HT.out,HP.out,HO.out⟩
end Go.Proofs.YtcaiibkgajhohaaGreatDoor
