/- waybill: lemmas and walks, printed from longer texts. -/
import Derived.Test.YtcaiibkgajhohaaGreatDoorM40
set_option maxRecDepth 100000
set_option maxHeartbeats 16000000
namespace Go.Proofs.YtcaiibkgajhohaaGreatDoor
open Go.RowKit
def sk(X:Nat)(w:World)(v:Value)(l:List aZ):Prop:=∃a c,v=.slice a l.length c∧∀(j:Nat)x,l[j]?=some x→∃b o vI,a=some ⟨b,o,none⟩∧b≠X∧b<w.heap.size∧(∀i,i<10→w.cell? ⟨b,o+j*10+i,none⟩=(aX x vI)[i]?)∧qS X w vI x.items
def sm(X:Nat)(w:World)(v:Value)(l:List aS):Prop:=∃a c,v=.slice a l.length c∧∀(j:Nat)x,l[j]?=some x→∃b o,a=some ⟨b,o,none⟩∧b≠X∧b<w.heap.size∧w.cell? ⟨b,o+j*2,none⟩=some (.string x.bZ)∧w.cell? ⟨b,o+j*2+1,none⟩=some (.string x.b7)
theorem sk.turn{X:Nat}{w w':World}{v:Value}{l:List aZ}(h:sk X w v l)(ho:ag (fun b=>b=X) w w'):sk X w' v l:=by obtain⟨a,c,hv,h⟩:=h;refine⟨a,c,hv,fun j x hx=>?_⟩;obtain⟨b,o,vI,ha,hn,hl,h0,h1⟩:=h j x hx;exact⟨b,o,vI,ha,hn,Nat.lt_of_lt_of_le hl ho.size,fun i hi=>by rw[←h0 i hi];unfold World.cell?;rw[ho.block b hl hn],h1.turn ho⟩
theorem sm.turn{X:Nat}{w w':World}{v:Value}{l:List aS}(h:sm X w v l)(ho:ag (fun b=>b=X) w w'):sm X w' v l:=by obtain⟨a,c,hv,h⟩:=h;refine⟨a,c,hv,fun j x hx=>?_⟩;obtain⟨b,o,ha,hn,hl,h0,h1⟩:=h j x hx;(have e:∀q,w'.cell? ⟨b,q,none⟩=w.cell? ⟨b,q,none⟩:=fun q=>by unfold World.cell?;rw[ho.block b hl hn]);exact⟨b,o,ha,hn,Nat.lt_of_lt_of_le hl ho.size,(e _).trans h0,(e _).trans h1⟩
theorem sk.cell{X:Nat}{w:World}{a:Option Addr}{n c:Nat}{l:List aZ}(h:sk X w (.slice a n c) l):∀(j:Nat)x,l[j]?=some x→∃b o vI,a=some ⟨b,o,none⟩∧b≠X∧b<w.heap.size∧(∀i,i<10→w.cell? ⟨b,o+j*10+i,none⟩=(aX x vI)[i]?)∧qS X w vI x.items:=by obtain⟨a',c',h1,h2⟩:=h;cases h1;exact h2
theorem sm.cell{X:Nat}{w:World}{a:Option Addr}{n c:Nat}{l:List aS}(h:sm X w (.slice a n c) l):∀(j:Nat)x,l[j]?=some x→∃b o,a=some ⟨b,o,none⟩∧b≠X∧b<w.heap.size∧w.cell? ⟨b,o+j*2,none⟩=some (.string x.bZ)∧w.cell? ⟨b,o+j*2+1,none⟩=some (.string x.b7):=by obtain⟨a',c',h1,h2⟩:=h;cases h1;exact h2
theorem Vt{X B:Nat}{w:World}{v:Value}{l:List ByteArray}(h:w.ownsRow B 9 1 v l.length (bo l))(hX:X<B):ou X w v l:=by
 obtain⟨ao,cap,rfl,ha⟩:=aM h;refine⟨ao,cap,rfl,fun j x hx=>?_⟩;have hj:=(List.getElem?_eq_some_iff.1 hx).1;rcases ha with⟨h0,_⟩|⟨g,rfl,h1,h2⟩
 ·omega
 ·refine⟨g,0,rfl,by omega,h2,?_⟩;rw[Nat.zero_add,World.ownsRow.cellAt h j (by omega)];simp[bo,hx]
def yk(T1 T2:ByteArray):List KV:=[(iC,T1),(iR,T2)]
theorem ahr:aN iC=true∧aN iR=true:=⟨by kernel_rfl,by kernel_rfl⟩
theorem Vu:db [iC,iR]=false:=by decide+kernel
structure ahs(d:dr)(l:List KV):Prop where
 bad:cH (l.map (·.1))=false
 dup:db (l.map (·.1))=false
 size:cj l≤fw d
 keys:∀p∈l,p.1.size≤1048576
 eq:gV d=false→jr d=false→dW l=qO d
theorem aht{α:Type}{p q:α→Bool}{l:List α}(h:l.any p=false)(k:l.any q=false):l.any (fun x=>!(!p x&&!q x))=false:=by rw[List.any_eq_false]at*;intro x hx;have h1:=h x hx;have h2:=k x hx;simp at h1 h2;simp[h1,h2]
theorem Vv(d:dr){T1 T2:ByteArray}(h1:Tx (((d.apps.map cw).map fun s=>aJ s+1).sum+2) (!((d.apps.map cw).any fun s=>!aN s)) (cC ((d.apps.map cw).map aG)) T1)(h2:Tx ((d.rules.map fun x=>fQ x+1).sum+2) (!(d.rules.any fun x=>!(!gD x&&!di x))) (cC (d.rules.map px)) T2):ahs d (yk T1 T2):=by
 obtain⟨o1,o2⟩:=ahr;refine⟨by simp[yk,cH,o1,o2],Vu,?_,?_,?_⟩
 ·have a1:=h1.size;have a2:=h2.size;have b1:aJ iC=38:=rfl;have b2:aJ iR=62:=rfl;rw[List.map_map]at a1;have e:((d.apps.map ((fun s=>aJ s+1)∘cw)).sum)=(d.apps.map fun a=>aJ (cw a)+1).sum:=rfl;rw[e]at a1;unfold cj yk fw;simp only[List.map_cons,List.map_nil,List.sum_cons,List.sum_nil];omega
 ·intro p hp;simp only[yk,List.mem_cons,List.not_mem_nil,or_false]at hp;rcases hp with rfl|rfl
  ·exact(by decide:iC.size≤1048576)
  ·exact(by decide:iR.size≤1048576)
 ·intro hb hd;unfold gV at hb;rw[Bool.or_eq_false_iff]at hb;unfold jr at hd;have e1:T1=cC ((d.apps.map cw).map aG):=h1.eq (by rw[List.any_map];have:=hb.1;simpa using this);have e2:T2=cC (d.rules.map px):=h2.eq (by rw[aht hb.2 hd];rfl);unfold qO TR yk;rw[e1,e2,List.map_map];rfl
def Vw(W1:World)(apps:List aS)(v k:Value)(wr:World):Prop:=∃j:Nat,k=.int .i64 j∧j≤apps.length∧Below W1.heap.size W1 wr∧wr.ownsRow W1.heap.size 9 1 v j (bo ((apps.map cw).take j))
def Vx(w0 W2:World)(X:Nat)(f:Fl)(rules:List aZ)(v k:Value)(wr:World):Prop:=∃(j:Nat)(ts:List ByteArray),k=.int .i64 j∧j≤rules.length∧cJ w0 wr X (f.add ((rules.take j).any gD) ((rules.take j).any di))∧ag (fun b=>b=X) W2 wr∧wr.ownsRow W2.heap.size 9 1 v j (bo ts)∧eM fQ (fun x=>!gD x&&!di x) px (rules.take j) ts
theorem ahu(w0 w:World)(X:Nat)(f:Fl)(d:dr)(va vr:Value)(h:cJ w0 w X f)(he:gI w0)(hA:sm X w va d.apps)(hR:sk X w vr d.rules)(hs:∀a∈d.apps,(cw a).size≤1048576)(fy:∀x∈d.rules,(x.path.size≤1048576∧x.query.size≤1048576∧x.bw.size≤1048576)∧(∀i∈x.items,i.name.size≤1048576∧i.value.size≤1048576)∧x.items.length≤1100000)(hz:fw d≤100000000000000)(um:d.apps.length≤1100000)(Dl:d.rules.length≤1100000):Calls Tryz.prog 38 #[an X,.agg #[va,vr]] w (Bp w0 w X f (gV d) (jr d) (fw d) (!gV d&&!jr d) (qO d)):=by
 have HA:=Lib.hid hA;have tP:=Lib.hid hR;obtain⟨aA,cA,rfl,_⟩:=hA;obtain⟨aR,cR,rfl,_⟩:=hR;obtain⟨na,i_⟩:∃n,d.apps.length=n:=⟨_,rfl⟩;obtain⟨nr,ow⟩:∃n,d.rules.length=n:=⟨_,rfl⟩;have jR:=Lib.hid i_;have lR:=Lib.hid ow;rw[i_]at um HA⊢;rw[ow]at Dl tP⊢;have H:=Lib.hid h;have HE:=Lib.hid he;have HZ:=Lib.hid hz;have HS:=Lib.hid hs;have B0:=Lib.hid fy;have X1:=heap_alloc_new w (.cells #[.slice aA na cA,.slice aR nr cR] 35)
 have B1:=aj (Below.refl _ w) (.cells #[.slice aA na cA,.slice aR nr cR] 35);obtain⟨W1,aH⟩:∃W,w.alloc (.cells #[.slice aA na cA,.slice aR nr cR] 35)=W:=⟨_,rfl⟩;rw[aH]at X1 B1;obtain⟨D,hD⟩:∃D,w.heap.size=D:=⟨_,rfl⟩;have hDX:D≠X:=by have:=h.lt;omega
 rw[hD]at X1;have mc:=Lib.hid aH;have HDD:=Lib.hid hD;have cq:=Lib.hid X1;have aQ:=Lib.hid B1;have P1:=Lib.hid (h.ext B1);clear h he hz hs fy X1 B1 aH hD i_ ow;unfold an;go_enter Tryz.func38,Tryz.ntmps38;go_upto_region 2 with(fail);rw[mc.out,HDD.out];have c0:=Lib.cell_of_heap cq.out 0;go_wp2_with fail;go_loopw[5,14](Vw W1 d.apps)(fun _ i _=>na-(intOf i).toNat);case atStart=>exact⟨0,rfl,Nat.zero_le _,Below.refl _ _,World.ownsRow_nil _ _ _ _⟩
 case' round=>
  obtain⟨j,rfl,hj,hb,az⟩:=hrel;rw[jR.out]at hj;obtain⟨ax,cx,rfl,_⟩:=aM az;have HB:=Lib.hid hb;have HW:=Lib.hid az;clear hb az c0;by_cases hlt:j<na
  case pos=>
   have t1:decide ((j:Int)<(na:Int))=true:=decide_eq_true (by omega);have aT:decide (j<na)=true:=decide_eq_true hlt;have q1:IntKind.i64.wrap ((j:Int)+1)=(j:Int)+1:=IntWalk.i64_in _ (by omega);obtain⟨ap,iJ⟩:=bN d.apps j (by rw[jR.out];exact hlt);obtain⟨b,o,rfl,_,_,d0,d1⟩:=(HA.out.turn ((ag.of aQ.out).trans (ag.of HB.out))).cell j ap iJ;have HJ:=Lib.hid iJ;have hsz:=HS.out ap (List.mem_of_getElem? iJ)
   have AL:ap.bZ.size+1+ap.b7.size≤1048576:=by unfold cw at hsz;rw[ByteArray.size_append,ByteArray.size_append]at hsz;exact hsz
   obtain⟨W4,dR⟩:∃W,wr.alloc (.cells #[.string ap.bZ,.string ap.b7] 37)=W:=⟨_,rfl⟩;have E4:=aj (Below.refl _ wr) (.cells #[.string ap.bZ,.string ap.b7] 37);rw[dR]at E4;have AT:=Lib.hid (aba ap.bZ ap.b7 W4 (by omega) (by omega));have lP:=Lib.hid E4;have mC:=Lib.hid dR;obtain⟨T,hT⟩:∃T,ap.bZ++⟨#[46]⟩++ap.b7=T:=⟨_,rfl⟩;rw[hT]at AT;have HT:=Lib.hid (show cw ap=T from hT);clear iJ hsz AL E4 dR hT;go_wp2_with fail;rw[mC.out];refine AT.out.mono ?_;rintro e w5⟨rfl,bg⟩
   have B5:=Lib.hid (HB.out.trans ((aF lP.out bg).mono HB.out.size));have iK:=Lib.hid (show w5.ownsRow W1.heap.size 9 1 (.slice ax j cx) j (bo ((d.apps.map cw).take j))from bu HW.out (fun g hg=>(aF lP.out bg).block g (HW.out.lt g hg).2) (Nat.le_refl _));clear bg d0 d1;go_wp2_with(at_builtin;refine iY w5 #[.string T] 9 rfl _ _ 96 rfl W1.heap.size eK _ _ _ rfl iK.out rfl rfl ?c1 ?c2 ?c3 ?c4 ?_);case c1=>first|rfl|(intro u hu;simp at hu;subst hu;rfl)
   case c2=>unfold maxLen;omega
   case c3=>omega
   case c4=>exact B5.out.size
   intro v2 w6 dz jQ;have cG:Below W1.heap.size W1 w6:=(aj B5.out _).grown jQ (aj B5.out _).size (fun k hk=>(iK.out.lt k hk).1);have R:Vw W1 d.apps v2 (.int .i64 ((j:Int)+1)) w6:=by refine⟨j+1,by go_num,by rw[jR.out];exact hlt,cG,?_⟩;(have e2:bo ((d.apps.map cw).take (j+1))=bo ((d.apps.map cw).take j)++(#[Value.string T]:Array Value).toList:=by rw[List.take_add_one,List.getElem?_map,HJ.out];simp[bo,HT.out]);rw[e2];exact dz
   obtain⟨a2,c2,rfl,_⟩:=aM dz;have br:=Lib.hid R;clear R dz jQ cG;go_wp2;refine⟨?_,by simp[intOf];omega⟩;first|exact br.out|((repeat apply Exists.intro);exact⟨br.out,rfl⟩)
  case' neg=>
   have t1:decide ((j:Int)<(na:Int))=false:=decide_eq_false (by omega);have aT:decide (j<na)=false:=decide_eq_false hlt;have hE:(d.apps.map cw).take j=d.apps.map cw:=kg (by rw[List.length_map,jR.out];exact hj) (by rw[List.length_map,jR.out];exact hlt);have hW:=HW.out;rw[hE]at hW;have kh:j=na:=by omega
   have A2:=Lib.hid hW;have HJN:=Lib.hid kh;have c1:=(aK HB.out (ak cq.out) 1).trans (Lib.cell_of_heap cq.out 1);have P2:=Lib.hid (P1.out.ext HB.out);have O2:=Lib.hid (show ag (fun b=>b=X) w wr from(ag.of aQ.out).trans (ag.of HB.out));clear hW hE kh HW hlt hj;go_wp2_with fail;generalize dq:wr=W2 at*
 clear dq;have kU:=Lib.hid (show(d.apps.map cw).length=j by rw[List.length_map,jR.out];exact HJN.out.symm);go_loopw[6,27](Vx w0 W2 X f d.rules)(fun _ i _=>nr-(intOf i).toNat);case atStart=>exact⟨0,[],rfl,Nat.zero_le _,by simpa[Fl.dO]using P2.out,ag.refl _ _,by simpa[bo]using World.ownsRow_nil W2 W2.heap.size 9 1,eM.nil⟩
 case round=>
  obtain⟨m,ts,rfl,hm,hp,ho,az,dy⟩:=hrel;rw[lR.out]at hm;obtain⟨ay,cy,rfl,_⟩:=aM az;have HP:=Lib.hid hp;have HO:=Lib.hid ho;have HW:=Lib.hid az;have HT:=Lib.hid dy;clear hp ho az dy c1;have yb:X<W2.heap.size:=P2.out.lt;by_cases hlt:m<nr
  ·have t2:decide ((m:Int)<(nr:Int))=true:=decide_eq_true (by omega);have dM:decide (m<nr)=true:=decide_eq_true hlt;have q1:IntKind.i64.wrap ((m:Int)+1)=(m:Int)+1:=IntWalk.i64_in _ (by omega);obtain⟨x,hx⟩:=bN d.rules m (by rw[lR.out];exact hlt);obtain⟨b,o,vI,rfl,_,_,hcs,qX⟩:=((tP.out.turn O2.out).turn HO.out).cell m x hx;obtain⟨aI,cI,rfl,_⟩:=id qX;have f0:wr.cell? ⟨b,o+m*10,none⟩=some (.string x.path):=hcs 0 (by decide)
   have f1:wr.cell? ⟨b,o+m*10+1,none⟩=some (.string x.query):=hcs 1 (by decide);have f2:wr.cell? ⟨b,o+m*10+2,none⟩=some (.string x.bw):=hcs 2 (by decide);have f3:wr.cell? ⟨b,o+m*10+3,none⟩=some (.bool x.bz):=hcs 3 (by decide);have f4:wr.cell? ⟨b,o+m*10+4,none⟩=some (.bool x.cS):=hcs 4 (by decide);have f5:wr.cell? ⟨b,o+m*10+5,none⟩=some (.bool x.bM):=hcs 5 (by decide)
   have f6:wr.cell? ⟨b,o+m*10+6,none⟩=some (.slice aI x.items.length cI):=hcs 6 (by decide);have f7:wr.cell? ⟨b,o+m*10+7,none⟩=some (.bool x.cU):=hcs 7 (by decide);have f8:wr.cell? ⟨b,o+m*10+8,none⟩=some (.bool x.fold):=hcs 8 (by decide);have f9:wr.cell? ⟨b,o+m*10+9,none⟩=some (.bool x.dG):=hcs 9 (by decide);have HJ:=Lib.hid hx;have wu:=List.mem_of_getElem? hx;have fy:=B0.out x wu
   have B8:fQ x≤100000000000000:=by have h1:fQ x+1≤(d.rules.map fun x=>fQ x+1).sum:=vX (f:=fun x=>fQ x+1) wu;have h2:=HZ.out;unfold fw at h2;omega
   have E4:=aj (Below.refl _ wr) (.cells (aX x (.slice aI x.items.length cI)) 40);obtain⟨W4,dR⟩:∃W,wr.alloc (.cells (aX x (.slice aI x.items.length cI)) 40)=W:=⟨_,rfl⟩;rw[dR]at E4;have RU:=ag0 w0 W4 X _ x (.slice aI x.items.length cI) (HP.out.ext E4) HE.out (qX.turn (ag.of E4)) fy.1 fy.2.1 B8 fy.2.2;unfold an at RU;simp only[aX]at RU;have RU:=Lib.hid RU;have lP:=Lib.hid E4
   have mC:=Lib.hid (show wr.alloc (.cells #[.string x.path,.string x.query,.string x.bw,.bool x.bz,.bool x.cS,.bool x.bM,.slice aI x.items.length cI,.bool x.cU,.bool x.fold,.bool x.dG] 40)=W4 from dR);clear hx hcs qX wu fy B8 E4 dR;go_wp2_with fail;rw[mC.out];refine RU.out.mono ?_;intro e w5 sg;obtain⟨T,rfl,hT,uo,uq⟩:=sg;have pA:=Lib.hid hT;have vC:=Lib.hid uo;have mF:=Lib.hid ((ag.of (T:=fun b=>b=X) lP.out).trans uq)
   have iK:=Lib.hid (show w5.ownsRow W2.heap.size 9 1 (.slice ay m cy) m (bo ts)from bu HW.out (fun g hg=>mF.out.block g (HW.out.lt g hg).2 (fun e=>by have:=(HW.out.lt g hg).1;omega)) (Nat.le_refl _));clear hT uo uq f0 f1 f2 f3 f4 f5 f6 f7 f8 f9;go_wp2_with(at_builtin;refine iY w5 #[.string T] 9 rfl _ _ 96 rfl W2.heap.size eK _ _ _ rfl iK.out rfl rfl ?c1 ?c2 ?c3 ?c4 ?_);case c1=>first|rfl|(intro u hu;simp at hu;subst hu;rfl)
   case c2=>unfold maxLen;omega
   case c3=>omega
   case c4=>exact Nat.le_trans HO.out.size mF.out.size
   intro v2 w6 dz jQ;have uu:ag (fun b=>b=X) W2 w6:=(((HO.out.trans mF.out).alloc _).grown jQ (fun k hk bP=>by have:=(iK.out.lt k hk).1;omega))
   have pH:=(vC.out.ext (aj (Below.refl _ w5) (.cells #[.string T] 9))).turn (T:=fun b=>Value.ownBlock (.slice ay m cy)=some b) ((ag.refl (fun b=>Value.ownBlock (.slice ay m cy)=some b) (w5.alloc (.cells #[.string T] 9))).grown jQ (fun k hk _=>hk)) (fun k hk=>by have h1:=(iK.out.lt k hk).1;have h2:=P2.out.below.size;exact⟨by omega,by omega⟩)
   have R:Vx w0 W2 X f d.rules v2 (.int .i64 ((m:Int)+1)) w6:=by
    refine⟨m+1,ts++[T],by go_num,by rw[lR.out];exact hlt,?_,uu,?_,HT.out.snoc HJ.out pA.out⟩
    ·rw[kf _ _ HJ.out,kf _ _ HJ.out];rw[Fl.add_add]at pH;exact pH
    ·have e2:bo (ts++[T])=bo ts++(#[Value.string T]:Array Value).toList:=by simp[bo]
     rw[e2];exact dz
   obtain⟨a2,c2,rfl,_⟩:=aM dz;have br:=Lib.hid R;clear R dz jQ uu pH;go_wp2;refine⟨?_,by simp[intOf];omega⟩;first|exact br.out|((repeat apply Exists.intro);exact⟨br.out,rfl⟩)
  ·have t2:decide ((m:Int)<(nr:Int))=false:=decide_eq_false (by omega);have dM:decide (m<nr)=false:=decide_eq_false hlt;have hE:d.rules.take m=d.rules:=kg (by rw[lR.out];exact hm) (by rw[lR.out];exact hlt);have hT:=HT.out;have hP:=HP.out;rw[hE]at hT hP;have hlen:ts.length=m:=by rw[hT.len,lR.out];omega
   have B9:=A2.out;rw[←kU.out]at B9;have hX1:X<W1.heap.size:=P1.out.lt;have zw:=bu (base':=W1.heap.size) B9 (fun g hg=>HO.out.block g (B9.lt g hg).2 (fun e=>by have:=(B9.lt g hg).1;omega)) (Nat.le_refl _);have lh:=HZ.out;unfold fw at lh
   have TS:=Ui w0 wr X _ (.slice ax j cx) (d.apps.map cw) hP HE.out (by have:=Vt zw hX1;rw[kU.out]at this;exact this) (fun s hs=>by obtain⟨a,h1,rfl⟩:=List.mem_map.1 hs;exact HS.out a h1) (by rw[List.map_map];have e:((d.apps.map ((fun s=>aJ s+1)∘cw)).sum)=(d.apps.map fun a=>aJ (cw a)+1).sum:=rfl;rw[e];omega) (by rw[List.length_map,jR.out];exact um);unfold an at TS;have TL:=Lib.hid hT.list;have hW:=HW.out;rw[←hlen]at hW
   have AR:=Lib.hid (fun W(dq:ag (fun b=>b=X) wr W)=>KG W W2.heap.size (.slice ay ts.length cy) ts (bu hW (fun g hg=>dq.block g (hW.lt g hg).2 (fun e=>by have:=(hW.lt g hg).1;omega)) (Nat.le_refl _)) (by omega) (Nat.le_trans TL.out.size (by omega)));rw[hlen]at AR;have TS:=Lib.hid TS;clear hE hT hP hlen B9 zw lh hW;go_wp2_with fail;refine TS.out.mono ?_;intro e w7 Ep;obtain⟨T1,rfl,kB,Vy,Vz⟩:=Ep;have ia:=Lib.hid kB;have HP7:=Lib.hid Vy;have VB:=Lib.hid Vz;clear kB Vy Vz;go_wp2_with fail
   refine(AR.out w7 VB.out).mono ?_;rintro e w8⟨rfl,oW⟩;have DF:=Lib.hid (Vv d ia.out TL.out);obtain⟨T2,B_⟩:∃T,cC ts=T:=⟨_,rfl⟩;rw[B_]at DF⊢;have Ln:=HP7.out.ext oW;have Lo:ag (fun b=>b=X) w w8:=((O2.out.trans HO.out).trans VB.out).trans (ag.of oW);have E9:=aj (Below.refl _ w8) (.cells #[.string iC,.string T1,.string iR,.string T2] 100)
   have OB:=ya w0 (w8.alloc (.cells #[.string iC,.string T1,.string iR,.string T2] 100)) X _ (.slice (some ⟨w8.heap.size,0,none⟩) 2 2) (yk T1 T2) w8.heap.size (Ln.ext E9) HE.out (World.ownsRow_lit (base:=w8.heap.size) (e:=100) (size:=2) w8 #[.string iC,.string T1,.string iR,.string T2] 2 (Nat.le_refl _) (by decide) rfl) Ln.lt DF.out.keys (Nat.le_trans DF.out.size HZ.out) (show 2≤1100000 by decide);rw[DF.out.bad,DF.out.dup,Fl.dO,Fl.add_add,Bool.or_false]at OB;unfold an at OB;have OB:=Lib.hid OB
   have pw:=Lib.hid (Lo.trans (ag.of E9));have HZ8:=Lib.hid Lo.size;clear B_ Ln Lo E9 oW;go_wp2_with fail;refine OB.out.mono ?_;intro e wz bA;obtain⟨T,rfl,hT,hP,hO⟩:=bA;have Lp:=Lib.hid (show Tx (fw d) (!gV d&&!jr d) (qO d) T from⟨Nat.le_trans hT.size DF.out.size,fun ho=>by rw[hT.eq rfl];rw[Bool.and_eq_true]at ho;exact DF.out.eq (by simpa using ho.1) (by simpa using ho.2)⟩)
   have yh:=Lib.hid (show cJ w0 wz X (f.add (gV d) (jr d))by(have e1:(d.rules.any gD||(d.apps.map cw).any fun s=>!aN s)=gV d:=by unfold gV;rw[Bool.or_comm,List.any_map];rfl);rw[←e1];exact hP)
   have yi:=Lib.hid (show ag (fun b=>b=X) w wz from⟨hO.os.trans pw.out.os,hO.tape.trans pw.out.tape,hO.output.trans pw.out.output,Nat.le_trans pw.out.size hO.size,fun k hk hn=>(hO.block k (Nat.lt_of_lt_of_le hk pw.out.size) (fun hh=>by
    rcases hh with h|h
    ·exact hn h
    ·have h2:some w8.heap.size=some k:=h;cases h2;exact absurd hk (Nat.not_lt.2 HZ8.out))).trans (pw.out.block k hk hn)⟩)
   clear hT hP hO;go_wp2;go_ret;exact⟨_,rfl,Lp.out,yh.out,yi.out⟩
end Go.Proofs.YtcaiibkgajhohaaGreatDoor
