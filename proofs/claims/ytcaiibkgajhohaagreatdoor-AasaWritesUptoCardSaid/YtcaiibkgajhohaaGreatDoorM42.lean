/- waybill: lemmas and walks, printed from longer texts. -/
import Derived.Test.YtcaiibkgajhohaaGreatDoorM41
set_option maxRecDepth 100000
set_option maxHeartbeats 16000000
namespace Go.Proofs.YtcaiibkgajhohaaGreatDoor
open Go.RowKit
def qY(X:Nat)(w:World)(v:Value)(l:List dr):Prop:=∃a c,v=.slice a l.length c∧∀(j:Nat)x,l[j]?=some x→∃b o ua ur,a=some ⟨b,o,none⟩∧b≠X∧b<w.heap.size∧w.cell? ⟨b,o+j*2,none⟩=some ua∧w.cell? ⟨b,o+j*2+1,none⟩=some ur∧sm X w ua x.apps∧sk X w ur x.rules
def qZ(X:Nat)(w:World)(v:Value)(l:List cW):Prop:=∃a c,v=.slice a l.length c∧∀(j:Nat)x,l[j]?=some x→∃b o us,a=some ⟨b,o,none⟩∧b≠X∧b<w.heap.size∧w.cell? ⟨b,o+j*2,none⟩=some (.string x.name)∧w.cell? ⟨b,o+j*2+1,none⟩=some us∧ou X w us x.values
theorem qY.turn{X:Nat}{w w':World}{v:Value}{l:List dr}(h:qY X w v l)(ho:ag (fun b=>b=X) w w'):qY X w' v l:=by obtain⟨a,c,hv,h⟩:=h;refine⟨a,c,hv,fun j x hx=>?_⟩;obtain⟨b,o,ua,ur,ha,hn,hl,h0,h1,h2,h3⟩:=h j x hx;(have e:∀q,w'.cell? ⟨b,q,none⟩=w.cell? ⟨b,q,none⟩:=fun q=>by unfold World.cell?;rw[ho.block b hl hn]);exact⟨b,o,ua,ur,ha,hn,Nat.lt_of_lt_of_le hl ho.size,(e _).trans h0,(e _).trans h1,h2.turn ho,h3.turn ho⟩
theorem qZ.turn{X:Nat}{w w':World}{v:Value}{l:List cW}(h:qZ X w v l)(ho:ag (fun b=>b=X) w w'):qZ X w' v l:=by obtain⟨a,c,hv,h⟩:=h;refine⟨a,c,hv,fun j x hx=>?_⟩;obtain⟨b,o,us,ha,hn,hl,h0,h1,h2⟩:=h j x hx;(have e:∀q,w'.cell? ⟨b,q,none⟩=w.cell? ⟨b,q,none⟩:=fun q=>by unfold World.cell?;rw[ho.block b hl hn]);exact⟨b,o,us,ha,hn,Nat.lt_of_lt_of_le hl ho.size,(e _).trans h0,(e _).trans h1,h2.turn ho⟩
theorem qY.cell{X:Nat}{w:World}{a:Option Addr}{n c:Nat}{l:List dr}(h:qY X w (.slice a n c) l):∀(j:Nat)x,l[j]?=some x→∃b o ua ur,a=some ⟨b,o,none⟩∧b≠X∧b<w.heap.size∧w.cell? ⟨b,o+j*2,none⟩=some ua∧w.cell? ⟨b,o+j*2+1,none⟩=some ur∧sm X w ua x.apps∧sk X w ur x.rules:=by obtain⟨a',c',h1,h2⟩:=h;cases h1;exact h2
theorem qZ.cell{X:Nat}{w:World}{a:Option Addr}{n c:Nat}{l:List cW}(h:qZ X w (.slice a n c) l):∀(j:Nat)x,l[j]?=some x→∃b o us,a=some ⟨b,o,none⟩∧b≠X∧b<w.heap.size∧w.cell? ⟨b,o+j*2,none⟩=some (.string x.name)∧w.cell? ⟨b,o+j*2+1,none⟩=some us∧ou X w us x.values:=by obtain⟨a',c',h1,h2⟩:=h;cases h1;exact h2
structure Ca(a:ie):Prop where
 apps:∀d∈a.df,∀x∈d.apps,(cw x).size≤1048576
 rules:∀d∈a.df,∀x∈d.rules,(x.path.size≤1048576∧x.query.size≤1048576∧x.bw.size≤1048576)∧(∀i∈x.items,i.name.size≤1048576∧i.value.size≤1048576)∧x.items.length≤1100000
 lens:∀d∈a.df,d.apps.length≤1100000∧d.rules.length≤1100000
 vars:∀v∈a.vars,v.name.size≤1048576∧(∀t∈v.values,t.size≤1048576)∧v.values.length≤1100000
 Lw:a.df.length≤1100000
 var:a.vars.length≤1100000
 all:oq a≤100000000000000
def VE(w W2:World)(X:Nat)(f:Fl)(l:List dr)(v k:Value)(wr:World):Prop:=∃(j:Nat)(ts:List ByteArray),k=.int .i64 j∧j≤l.length∧cJ w wr X (f.add ((l.take j).any gV) ((l.take j).any jr))∧ag (fun b=>b=X) W2 wr∧wr.ownsRow W2.heap.size 9 1 v j (bo ts)∧eM fw (fun x=>!gV x&&!jr x) qO (l.take j) ts
structure mS(w0 w4:World)(X:Nat)(F:Fl)(N:Nat)(nm:ByteArray)(us:Value)(vals:List ByteArray)(v7:Value)(j:Nat)(kvs:List KV)(W:World):Prop where
 bq:cJ w0 W X F
 box:W.heap[N]?=some (.cells #[.string nm,us] 103 (0,0))
 own:W.ownsRow w4.heap.size 100 2 v7 j (kvs.flatMap iW)
 only:ag (fun b=>b=X) w4 W
 row:ou X W us vals
section
variable{w0 w4:World}{X N j:Nat}{F G:Fl}{nm:ByteArray}{us:Value}{vals:List ByteArray}{v7:Value}{kvs:List KV}{W:World}
theorem mS.drew(h:mS w0 w4 X F N nm us vals v7 j kvs W):mS w0 w4 X F N nm us vals v7 j kvs W.drew:=⟨⟨h.bq.below.drew,h.bq.le,h.bq.dJ⟩,h.box,h.own,⟨h.only.os,h.only.tape,h.only.output,h.only.size,h.only.block⟩,h.row⟩
theorem mS.cells(h:mS w0 w4 X F N nm us vals v7 j kvs W):W.cell? ⟨N,0,none⟩=some (.string nm)∧W.cell? ⟨N,1,none⟩=some us:=⟨Lib.cell_of_heap h.box 0,Lib.cell_of_heap h.box 1⟩
theorem mS.call{w':World}(h:mS w0 w4 X F N nm us vals v7 j kvs W)(hp:cJ w0 w' X G)(ho:ag (fun b=>b=X) W w')(hX:X<w4.heap.size)(hN:N≠X):mS w0 w4 X G N nm us vals v7 j kvs w':=⟨hp,(ho.block _ (ak h.box) hN).trans h.box,bu h.own (fun g hg=>ho.block g (h.own.lt g hg).2 (fun e=>by have:=(h.own.lt g hg).1;omega)) (Nat.le_refl _),h.only.trans ho,h.row.turn ho⟩
theorem mS.next{w6:World}{o:Obj}(h:mS w0 w4 X F N nm us vals v7 j kvs W)(hg:(W.alloc o).grownBy w6 v7.ownBlock)(hX:X<w4.heap.size)(hN:some N≠v7.ownBlock)(h0:Below w0.heap.size w0 w4):cJ w0 w6 X F∧ag (fun b=>b=X) w4 w6∧w6.cell? ⟨N,0,none⟩=some (.string nm)∧w6.cell? ⟨N,1,none⟩=some us:=by
 have hk:∀k,v7.ownBlock=some k→w4.heap.size≤k:=fun k e=>(h.own.lt k e).1;have hz:=h0.size;have hl:=ak h.box;refine⟨(h.bq.ext (aj (Below.refl _ W) o)).turn (T:=fun b=>v7.ownBlock=some b) ((ag.refl _ (W.alloc o)).grown hg (fun k e _=>e)) (fun k e=>by have:=hk k e;exact⟨by omega,by omega⟩),(h.only.alloc o).grown hg (fun k e hl=>by have:=hk k e;omega),?_,?_⟩
 ·exact(hg.cell_far (a:=⟨N,0,none⟩) (by simp;omega) hN).trans (jA _ h.cells.1)
 ·exact(hg.cell_far (a:=⟨N,1,none⟩) (by simp;omega) hN).trans (jA _ h.cells.2)
end
def VH(w0 w4:World)(X:Nat)(F:Fl)(vars:List cW)(v k:Value)(wr:World):Prop:=∃(j:Nat)(kvs:List KV),k=.int .i64 j∧j≤vars.length∧cJ w0 wr X (F.add ((vars.take j).any jy) false)∧ag (fun b=>b=X) w4 wr∧wr.ownsRow w4.heap.size 100 2 v j (kvs.flatMap iW)∧kvs.map (·.1)=(vars.take j).map (·.name)∧eM wv (fun v=>!jy v) (fun v:cW=>cC (v.values.map aG)) (vars.take j) (kvs.map (·.2))
def ahD(w:World)(a:ie)(e:Ending)(w':World):Prop:=Below w.heap.size w w'∧((gE a=false∧gl a=false∧e=.returned (.tuple #[.string (Fa a),.nilIface]))∨∃u,(Fl.mk (gE a) (gl a)).code≠0∧e=.returned (.tuple #[.string ⟨#[]⟩,u])∧Rd (Own w') w' u (cz 85 [((Fl.mk (gE a) (gl a)).code,0)]))
theorem ahE(w:World)(a:ie)(va vv:Value)(he:gI w)(hA:∀X,w.heap.size≤X→qY X w va a.df)(hV:∀X,w.heap.size≤X→qZ X w vv a.vars)(hz:Ca a):Calls Tryz.prog 19 #[.agg #[va,vv]] w (ahD w a):=by
 obtain⟨aD,cD,rfl,_⟩:=hA _ (Nat.le_refl _);obtain⟨aV,cV,rfl,_⟩:=hV _ (Nat.le_refl _);obtain⟨nd,jf⟩:∃n,a.df.length=n:=⟨_,rfl⟩;obtain⟨nv,lS⟩:∃n,a.vars.length=n:=⟨_,rfl⟩;have jg:=Lib.hid jf;have eP:=Lib.hid lS;have jn:=hz.Lw;have Cb:=hz.var;rw[jf]at hA jn⊢;rw[lS]at hV Cb⊢;have HE:=Lib.hid he;have HZ:=Lib.hid hz;have X1:=heap_alloc_new w (.cells #[.slice aD nd cD,.slice aV nv cV] 27);have B1:=aj (Below.refl _ w) (.cells #[.slice aD nd cD,.slice aV nv cV] 27)
 obtain⟨W1,aH⟩:∃W,w.alloc (.cells #[.slice aD nd cD,.slice aV nv cV] 27)=W:=⟨_,rfl⟩;rw[aH]at X1 B1;have X2:=heap_alloc_new W1 (.cells #[.int .i64 0] 95);have B2:=aj (Below.refl _ W1) (.cells #[.int .i64 0] 95);obtain⟨W2,dq⟩:∃W,W1.alloc (.cells #[.int .i64 0] 95)=W:=⟨_,rfl⟩;rw[dq]at X2 B2;obtain⟨A,kW⟩:∃A,w.heap.size=A:=⟨_,rfl⟩;obtain⟨X,hX⟩:∃X,W1.heap.size=X:=⟨_,rfl⟩;have bW:W1.heap.size=w.heap.size+1:=by rw[←aH];simp
 have hAX:A<X:=by omega
 rw[hX]at X2;rw[kW]at X1;have Y1:=Lib.hid ((B2.block _ (ak X1)).trans X1);have sn:w.heap.size≤X:=by omega
 have pI:=aF B1 B2;obtain⟨f0,kY⟩:∃f,Fl.mk false false=f:=⟨_,rfl⟩;have zt:=Lib.hid kY;have P2:=Lib.hid (show cJ w W2 X f0 from⟨pI,sn,by rw[←kY];exact X2⟩);have RD:=Lib.hid ((hA X sn).turn (ag.of pI));have RV:=Lib.hid ((hV X sn).turn (ag.of pI));have wh:=Lib.hid (show(w.alloc (.cells #[.slice aD nd cD,.slice aV nv cV] 27)).alloc (.cells #[.int .i64 0] 95)=W2 by rw[aH,dq]);have so:=Lib.hid kW;have qC:=Lib.hid (show w.heap.size+1=X by omega);have ahG:=Lib.hid pI
 clear he hA hV hz jf lS X1 B1 aH X2 B2 dq kW hX bW sn pI kY;go_enter Tryz.func19,Tryz.ntmps19;go_upto_region 3 with(fail);rw[wh.out,qC.out,so.out];have c0:=Lib.cell_of_heap Y1.out 0;go_wp2_with fail;go_loopw[5,18](VE w W2 X f0 a.df)(fun _ i _=>nd-(intOf i).toNat);case atStart=>exact⟨0,[],rfl,Nat.zero_le _,by simpa[Fl.dO]using P2.out,ag.refl _ _,by simpa[bo]using World.ownsRow_nil W2 W2.heap.size 9 1,eM.nil⟩
 case' round=>
  obtain⟨j,ts,rfl,hj,hp,ho,az,dy⟩:=hrel;rw[jg.out]at hj;obtain⟨ay,cy,rfl,_⟩:=aM az;have HP:=Lib.hid hp;have HO:=Lib.hid ho;have HW:=Lib.hid az;have HT:=Lib.hid dy;clear hp ho az dy c0;have yb:X<W2.heap.size:=P2.out.lt;by_cases hlt:j<nd
  case pos=>
   have t1:decide ((j:Int)<(nd:Int))=true:=decide_eq_true (by omega);have aT:decide (j<nd)=true:=decide_eq_true hlt;have q1:IntKind.i64.wrap ((j:Int)+1)=(j:Int)+1:=IntWalk.i64_in _ (by omega);obtain⟨d,hd⟩:=bN a.df j (by rw[jg.out];exact hlt);obtain⟨b,o,ua,ur,rfl,_,_,d0,d1,iJ,fy⟩:=(RD.out.turn HO.out).cell j d hd;obtain⟨a1,c1,rfl,_⟩:=id iJ;obtain⟨a2,c2,rfl,_⟩:=id fy;have HJ:=Lib.hid hd;have nV:=List.mem_of_getElem? hd
   have uv:fw d≤100000000000000:=by have h1:fw d+1≤(a.df.map fun d=>fw d+1).sum:=vX (f:=fun d=>fw d+1) nV;have h2:=HZ.out.all;unfold oq at h2;omega
   have E4:=aj (Below.refl _ wr) (.cells #[.slice a1 d.apps.length c1,.slice a2 d.rules.length c2] 35);obtain⟨W4,dR⟩:∃W,wr.alloc (.cells #[.slice a1 d.apps.length c1,.slice a2 d.rules.length c2] 35)=W:=⟨_,rfl⟩;rw[dR]at E4;have DT:=ahu w W4 X _ d _ _ (HP.out.ext E4) HE.out (iJ.turn (ag.of E4)) (fy.turn (ag.of E4)) (HZ.out.apps d nV) (HZ.out.rules d nV) uv (HZ.out.lens d nV).1 (HZ.out.lens d nV).2;unfold an at DT;have DT:=Lib.hid DT;have lP:=Lib.hid E4;have mC:=Lib.hid dR;clear hd iJ fy nV uv E4 dR
   go_wp2_with fail;rw[mC.out];refine DT.out.mono ?_;intro e w5 sg;obtain⟨T,rfl,hT,uo,uq⟩:=sg;have pA:=Lib.hid hT;have vC:=Lib.hid uo;have mF:=Lib.hid ((ag.of (T:=fun b=>b=X) lP.out).trans uq);have iK:=Lib.hid (show w5.ownsRow W2.heap.size 9 1 (.slice ay j cy) j (bo ts)from bu HW.out (fun g hg=>mF.out.block g (HW.out.lt g hg).2 (fun e=>by have:=(HW.out.lt g hg).1;omega)) (Nat.le_refl _));clear hT uo uq d0 d1
   go_wp2_with(at_builtin;refine iY w5 #[.string T] 9 rfl _ _ 96 rfl W2.heap.size eK _ _ _ rfl iK.out rfl rfl ?c1 ?c2 ?c3 ?c4 ?_);case c1=>first|rfl|(intro u hu;simp at hu;subst hu;rfl)
   case c2=>unfold maxLen;omega
   case c3=>omega
   case c4=>exact Nat.le_trans HO.out.size mF.out.size
   intro v2 w6 dz jQ;have uu:ag (fun b=>b=X) W2 w6:=(((HO.out.trans mF.out).alloc _).grown jQ (fun k hk bP=>by have:=(iK.out.lt k hk).1;omega))
   have pH:=(vC.out.ext (aj (Below.refl _ w5) (.cells #[.string T] 9))).turn (T:=fun b=>Value.ownBlock (.slice ay j cy)=some b) ((ag.refl (fun b=>Value.ownBlock (.slice ay j cy)=some b) (w5.alloc (.cells #[.string T] 9))).grown jQ (fun k hk _=>hk)) (fun k hk=>by have h1:=(iK.out.lt k hk).1;have h2:=P2.out.below.size;exact⟨by omega,by omega⟩)
   have R:VE w W2 X f0 a.df v2 (.int .i64 ((j:Int)+1)) w6:=by
    refine⟨j+1,ts++[T],by go_num,by rw[jg.out];exact hlt,?_,uu,?_,HT.out.snoc HJ.out pA.out⟩
    ·rw[kf _ _ HJ.out,kf _ _ HJ.out];rw[Fl.add_add]at pH;exact pH
    ·have e2:bo (ts++[T])=bo ts++(#[Value.string T]:Array Value).toList:=by simp[bo]
     rw[e2];exact dz
   obtain⟨a2,c2,rfl,_⟩:=aM dz;have br:=Lib.hid R;clear R dz jQ uu pH;go_wp2;refine⟨?_,by simp[intOf];omega⟩;first|exact br.out|((repeat apply Exists.intro);exact⟨br.out,rfl⟩)
  case' neg=>
   have t1:decide ((j:Int)<(nd:Int))=false:=decide_eq_false (by omega);have aT:decide (j<nd)=false:=decide_eq_false hlt;have hE:a.df.take j=a.df:=kg (by rw[jg.out];exact hj) (by rw[jg.out];exact hlt);have hT:=HT.out;have hP:=HP.out;rw[hE]at hT hP;have hlen:ts.length=j:=by rw[hT.len,jg.out];omega
   have TL:=Lib.hid hT.list;have hW:=HW.out;rw[←hlen]at hW;have lh:=HZ.out.all;unfold oq at lh;have AR:=KG wr W2.heap.size (.slice ay ts.length cy) ts hW (by omega) (Nat.le_trans TL.out.size (by omega));rw[hlen]at AR;have AR:=Lib.hid AR;have VI:=Lib.hid hP;clear hE hT hP hlen hW lh;go_wp2_with fail;refine AR.out.mono ?_;rintro e w5⟨rfl,bg⟩;obtain⟨T1,kB⟩:∃T,cC ts=T:=⟨_,rfl⟩;rw[kB]at TL⊢;have E6:=aj (Below.refl _ w5) (.cells #[.string eJ,.string T1] 100)
   obtain⟨W6,mz⟩:∃W,w5.alloc (.cells #[.string eJ,.string T1] 100)=W:=⟨_,rfl⟩;obtain⟨g8,gw⟩:∃g,w5.heap.size=g:=⟨_,rfl⟩;have O8:=World.ownsRow_lit (base:=w5.heap.size) (e:=100) (size:=2) w5 #[.string eJ,.string T1] 1 (Nat.le_refl _) (by decide) rfl;rw[mz]at E6;rw[mz,gw]at O8;have Fy:=Lib.hid (show W6.ownsRow g8 100 2 (.slice (some ⟨g8,0,none⟩) 1 1) 1 ([((eJ,T1):KV)].flatMap iW)from O8);have P6:=Lib.hid (VI.out.ext (aF bg E6))
   have O6:=Lib.hid (HO.out.trans (ag.of (T:=fun b=>b=X) (aF bg E6)));have hXg:X<g8:=by rw[←gw];exact Nat.lt_of_lt_of_le VI.out.lt bg.size
   have ahI:A≠X:=by omega
   have c1:W6.cell? ⟨A,1,none⟩=some (.slice aV nv cV):=by have:=(O6.out.block A (ak Y1.out) ahI).trans Y1.out;exact Lib.cell_of_heap this 1
   have EH:=Lib.hid (And.intro (show w5.alloc (.cells #[.string ⟨#[100,101,116,97,105,108,115]⟩,.string T1] 100)=W6 from mz) gw);clear kB bg E6 mz gw O8;have ways:nv=0∨0<nv:=Nat.eq_zero_or_pos nv;obtain⟨F6,AQ⟩:∃F,f0.add (a.df.any gV) (a.df.any jr)=F:=⟨_,rfl⟩;have pF:=Lib.hid AQ;rw[AQ]at P6;clear AQ;go_upto_region 9 with(fail);rw[EH.out.1,EH.out.2];rcases ways with h0|h0
   case' inl=>
    have c0:decide ((0:Int)<(nv:Int))=false:=decide_eq_false (by omega);have wi:decide (0<nv)=false:=decide_eq_false (by omega);have uw:a.vars=[]:=List.eq_nil_of_length_eq_zero (by rw[eP.out];exact h0);obtain⟨wz,j1⟩:∃W,W6=W:=⟨_,rfl⟩;obtain⟨F8,wy⟩:∃F,F6=F:=⟨_,rfl⟩;obtain⟨L,hL⟩:∃L:List KV,[(eJ,T1)]=L:=⟨_,rfl⟩;have pJ:=Lib.hid (show Ls a L by rw[←hL];exact Lv a TL.out (.inl ⟨uw,rfl⟩));have yh:=Lib.hid (show cJ w wz X F8 by rw[←j1,←wy];exact P6.out)
    have VJ:=Lib.hid (show F8=f0.add (gE a) (gl a)by rw[←wy,←pF.out];unfold gE gl om mM;rw[uw];simp[db]);have yi:=Lib.hid (show wz.ownsRow g8 100 2 (.slice (some ⟨g8,0,none⟩) 1 1) L.length (L.flatMap iW)by rw[←j1,←hL];exact Fy.out);rw[j1]at c1;clear h0 uw wy hL;go_wp2_with fail;try rw[j1]
    clear j1 c0 wi c1
   case' inr=>
    have c0:decide ((0:Int)<(nv:Int))=true:=decide_eq_true (by omega);have wi:decide (0<nv)=true:=decide_eq_true h0;go_wp2_with fail;clear c0 wi c1;go_loopw[9,40](VH w W6 X F6 a.vars)(fun _ i _=>nv-(intOf i).toNat);case atStart=>exact⟨0,[],rfl,Nat.zero_le _,by simpa[Fl.dO]using P6.out,ag.refl _ _,World.ownsRow_nil _ _ _ _,rfl,eM.nil⟩
    case' round=>
     obtain⟨m,kvs,rfl,hm,hp,ho,az,kG,dy⟩:=hrel;rw[eP.out]at hm;obtain⟨ax,cx,rfl,_⟩:=aM az;have VM:=Lib.hid hp;have sq:=Lib.hid ho;have Fz:=Lib.hid az;have VN:=Lib.hid dy;have BR:=Lib.hid kG;clear hp ho az dy kG;have Ew:X<W6.heap.size:=P6.out.lt;by_cases bP:m<nv
     case pos=>
      have t2:decide ((m:Int)<(nv:Int))=true:=decide_eq_true (by omega);have dM:decide (m<nv)=true:=decide_eq_true bP;have q1:IntKind.i64.wrap ((m:Int)+1)=(m:Int)+1:=IntWalk.i64_in _ (by omega);obtain⟨vr,ox⟩:=bN a.vars m (by rw[eP.out];exact bP);obtain⟨b,o,us,rfl,_,_,d0,d1,hst⟩:=(((RV.out.turn O6.out)).turn sq.out).cell m vr ox;obtain⟨av,cv,rfl,_⟩:=id hst;have HJ:=Lib.hid ox;have hsz:=HZ.out.vars vr (List.mem_of_getElem? ox)
      have Cc:wv vr≤100000000000000:=by have h1:aJ vr.name+(vr.values.map fun t=>aJ t+1).sum+4≤(a.vars.map fun v=>aJ v.name+(v.values.map fun t=>aJ t+1).sum+4).sum:=vX (f:=fun v:cW=>aJ v.name+(v.values.map fun t=>aJ t+1).sum+4) (List.mem_of_getElem? ox);have h2:=HZ.out.all;unfold oq kQ at h2;unfold wv;omega
      have E7:=aj (Below.refl _ wr) (.cells #[.string vr.name,.slice av vr.values.length cv] 103);have F7:mS w W6 X (F6.add ((a.vars.take m).any jy) false) wr.heap.size vr.name (.slice av vr.values.length cv) vr.values (.slice ax m cx) m kvs (wr.alloc (.cells #[.string vr.name,.slice av vr.values.length cv] 103)):=⟨VM.out.ext E7,heap_alloc_new wr _,Fz.out.alloc _,sq.out.trans (ag.of E7),hst.turn (ag.of E7)⟩;obtain⟨W4,dR⟩:∃W,wr.alloc (.cells #[.string vr.name,.slice av vr.values.length cv] 103)=W:=⟨_,rfl⟩
      obtain⟨N,hN⟩:∃N,wr.heap.size=N:=⟨_,rfl⟩;have yc:N≠X:=by have:=sq.out.size;omega
      rw[dR,hN]at F7;have FA:=Lib.hid F7;have kU:=Lib.hid (And.intro dR hN);have NE:Hid (some N≠Value.ownBlock (.slice ax m cx)):=Lib.hid (fun e=>by have h1:=(Fz.out.lt N e.symm).2;omega);have FS:=Lib.hid (show(F6.add ((a.vars.take m).any jy) false).add (jy vr) false=F6.add ((a.vars.take (m+1)).any jy) false by rw[Fl.add_add,kf _ _ ox];rfl);obtain⟨nl,pr⟩:∃n,vr.values.length=n:=⟨_,rfl⟩;rw[pr]at FA kU d1
      have TX:=Lib.hid (fun G W(hW:mS w W6 X G N vr.name (.slice av nl cv) vr.values (.slice ax m cx) m kvs W)=>(show Calls Tryz.prog 40 #[.pointer (some ⟨X,0,none⟩),.slice av nl cv] W fun e w'=>∃T,e=.returned (.string T)∧Tx (wv vr) (!jy vr) (cC (vr.values.map aG)) T∧mS w W6 X (G.add (jy vr) false) N vr.name (.slice av nl cv) vr.values (.slice ax m cx) m kvs w' from(Ui w W X _ (.slice av nl cv) vr.values hW.bq HE.out hW.row hsz.2.1 Cc hsz.2.2).mono (fun e w' hh=>by obtain⟨T,h1,h2,h3,h4⟩:=hh;exact⟨T,h1,h2,hW.call h3 h4 Ew yc⟩)))
      obtain⟨nm,uj⟩:∃nm,vr.name=nm:=⟨_,rfl⟩;have ahJ:=Lib.hid uj;rw[uj]at FA kU d0 TX;clear dR hN F7 ox uj hsz hst Cc E7 pr;go_wp2_with fail;rw[kU.out.1];simp only[kU.out.2];refine wp_region_noPanic ?_;refine wp_region_held_drew (S:=fun W=>W.cell? ⟨N,0,none⟩=some (.string nm)∧W.cell? ⟨N,1,none⟩=some (.slice av nl cv)) (by kernel_rfl) FA.out.cells (fun aB=>?_)
      refine wpAnyH_take (i:=0) (oi:=_) (v:=.slice ax m cx) rfl (by kernel_rfl) (by kernel_rfl) (by kernel_rfl) (fun _ _ _ h=>h) (Or.inl ⟨by rfl,?_⟩) aB ?_
      ·intro w al;obtain⟨y0,y1⟩:=al;go_simp
      try simp only[Act.put,List.setIfInBounds_toArray,List.set_cons_zero,List.set_cons_succ,List.getElem_toArray,List.getElem_cons_zero]
      refine wpAnyH_take (i:=1) (oi:=_) (v:=.pointer (some ⟨N,0,none⟩)) rfl (by kernel_rfl) (by kernel_rfl) (by kernel_rfl) (fun _ _ _ h=>h) (Or.inl ⟨by rfl,?_⟩) aB ?_
      ·intro w al;obtain⟨y0,y1⟩:=al;go_simp
      try simp only[Act.put,List.setIfInBounds_toArray,List.set_cons_zero,List.set_cons_succ,List.getElem_toArray,List.getElem_cons_zero,List.getElem_cons_succ]
      refine wpAnyH_take (i:=2) (oi:=_) (v:=.string nm) rfl (by kernel_rfl) (by kernel_rfl) (by kernel_rfl) (fun _ _ _ h=>h) (Or.inl ⟨by rfl,?_⟩) aB ?_
      ·intro w al;obtain⟨y0,y1⟩:=al;go_simp
      try simp only[Act.put,List.setIfInBounds_toArray,List.set_cons_zero,List.set_cons_succ,List.getElem_toArray,List.getElem_cons_zero,List.getElem_cons_succ]
      refine wpAnyH_take (i:=3) (oi:=_) (v:=.pointer (some ⟨X,0,none⟩)) rfl (by kernel_rfl) (by kernel_rfl) (by kernel_rfl) (fun _ _ _ h=>h) (Or.inl ⟨by rfl,?_⟩) aB ?_
      ·intro w al;obtain⟨y0,y1⟩:=al;go_simp
      try simp only[Act.put,List.setIfInBounds_toArray,List.set_cons_zero,List.set_cons_succ,List.getElem_toArray,List.getElem_cons_zero,List.getElem_cons_succ]
      refine wpAnyH_take (i:=4) (oi:=_) (v:=.pointer (some ⟨N,1,none⟩)) rfl (by kernel_rfl) (by kernel_rfl) (by kernel_rfl) (fun _ _ _ h=>h) (Or.inl ⟨by rfl,?_⟩) aB ?_
      ·intro w al;obtain⟨y0,y1⟩:=al;go_simp
      try simp only[Act.put,List.setIfInBounds_toArray,List.set_cons_zero,List.set_cons_succ,List.getElem_toArray,List.getElem_cons_zero,List.getElem_cons_succ]
      refine wpAnyH_take (i:=5) (oi:=_) (v:=.slice av nl cv) rfl (by kernel_rfl) (by kernel_rfl) (by kernel_rfl) (fun _ _ _ h=>h) (Or.inl ⟨by rfl,?_⟩) aB ?_
      ·intro w al;obtain⟨y0,y1⟩:=al;go_simp
      try simp only[Act.put,List.setIfInBounds_toArray,List.set_cons_zero,List.set_cons_succ,List.getElem_toArray,List.getElem_cons_zero,List.getElem_cons_succ]
      refine wpAnyH_ready (rs:=[6]) (by kernel_rfl) (by simp) ?_;refine AllReadyH.cons (o:=_) rfl (fun K hK=>?_) AllReadyH.nil;go_simp;refine(TX.out _ _ FA.out.drew).mono ?_;intro e w9 mD;obtain⟨T,rfl,hT,VO⟩:=mD;have Lp:=Lib.hid hT;have ki:=Lib.hid VO;clear hT VO;go_wp2_with fail;refine hK.out _ _ ki.out.cells (fun aB=>?_);clear hK K;try simp only[Act.put,List.setIfInBounds_toArray,List.set_cons_zero,List.set_cons_succ,List.getElem_toArray,List.getElem_cons_zero,List.getElem_cons_succ]
      refine wpAnyH_take (i:=7) (oi:=_) (v:=.agg #[.string nm,.string T]) rfl (by kernel_rfl) (by kernel_rfl) (by kernel_rfl) (fun _ _ _ h=>h) (Or.inl ⟨by rfl,?_⟩) aB ?_
      ·intro w al;obtain⟨y0,y1⟩:=al;go_simp
      try simp only[Act.put,List.setIfInBounds_toArray,List.set_cons_zero,List.set_cons_succ,List.getElem_toArray,List.getElem_cons_zero,List.getElem_cons_succ]
      refine wpAnyH_ready (rs:=[8]) (by kernel_rfl) (by simp) ?_;refine AllReadyH.cons (o:=_) rfl (fun K hK=>?_) AllReadyH.nil;go_simp;refine hK.out _ _ ⟨jA _ ki.out.cells.1,jA _ ki.out.cells.2⟩ (fun aB=>?_);clear hK K;try simp only[Act.put,List.setIfInBounds_toArray,List.set_cons_zero,List.set_cons_succ,List.getElem_toArray,List.getElem_cons_zero,List.getElem_cons_succ]
      obtain⟨i0,dw,bT,bW,bA⟩:=info_parts Fj.hi;refine wpAnyH_ready (rs:=[9]) (by kernel_rfl) (by simp) ?_;refine AllReadyH.cons (o:=_) rfl (fun K hK=>?_) AllReadyH.nil
      refine step_append_lies _ (by rfl) _ _ _ (by rfl) W6.heap.size 100 i0 _ 2 32 Tryz.underlying101 dw bT bW bA rfl (by omega) (.slice ax m cx) m _ (by rfl) (ki.out.own.alloc _) ⟨w9.heap.size,0,none⟩ 1 1 [.string nm,.string T] (by rfl) (by rfl) (World.news_of_block (cs:=#[.string nm,.string T]) (t:=100) (fr:=(0,0)) (heap_alloc_new w9 _)) (by simp[Value.oneCell']) (by omega) (by unfold maxLen;omega) (by omega) (by have:=ki.out.only.size;simp;omega) (w9.heap.size+1) (by simp) ?_
      intro g' cap' Lx lq cZ cf we;have NX:=ki.out.next cZ Ew NE.out P6.out.below;have oe:=NX.2.2
      have R':VH w W6 X F6 a.vars (.slice (some ⟨g',0,none⟩) (m+1) cap') (.int .i64 ((m:Int)+1)) Lx:=by
       refine⟨m+1,kvs++[(nm,T)],by go_num,by rw[eP.out];exact bP,?_,NX.2.1,?_,?_,?_⟩
       ·rw[←FS.out];exact NX.1
       ·rw[List.flatMap_append];exact lq
       ·rw[List.map_append,BR.out,List.take_add_one,HJ.out];simp[ahJ.out]
       ·rw[List.map_append];exact VN.out.snoc HJ.out Lp.out
      have br:=Lib.hid R';clear R' lq cZ cf we NX;refine hK.out _ _ oe (fun aB=>?_);clear hK K;try simp only[Act.put,List.setIfInBounds_toArray,List.set_cons_zero,List.set_cons_succ,List.getElem_toArray,List.getElem_cons_zero,List.getElem_cons_succ]
      refine wpAnyH_take (i:=10) (oi:=_) (v:=.slice (some ⟨g',0,none⟩) (m+1) cap') rfl (by kernel_rfl) (by kernel_rfl) (by kernel_rfl) (fun _ _ _ h=>h) (Or.inl ⟨by rfl,?_⟩) aB ?_
      ·intro w al;obtain⟨y0,y1⟩:=al;go_simp
      try simp only[Act.put,List.setIfInBounds_toArray,List.set_cons_zero,List.set_cons_succ,List.getElem_toArray,List.getElem_cons_zero,List.getElem_cons_succ]
      refine wpAnyH_done (by kernel_rfl) ?_ _;refine NoPanic.normal ?_;go_wp2;refine⟨?_,by simp[intOf];omega⟩;first|exact br.out|((repeat apply Exists.intro);exact⟨br.out,rfl⟩)
     case' neg=>
      have t2:decide ((m:Int)<(nv:Int))=false:=decide_eq_false (by omega);have dM:decide (m<nv)=false:=decide_eq_false bP;have hE:a.vars.take m=a.vars:=kg (by rw[eP.out];exact hm) (by rw[eP.out];exact bP);have hT:=VN.out;have hP:=VM.out;have hM:=BR.out;have hW:=Fz.out;rw[hE]at hT hP hM;have hlen:kvs.length=m:=by have h1:=congrArg List.length hM;rw[List.length_map,List.length_map,eP.out]at h1;omega
      have IT:=ahA a.vars hM hT;rw[←hlen]at hW;have Ek:kQ a.vars≤100000000000000:=by have:=HZ.out.all;unfold oq at this;omega
      have OB:=ya w wr X _ _ kvs W6.heap.size hP HE.out hW Ew (fun p hp=>by(have h1:p.1∈a.vars.map (·.name):=by rw[←hM];exact List.mem_map.2 ⟨p,hp,rfl⟩);obtain⟨it,h2,h3⟩:=List.mem_map.1 h1;rw[←h3];exact(HZ.out.vars it h2).1) (Nat.le_trans IT.1 Ek) (by omega);rw[hlen]at OB;unfold an at OB;have OB:=Lib.hid OB;have Ld:=Lib.hid IT;have HM:=Lib.hid hM;clear hE hT hP hM hW hlen IT Ek;go_wp2_with fail;refine OB.out.mono ?_;intro e wq rS;obtain⟨T2,rfl,hT,BU,gW⟩:=rS
      have jO:ag (fun b=>b=X) W6 wq:=⟨gW.os.trans sq.out.os,gW.tape.trans sq.out.tape,gW.output.trans sq.out.output,Nat.le_trans sq.out.size gW.size,fun k hk hn=>(gW.block k (Nat.lt_of_lt_of_le hk sq.out.size) (fun hh=>by
       rcases hh with h|h
       ·exact hn h
       ·have:=(Fz.out.lt k h).1;omega)).trans (sq.out.block k hk hn)⟩
      have HVT:=Lib.hid (ahB a.vars Ld.out hT HM.out);have HQ:=Lib.hid (show wq.ownsRow g8 100 2 (.slice (some ⟨g8,0,none⟩) 1 1) 1 ([((eJ,T1):KV)].flatMap iW)from bu Fy.out (fun g hg=>jO.block g (Fy.out.lt g hg).2 (fun e=>by have:=(Fy.out.lt g hg).1;omega)) (Nat.le_refl _))
      have HFQ:=Lib.hid (show cJ w wq X (f0.add (gE a) (gl a))by(have e:((F6.add (a.vars.any jy) false).add (cH (kvs.map (·.1))) (db (kvs.map (·.1))))=f0.add (gE a) (gl a):=by rw[HM.out,←pF.out,Fl.add_add,Fl.add_add];unfold gE gl;rw[Lq];unfold mM;rw[Bool.or_comm (cH _),Bool.false_or]);rw[←e];exact BU);have HZQ:=Lib.hid (show g8≤wq.heap.size from Nat.le_of_lt (HQ.out.lt g8 rfl).2);clear hT BU gW jO
      go_wp2_with(at_builtin;refine iY wq #[.string lx,.string T2] 100 rfl _ _ 101 rfl g8 Fj _ _ _ rfl HQ.out rfl rfl ?c1 ?c2 ?c3 ?c4 ?_);case c1=>exact⟨rfl,rfl⟩
      case c2=>unfold maxLen;omega
      case c3=>omega
      case c4=>exact HZQ.out
      intro v8 wz fK gw;have VQ:a.vars≠[]:=fun e=>by have:=eP.out;rw[e]at this;simp at this;omega
      obtain⟨L,hL⟩:∃L:List KV,[(eJ,T1),(lx,T2)]=L:=⟨_,rfl⟩;obtain⟨F8,wy⟩:∃F,f0.add (gE a) (gl a)=F:=⟨_,rfl⟩;have pJ:=Lib.hid (show Ls a L by rw[←hL];exact Lv a TL.out (.inr ⟨VQ,T2,rfl,HVT.out⟩));have VJ:=Lib.hid wy.symm
      have yh:=Lib.hid (show cJ w wz X F8 by rw[←wy];exact(HFQ.out.ext (aj (Below.refl _ wq) _)).turn (T:=fun b=>Value.ownBlock (.slice (some ⟨g8,0,none⟩) 1 1)=some b) ((ag.refl (fun b=>Value.ownBlock (.slice (some ⟨g8,0,none⟩) 1 1)=some b) _).grown gw (fun k hk _=>hk)) (fun k hk=>by have h1:=(HQ.out.lt k hk).1;have h2:=P6.out.le;exact⟨by omega,by omega⟩));have yi:=Lib.hid (show wz.ownsRow g8 100 2 v8 L.length (L.flatMap iW)by rw[←hL];exact fK);obtain⟨a8,c8,rfl,_⟩:=aM fK
      clear fK gw VQ hL wy bP t2 dM hm;go_wp2_with fail
 all_goals
  have OB:=ya w wz X F8 _ L g8 yh.out HE.out yi.out hXg pJ.out.keys (by have h1:=pJ.out.size;have h2:=HZ.out.all;omega) (Nat.le_trans pJ.out.len (by decide));rw[pJ.out.bad,pJ.out.dup,Fl.dO]at OB;unfold an at OB;have OB:=Lib.hid OB;go_wp2_with fail;refine OB.out.mono ?_;intro e yl hh;obtain⟨T3,rfl,wA,jP,_⟩:=hh;have VS:=aj (Below.refl _ yl) (.cells #[.string fM,.string T3] 100)
  have iT:cj [((fM,T3):KV)]≤100000000000000:=by have h1:=wA.size;have h2:=pJ.out.size;have h3:=HZ.out.all;have b:aJ fM=50:=rfl;unfold cj at h1 h2⊢;simp only[List.map_cons,List.map_nil,List.sum_cons,List.sum_nil];omega
  have pK:=ya w (yl.alloc (.cells #[.string fM,.string T3] 100)) X F8 (.slice (some ⟨yl.heap.size,0,none⟩) 1 1) [((fM,T3):KV)] yl.heap.size (jP.ext VS) HE.out (World.ownsRow_lit (base:=yl.heap.size) (e:=100) (size:=2) yl #[.string fM,.string T3] 1 (Nat.le_refl _) (by decide) rfl) jP.lt (fun p hp=>by rw[List.mem_singleton.1 hp];exact(by decide:fM.size≤1048576)) iT (show 1≤1100000 by decide)
  rw[show cH ([((fM,T3):KV)].map (·.1))=false from by simp[cH,Lt.2.2],show db ([((fM,T3):KV)].map (·.1))=false from Lu.2.2,Fl.dO]at pK;unfold an at pK;have pK:=Lib.hid pK;have gL:=Lib.hid (wA.eq rfl);clear wA jP VS iT;go_wp2_with fail;refine pK.out.mono ?_;intro e wB hh;obtain⟨T4,rfl,oy,Ly,_⟩:=hh;have La:=Lib.hid (oy.eq rfl);have c12:=Lib.cell_of_heap Ly.dJ 0;have HB:=Lib.hid Ly.below
  have Cd:=Lib.hid (show F8.code=(Fl.mk (gE a) (gl a)).code by rw[VJ.out,←zt.out];simp[Fl.add]);obtain⟨cd,tn⟩:∃c,F8.code=c:=⟨_,rfl⟩;rw[tn]at c12;have Lz:=Lib.hid tn;clear oy Ly tn;by_cases vW:cd=0
  ·subst vW;have FB:=Lib.hid (show gE a=false∧gl a=false by have h:=Cd.out;rw[Lz.out]at h;unfold Fl.code at h;cases hb:gE a<;>cases hd:gl a<;>simp[hb,hd]at h⊢);go_wp2;go_ret2;refine⟨HB.out,.inl ⟨FB.out.1,FB.out.2,?_⟩⟩;rw[La.out,gL.out,pJ.out.eq FB.out.1 FB.out.2];rfl
  ·have tc:(cd !=0)=true:=by simpa using vW
   have Bw:=Lib.hid vW;clear vW;go_wp2_with fail;go_at_call 42;refine(ri _ _ _).mono ?_;rintro e w13⟨rfl,rfl⟩;have HFT:=Lib.hid (Rd.fault (k:=cd) (a:=0) (iS.nil (w:=wB)));have Au:=Lib.hid (aj HB.out (.cells #[.int .i64 cd,.int .i64 0,.nilIface] 89));go_wp2;go_ret2;refine⟨Au.out,.inr ⟨_,?_,rfl,?_⟩⟩
   ·rw[←Cd.out,Lz.out];exact Bw.out
   ·rw[←Cd.out,Lz.out];exact HFT.out
end Go.Proofs.YtcaiibkgajhohaaGreatDoor
