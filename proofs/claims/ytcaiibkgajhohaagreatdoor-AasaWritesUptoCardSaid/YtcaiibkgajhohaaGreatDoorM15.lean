/- waybill: lemmas and walks, printed from longer texts. -/
import Derived.Test.YtcaiibkgajhohaaGreatDoorM14
set_option maxRecDepth 100000
set_option maxHeartbeats 16000000
namespace Go.Proofs.YtcaiibkgajhohaaGreatDoor
open Go.RowKit
def j3(n:Nat):List Op→Prop
 |[]=>False
 |[q]=>q.id=-1∧q.obj=false
 |o::p::r=>0≤o.id∧o.id<n∧j3 n (p::r)
structure PI(s:PS):Prop where
 de:j3 s.js.length s.stack
 one:∀q,s.stack=[q]→(q.st=1∧s.js=[])∨q.st=5
 two:∀o p r,s.stack=o::p::r→o.st≠5
theorem j3.more{n:Nat}:∀{l:List Op},j3 n l→j3 (n+1) l
 |[_],h=>h
 |_::_::_,h=>⟨h.1,by have:=h.2.1;omega,h.2.2.more⟩
theorem j3.tail{n:Nat}{o p:Op}{r:List Op}(h:j3 n (o::p::r)):j3 n (p::r):=h.2.2
theorem j3.swap{n:Nat}{o o':Op}{r:List Op}(h:j3 n (o::r))(hi:o'.id=o.id)(ho:o'.obj=o.obj):j3 n (o'::r):=by
 cases r with
 |nil=>exact⟨hi.trans h.1,ho.trans h.2⟩
 |cons p r=>exact⟨hi▸h.1,hi▸h.2.1,h.2.2⟩
theorem PI.id{s:PS}(h:PI s){o:Op}{r:List Op}(hs:s.stack=o::r)(h5:o.st≠5):0≤o.id∧o.id<s.js.length∨o.id=-1∧s.js=[]:=by
 have hg:=h.de;rw[hs]at hg
 cases r with
 |nil=>
  rcases h.one o hs with⟨_,e⟩|e
  ·exact .inr ⟨hg.1,e⟩
  ·exact absurd e h5
 |cons p r=>exact .inl ⟨hg.1,hg.2.1⟩
theorem PI.deep{s:PS}(h:PI s){o:Op}{r:List Op}(hs:s.stack=o::r)(h5:o.st≠5)(h1:o.st≠1):∃p r',r=p::r':=by
 cases r with
 |nil=>
  rcases h.one o hs with⟨e,_⟩|e
  ·exact absurd e h1
  ·exact absurd e h5
 |cons p r=>exact⟨p,r,rfl⟩
theorem Ho{js:List JN}{aa:List Nat}{o:Op}{r:List Op}(hg:j3 js.length (o::r)):PI ⟨js,aa,jc (o::r)⟩:=by
 refine⟨?_,fun q hq=>?_,fun a p r' ha=>?_⟩
 ·exact hg.swap (o':=sP o) rfl rfl
 ·simp only[jc,List.cons.injEq]at hq;obtain⟨rfl,rfl⟩:=hq;right;have:=hg.1;simp[sP,this]
 ·simp only[jc,List.cons.injEq]at ha;obtain⟨rfl,rfl⟩:=ha;have:=hg.1;simp only[sP];rw[if_neg (by omega)];decide
theorem Hp{s:PS}(h:PI s){o o':Op}{p:Op}{r:List Op}(hs:s.stack=o::p::r)(hi:o'.id=o.id)(ho:o'.obj=o.obj)(h5:o'.st≠5):PI {s with stack:=o'::p::r}:=by have hg:=h.de;rw[hs]at hg;refine⟨hg.swap hi ho,fun q hq=>by simp at hq,fun a b c ha=>?_⟩;simp only[List.cons.injEq]at ha;rw[←ha.1];exact h5
theorem Hq{B:ByteArray}{m:Bd}{s s':PS}{o:Op}{r:List Op}{t:Tok}(h:PI s)(hs:s.stack=o::r)(_h5:o.st≠5)(hv:fc B m s o r t=.ok s'):PI s'∧s'.js.length≤s.js.length+1∧s'.stack.length≤s.stack.length+1∧s.js.length≤s'.js.length:=by
 have hg:=h.de;rw[hs]at hg;unfold fc at hv;split at hv
 ·unfold eD at hv;split at hv<;>cases hv
 ·rename_i k _;split at hv
  ·cases hv
  ·split at hv
   ·cases hv;refine⟨Ho (js:=s.js++[gZ B o k t]) (by simpa using hg.more),by simp[eE],by simp[eE,jc,hs],by simp[eE]⟩
   ·split at hv
    ·cases hv
    ·cases hv;refine⟨⟨?_,fun q hq=>by simp[eE]at hq,fun a b c ha=>?_⟩,by simp[eE],by simp[eE,hs],by simp[eE]⟩
     ·simp only[eE,List.length_append,List.length_cons,List.length_nil];exact⟨by simp,by simp;omega,hg.more⟩
     ·simp only[eE,List.cons.injEq]at ha;rw[←ha.1];show(0:Int)≠5;decide
theorem Hr{B:ByteArray}{s s':PS}{o p:Op}{r:List Op}{t:Tok}(h:PI s)(hs:s.stack=o::p::r)(hv:jF B s o (p::r) t=.ok s'):PI s'∧s'.js.length≤s.js.length+1∧s'.stack.length≤s.stack.length+1∧s.js.length≤s'.js.length:=by
 unfold jF at hv;split at hv
 ·unfold eD at hv;split at hv<;>cases hv
 ·split at hv
  ·cases hv;exact⟨Hp (o:=o) h hs rfl rfl (by simp),by simp,by simp[hs],by simp⟩
  ·cases hv
theorem Ow{B:ByteArray}{m:Bd}{s s':PS}{t:Tok}(h:PI s)(ht:ca B m s t=.ok s'):PI s'∧s'.js.length≤s.js.length+1∧s'.stack.length≤s.stack.length+1∧s.js.length≤s'.js.length:=by
 have hg:=h.de;unfold ca at ht
 cases hs:s.stack with
 |nil=>rw[hs]at hg;exact absurd hg (by simp[j3])
 |cons o r=>
  rw[hs]at ht hg;simp only at ht;split at ht
  ·split at ht
   ·cases ht;exact⟨h,by omega,by rw[hs];simp,by omega⟩
   ·unfold eD at ht;split at ht<;>cases ht
  ·rename_i h5;split at ht
   ·rename_i h3;obtain⟨p,r',rfl⟩:=h.deep hs h5 (by omega);split at ht
    ·cases ht;exact⟨Hp (o:=o) h hs rfl rfl (by simp),by simp,by simp,by simp⟩
    ·unfold eD at ht;split at ht<;>cases ht
   ·split at ht
    ·rename_i h4;obtain⟨p,r',rfl⟩:=h.deep hs h5 (by omega);unfold kx at ht;split at ht
     ·cases ht;exact⟨Ho hg.tail,by simp,by simp[jc],by simp⟩
     ·split at ht
      ·unfold eD at ht;split at ht<;>cases ht
      ·cases ht;refine⟨Hp (o:=o) h hs rfl rfl ?_,by simp,by simp,by simp⟩;simp only;split<;>decide
    ·split at ht
     ·rename_i h0;obtain⟨p,r',rfl⟩:=h.deep hs h5 (by omega);split at ht
      ·cases ht;exact⟨Ho hg.tail,by simp,by simp[jc],by simp⟩
      ·split at ht
       ·have:=Hr h hs ht;rw[hs]at this;exact this
       ·have:=Hq h hs h5 ht;rw[hs]at this;exact this
     ·split at ht
      ·rename_i h2;obtain⟨p,r',rfl⟩:=h.deep hs h5 (by omega);have:=Hr h hs ht;rw[hs]at this;exact this
      ·have:=Hq h hs h5 ht;rw[hs]at this;exact this
theorem Ox:PI fG:=⟨⟨rfl,rfl⟩,fun q hq=>by simp only[fG,List.cons.injEq]at hq;rw[←hq.1];exact .inl ⟨rfl,rfl⟩,fun o p r h=>by simp[fG]at h⟩
section
variable{w0 w:World}{P D T:Nat}{bv:Value}{m:Bd}{s:PS}
theorem u_{r:Sc PS}{e:Ending}{w':World}(h:qd w0 w P D T bv m r e w'):∃v,e=.returned v∧(v=.nilIface∨∃u,v=.iface 85 (.pointer (some u))):=by
 cases r with
 |ok s=>exact⟨_,h.1,.inl rfl⟩
 |no k i=>obtain⟨u,h,_⟩:=h;exact⟨_,h,.inr ⟨u,rfl⟩⟩
end
theorem aaz(w0 w:World)(P D T:Nat)(bv:Value)(B:ByteArray)(m:Bd)(s:PS)(t:Tok)(h:PA w w0.heap.size P D T bv m s)(hc:PC w0 w bv B)(hi:PI s)(hl:s.stack.length≤1100000)(hz:B.size≤1100000)(hj:s.js.length≤1100000)(ht:∃i,b_ B i=.ok t):Calls Tryz.prog 50 #[an P,.agg #[.int .i64 t.kind,.int .i64 t.fr,.int .i64 t.cK]] w (qd w0 w P D T bv m (ca B m s t)):=by
 obtain⟨W1,aH⟩:∃W,w.alloc (.cells #[.int .i64 t.kind,.int .i64 t.fr,.int .i64 t.cK] 128)=W:=⟨_,rfl⟩;have b1:Below w.heap.size w W1:=by rw[←aH];exact aj (Below.refl _ _) _
 have j1:=hc.bl.size;have mg:Below w0.heap.size w W1:=b1.mono j1;have cx:∀j,W1.cell? ⟨w.heap.size,j,none⟩=(#[.int .i64 t.kind,.int .i64 t.fr,.int .i64 t.cK]:Array Value)[j]?:=fun j=>by rw[←aH];simp
 have z1:w.heap.size<W1.heap.size:=by rw[←aH];simp
 obtain⟨o,r,hs⟩:∃o r,s.stack=o::r:=by
  have:=hi.de
  cases hs:s.stack with
  |nil=>rw[hs]at this;exact absurd this (by simp[j3])
  |cons o r=>exact⟨o,r,rfl⟩
 have TP:=Lib.hid (Dn (h.below b1) hs hl);have HS:=Lib.hid hs;have HC:=Lib.hid hc;have aQ:=Lib.hid mg;have ia:=Lib.hid (bK.of b1);have HI:=Lib.hid hi;have HT:=Lib.hid ht;have dy:t.kind=7→∃x,fa B t=some x:=fun h7=>by obtain⟨i,hi⟩:=ht;exact NG hi h7
 have jJ:=Lib.hid dy;have j2:=hl;unfold ca;rw[hs];simp only;clear h hs hc hi ht dy b1 mg;have Dt:=Lib.hid (fun W(hW:Below w0.heap.size w W)(hp:PA W w0.heap.size P D T bv m s)=>aam w0 W P D T bv B m s o r t hp (HC.out.step hW) HS.out j2 hz jJ.out);have Oy:=Lib.hid (fun W(hW:Below w0.heap.size w W)(hp:PA W w0.heap.size P D T bv m s)(h5:o.st≠5)=>aau w0 W P D T bv B m s o r t hp (HC.out.step hW) HS.out j2 hz hj HT.out (HI.out.id HS.out h5))
 have Oz:=Lib.hid (fun W(hW:Below w0.heap.size w W)=>Dm (w0:=w0) (w:=W) (P:=P) (D:=D) (T:=T) (bv:=bv) (m:=m) t (HC.out.bl.trans hW));have ENDS:=Lib.hid (fun W(hp:PA W w0.heap.size P D T bv m s)=>zu t hp HS.out j2);by_cases h5:o.st=5
 ·rw[if_pos h5];by_cases h0:t.kind=0
  ·rw[if_pos h0];obtain⟨tk,tf,tt⟩:=t;simp only at cx aH h0;subst h0;go_enter Tryz.func50,Tryz.ntmps50;go_wp2_with fail;clear aH;refine TP.out.mono ?_;rintro e w2⟨b,tv,sv,q,ns,rfl,hp,ah⟩;have kD:=fun j=>(aK ah z1 j).trans (cx j);have z2:w.heap.size<w2.heap.size:=Nat.lt_of_lt_of_le z1 ah.size;have aP:=Lib.hid (aQ.out.trans (ah.mono (show w0.heap.size≤W1.heap.size by omega)));have ec:=Lib.hid (ia.out.trans (bK.of ah));have ho:=hp.ops 0 b o rfl (by rw[HS.out];rfl);have c2:=ho.c2;have c1:=ho.c1;have f2:=ho.fz 2
   have zb:=ak ho;have kE:=Lib.hid hp;have b9:=hp.h_ b (by simp);have iQ:=Lib.hid (show PA w2 w0.heap.size P D T bv m s from⟨_,_,_,_,hp⟩);clear ah hp ho;rw[h5]at c2;go_wp2;go_ret;exact⟨rfl,iQ.out,aP.out,ec.out⟩
  ·rw[if_neg h0];have t1:(t.kind==0)=false:=beq_eq_false_iff_ne.2 h0;obtain⟨tk,tf,tt⟩:=t;simp only at cx aH t1 h0;go_enter Tryz.func50,Tryz.ntmps50;go_wp2_with fail;clear aH;refine TP.out.mono ?_;rintro e w2⟨b,tv,sv,q,ns,rfl,hp,ah⟩;have kD:=fun j=>(aK ah z1 j).trans (cx j);have z2:w.heap.size<w2.heap.size:=Nat.lt_of_lt_of_le z1 ah.size;have aP:=Lib.hid (aQ.out.trans (ah.mono (show w0.heap.size≤W1.heap.size by omega)));have ec:=Lib.hid (ia.out.trans (bK.of ah))
   have ho:=hp.ops 0 b o rfl (by rw[HS.out];rfl);have c2:=ho.c2;have c1:=ho.c1;have f2:=ho.fz 2;have zb:=ak ho;have kE:=Lib.hid hp;have b9:=hp.h_ b (by simp);have iQ:=Lib.hid (show PA w2 w0.heap.size P D T bv m s from⟨_,_,_,_,hp⟩);clear ah hp ho;rw[h5]at c2;clear h0;go_wp2_with fail;refine(Oz.out w2 aP.out).mono ?_;intro e w4 cQ;obtain⟨v,rfl,_⟩:=u_ cQ;have gv:=Lib.hid (cQ.after aP.out ec.out);clear cQ;go_wp2;go_ret;exact gv.out
 rw[if_neg h5];by_cases h3:o.st=3
 ·rw[if_pos h3];by_cases h0:t.kind=5
  ·rw[if_pos h0];obtain⟨tk,tf,tt⟩:=t;simp only at cx aH h0;subst h0;go_enter Tryz.func50,Tryz.ntmps50;go_wp2_with fail;clear aH;refine TP.out.mono ?_;rintro e w2⟨b,tv,sv,q,ns,rfl,hp,ah⟩;have kD:=fun j=>(aK ah z1 j).trans (cx j);have z2:w.heap.size<w2.heap.size:=Nat.lt_of_lt_of_le z1 ah.size;have aP:=Lib.hid (aQ.out.trans (ah.mono (show w0.heap.size≤W1.heap.size by omega)));have ec:=Lib.hid (ia.out.trans (bK.of ah));have ho:=hp.ops 0 b o rfl (by rw[HS.out];rfl);have c2:=ho.c2;have c1:=ho.c1;have f2:=ho.fz 2
   have zb:=ak ho;have kE:=Lib.hid hp;have b9:=hp.h_ b (by simp);have iQ:=Lib.hid (show PA w2 w0.heap.size P D T bv m s from⟨_,_,_,_,hp⟩);clear ah hp ho;rw[h3]at c2;have fV:=kE.out.sY (o':={o with st:=1}) (j:=2) (u:=.int .i64 1) HS.out rfl;have kC:=Lib.hid (show PA _ w0.heap.size P D T bv m _ from⟨_,_,_,_,fV⟩);have HF:=Lib.hid (aP.out.setCell (p:=⟨b,2,none⟩) b9 (.int .i64 1))
   have jG:=Lib.hid (ec.out.set (p:=⟨b,2,none⟩) (kE.out.ops 0 b o rfl (by rw[HS.out];rfl)) (by decide) (.int .i64 1));clear fV;go_wp2;go_ret;exact⟨rfl,kC.out,HF.out,jG.out⟩
  ·rw[if_neg h0];have t1:(t.kind !=5)=true:=bne_iff_ne.2 h0;obtain⟨tk,tf,tt⟩:=t;simp only at cx aH t1 h0;go_enter Tryz.func50,Tryz.ntmps50;go_wp2_with fail;clear aH;refine TP.out.mono ?_;rintro e w2⟨b,tv,sv,q,ns,rfl,hp,ah⟩;have kD:=fun j=>(aK ah z1 j).trans (cx j);have z2:w.heap.size<w2.heap.size:=Nat.lt_of_lt_of_le z1 ah.size;have aP:=Lib.hid (aQ.out.trans (ah.mono (show w0.heap.size≤W1.heap.size by omega)));have ec:=Lib.hid (ia.out.trans (bK.of ah));have ho:=hp.ops 0 b o rfl (by rw[HS.out];rfl)
   have c2:=ho.c2;have c1:=ho.c1;have f2:=ho.fz 2;have zb:=ak ho;have kE:=Lib.hid hp;have b9:=hp.h_ b (by simp);have iQ:=Lib.hid (show PA w2 w0.heap.size P D T bv m s from⟨_,_,_,_,hp⟩);clear ah hp ho;rw[h3]at c2;clear h0;go_wp2_with fail;refine(Oz.out w2 aP.out).mono ?_;intro e w4 cQ;obtain⟨v,rfl,_⟩:=u_ cQ;have gv:=Lib.hid (cQ.after aP.out ec.out);clear cQ;go_wp2;go_ret;exact gv.out
 rw[if_neg h3];by_cases h4:o.st=4
 ·rw[if_pos h4];obtain⟨p,r',hr⟩:=HI.out.deep HS.out h5 (by omega);subst hr;have BTW:=Lib.hid (fun W(hW:Below w0.heap.size w W)(hp:PA W w0.heap.size P D T bv m s)=>aal w0 W P D T bv m s o p r' t hp (HC.out.bl.trans hW) HS.out j2);obtain⟨tk,tf,tt⟩:=t;simp only at cx aH;go_enter Tryz.func50,Tryz.ntmps50;go_wp2_with fail;clear aH;refine TP.out.mono ?_;rintro e w2⟨b,tv,sv,q,ns,rfl,hp,ah⟩;have kD:=fun j=>(aK ah z1 j).trans (cx j);have z2:w.heap.size<w2.heap.size:=Nat.lt_of_lt_of_le z1 ah.size
  have aP:=Lib.hid (aQ.out.trans (ah.mono (show w0.heap.size≤W1.heap.size by omega)));have ec:=Lib.hid (ia.out.trans (bK.of ah));have ho:=hp.ops 0 b o rfl (by rw[HS.out];rfl);have c2:=ho.c2;have c1:=ho.c1;have f2:=ho.fz 2;have zb:=ak ho;have kE:=Lib.hid hp;have b9:=hp.h_ b (by simp);have iQ:=Lib.hid (show PA w2 w0.heap.size P D T bv m s from⟨_,_,_,_,hp⟩);clear ah hp ho;rw[h4]at c2;go_wp2_with fail;refine(BTW.out w2 aP.out iQ.out).mono ?_;intro e w4 cQ;obtain⟨v,rfl,_⟩:=u_ cQ
  have gv:=Lib.hid (cQ.after aP.out ec.out);clear cQ;go_wp2;go_ret;exact gv.out
 rw[if_neg h4];by_cases h0:o.st=0
 ·rw[if_pos h0];obtain⟨p,r',hr⟩:=HI.out.deep HS.out h5 (by omega);subst hr
  cases he:iO o t with
  |true=>
   rw[if_pos rfl];rw[he]at ENDS;obtain⟨tk,tf,tt⟩:=t;simp only at cx aH;go_enter Tryz.func50,Tryz.ntmps50;go_wp2_with fail;clear aH;refine TP.out.mono ?_;rintro e w2⟨b,tv,sv,q,ns,rfl,hp,ah⟩;have kD:=fun j=>(aK ah z1 j).trans (cx j);have z2:w.heap.size<w2.heap.size:=Nat.lt_of_lt_of_le z1 ah.size;have aP:=Lib.hid (aQ.out.trans (ah.mono (show w0.heap.size≤W1.heap.size by omega)));have ec:=Lib.hid (ia.out.trans (bK.of ah));have ho:=hp.ops 0 b o rfl (by rw[HS.out];rfl);have c2:=ho.c2;have c1:=ho.c1
   have f2:=ho.fz 2;have zb:=ak ho;have kE:=Lib.hid hp;have b9:=hp.h_ b (by simp);have iQ:=Lib.hid (show PA w2 w0.heap.size P D T bv m s from⟨_,_,_,_,hp⟩);clear ah hp ho;rw[h0]at c2;go_wp2_with fail;refine(ENDS.out w2 iQ.out).mono ?_;rintro e w3⟨rfl,aw⟩;have PO:=Lib.hid (N6 w3 w0.heap.size P D T bv m s o p r' (iQ.out.below aw) HS.out j2);have cF:=Lib.hid (aP.out.trans (aw.mono (show w0.heap.size≤w2.heap.size by omega)));have gL:=Lib.hid (ec.out.trans (bK.of aw));clear aw;go_wp2_with fail;refine PO.out.mono ?_
   rintro e w4⟨rfl,cQ,aY,sZ⟩;have HF:=Lib.hid (cF.out.trans aY);have jG:=Lib.hid (gL.out.trans sZ);have gv:=Lib.hid cQ;clear aY cQ sZ;go_wp2;go_ret;exact⟨rfl,gv.out,HF.out,jG.out⟩
  |false=>
   rw[if_neg (by decide)];rw[he]at ENDS
   cases nH:o.obj with
   |true=>
    rw[if_pos rfl];obtain⟨tk,tf,tt⟩:=t;simp only at cx aH;go_enter Tryz.func50,Tryz.ntmps50;go_wp2_with fail;clear aH;refine TP.out.mono ?_;rintro e w2⟨b,tv,sv,q,ns,rfl,hp,ah⟩;have kD:=fun j=>(aK ah z1 j).trans (cx j);have z2:w.heap.size<w2.heap.size:=Nat.lt_of_lt_of_le z1 ah.size;have aP:=Lib.hid (aQ.out.trans (ah.mono (show w0.heap.size≤W1.heap.size by omega)));have ec:=Lib.hid (ia.out.trans (bK.of ah));have ho:=hp.ops 0 b o rfl (by rw[HS.out];rfl);have c2:=ho.c2;have c1:=ho.c1;have f2:=ho.fz 2
    have zb:=ak ho;have kE:=Lib.hid hp;have b9:=hp.h_ b (by simp);have iQ:=Lib.hid (show PA w2 w0.heap.size P D T bv m s from⟨_,_,_,_,hp⟩);clear ah hp ho;rw[h0]at c2;rw[nH]at c1;go_wp2_with fail;refine(ENDS.out w2 iQ.out).mono ?_;rintro e w3⟨rfl,aw⟩;have d1:=(aK aw zb 1).trans c1;have s4:=fun j=>(aK aw z2 j).trans (kD j);have cF:=Lib.hid (aP.out.trans (aw.mono (show w0.heap.size≤w2.heap.size by omega)));have gL:=Lib.hid (ec.out.trans (bK.of aw));have Hs:=Lib.hid (iQ.out.below aw);clear aw;go_wp2_with fail
    refine(Dt.out w3 cF.out Hs.out).mono ?_;intro e w4 cQ;obtain⟨v,rfl,_⟩:=u_ cQ;have gv:=Lib.hid (cQ.after cF.out gL.out);clear cQ;go_wp2;go_ret;exact gv.out
   |false=>
    rw[if_neg (by decide)];obtain⟨tk,tf,tt⟩:=t;simp only at cx aH;go_enter Tryz.func50,Tryz.ntmps50;go_wp2_with fail;clear aH;refine TP.out.mono ?_;rintro e w2⟨b,tv,sv,q,ns,rfl,hp,ah⟩;have kD:=fun j=>(aK ah z1 j).trans (cx j);have z2:w.heap.size<w2.heap.size:=Nat.lt_of_lt_of_le z1 ah.size;have aP:=Lib.hid (aQ.out.trans (ah.mono (show w0.heap.size≤W1.heap.size by omega)));have ec:=Lib.hid (ia.out.trans (bK.of ah));have ho:=hp.ops 0 b o rfl (by rw[HS.out];rfl);have c2:=ho.c2;have c1:=ho.c1;have f2:=ho.fz 2
    have zb:=ak ho;have kE:=Lib.hid hp;have b9:=hp.h_ b (by simp);have iQ:=Lib.hid (show PA w2 w0.heap.size P D T bv m s from⟨_,_,_,_,hp⟩);clear ah hp ho;rw[h0]at c2;rw[nH]at c1;go_wp2_with fail;refine(ENDS.out w2 iQ.out).mono ?_;rintro e w3⟨rfl,aw⟩;have d1:=(aK aw zb 1).trans c1;have s4:=fun j=>(aK aw z2 j).trans (kD j);have cF:=Lib.hid (aP.out.trans (aw.mono (show w0.heap.size≤w2.heap.size by omega)));have gL:=Lib.hid (ec.out.trans (bK.of aw));have Hs:=Lib.hid (iQ.out.below aw);clear aw;go_wp2_with fail
    refine(Oy.out w3 cF.out Hs.out h5).mono ?_;intro e w4 cQ;obtain⟨v,rfl,_⟩:=u_ cQ;have gv:=Lib.hid (cQ.after cF.out gL.out);clear cQ;go_wp2;go_ret;exact gv.out
 rw[if_neg h0];by_cases h2:o.st=2
 ·rw[if_pos h2];obtain⟨tk,tf,tt⟩:=t;simp only at cx aH;go_enter Tryz.func50,Tryz.ntmps50;go_wp2_with fail;clear aH;refine TP.out.mono ?_;rintro e w2⟨b,tv,sv,q,ns,rfl,hp,ah⟩;have kD:=fun j=>(aK ah z1 j).trans (cx j);have z2:w.heap.size<w2.heap.size:=Nat.lt_of_lt_of_le z1 ah.size;have aP:=Lib.hid (aQ.out.trans (ah.mono (show w0.heap.size≤W1.heap.size by omega)));have ec:=Lib.hid (ia.out.trans (bK.of ah));have ho:=hp.ops 0 b o rfl (by rw[HS.out];rfl);have c2:=ho.c2;have c1:=ho.c1;have f2:=ho.fz 2
  have zb:=ak ho;have kE:=Lib.hid hp;have b9:=hp.h_ b (by simp);have iQ:=Lib.hid (show PA w2 w0.heap.size P D T bv m s from⟨_,_,_,_,hp⟩);clear ah hp ho;rw[h2]at c2;go_wp2_with fail;refine(Dt.out w2 aP.out iQ.out).mono ?_;intro e w4 cQ;obtain⟨v,rfl,_⟩:=u_ cQ;have gv:=Lib.hid (cQ.after aP.out ec.out);clear cQ;go_wp2;go_ret;exact gv.out
 ·rw[if_neg h2];have t5:(o.st==5)=false:=beq_eq_false_iff_ne.2 h5;have t3:(o.st==3)=false:=beq_eq_false_iff_ne.2 h3;have t4:(o.st==4)=false:=beq_eq_false_iff_ne.2 h4;have t0:(o.st==0)=false:=beq_eq_false_iff_ne.2 h0;have t2:(o.st==2)=false:=beq_eq_false_iff_ne.2 h2;have H5:=Lib.hid h5;clear h5 h3 h4 h0 h2;obtain⟨tk,tf,tt⟩:=t;simp only at cx aH;go_enter Tryz.func50,Tryz.ntmps50;go_wp2_with fail;clear aH;refine TP.out.mono ?_;rintro e w2⟨b,tv,sv,q,ns,rfl,hp,ah⟩
  have kD:=fun j=>(aK ah z1 j).trans (cx j);have z2:w.heap.size<w2.heap.size:=Nat.lt_of_lt_of_le z1 ah.size;have aP:=Lib.hid (aQ.out.trans (ah.mono (show w0.heap.size≤W1.heap.size by omega)));have ec:=Lib.hid (ia.out.trans (bK.of ah));have ho:=hp.ops 0 b o rfl (by rw[HS.out];rfl);have c2:=ho.c2;have c1:=ho.c1;have f2:=ho.fz 2;have zb:=ak ho;have kE:=Lib.hid hp;have b9:=hp.h_ b (by simp);have iQ:=Lib.hid (show PA w2 w0.heap.size P D T bv m s from⟨_,_,_,_,hp⟩);clear ah hp ho;go_wp2_with fail
  refine(Oy.out w2 aP.out iQ.out H5.out).mono ?_;intro e w4 cQ;obtain⟨v,rfl,_⟩:=u_ cQ;have gv:=Lib.hid (cQ.after aP.out ec.out);clear cQ;go_wp2;go_ret;exact gv.out
end Go.Proofs.YtcaiibkgajhohaaGreatDoor
