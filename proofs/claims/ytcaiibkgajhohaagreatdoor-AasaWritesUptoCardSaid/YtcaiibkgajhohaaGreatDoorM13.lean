/- waybill: lemmas and walks, printed from longer texts. -/
import Derived.Test.YtcaiibkgajhohaaGreatDoorM12
set_option maxRecDepth 100000
set_option maxHeartbeats 8000000
namespace Go.Proofs.YtcaiibkgajhohaaGreatDoor
open Go.RowKit
def qd(w0 w:World)(P D T:Nat)(bv:Value)(m:Bd)(r:Sc PS)(e:Ending)(w':World):Prop:=match r with
  |.ok s=>e=.returned .nilIface∧PA w' w0.heap.size P D T bv m s∧Below w0.heap.size w w'∧bK w w'
  |.no k i=>∃u,e=.returned (.iface 85 (.pointer (some u)))∧dK w0 k i (.iface 85 (.pointer (some u))) w'
section
variable{w0 w w':World}{base P D T:Nat}{bv:Value}{m:Bd}{s:PS}{r:Sc PS}
theorem PA.below(h:PA w base P D T bv m s)(hb:Below w.heap.size w w'):PA w' base P D T bv m s:=by obtain⟨tv,sv,os,ns,h⟩:=h;exact⟨tv,sv,os,ns,h.below hb⟩
theorem PA.drewN(h:PA w base P D T bv m s)(n:Nat):PA (w.drewN n) base P D T bv m s:=h.below (j0 _ n)
theorem qd.after{w1:World}{e:Ending}(hb:Below w0.heap.size w w1)(hk:bK w w1)(h:qd w0 w1 P D T bv m r e w'):qd w0 w P D T bv m r e w':=by
 cases r with
 |ok s=>exact⟨h.1,h.2.1,hb.trans h.2.2.1,hk.trans h.2.2.2⟩
 |no k i=>exact h
theorem Dm(t:Tok)(hb:Below w0.heap.size w0 w):Calls Tryz.prog 84 #[.agg #[.int .i64 t.kind,.int .i64 t.fr,.int .i64 t.cK]] w (qd w0 w P D T bv m (eD t)):=by
 refine(aaf t w).mono ?_;rintro e w1⟨u,rfl,hf⟩;obtain⟨p,rfl⟩:=hf.form;have sW:=hf.after hb;unfold eD;by_cases h0:t.kind=0
 ·rw[if_pos h0]at sW⊢;exact⟨p,rfl,sW⟩
 ·rw[if_neg h0]at sW⊢;exact⟨p,rfl,sW⟩
theorem N7{k:Nat}{i:Int}(hb:Below w0.heap.size w0 w):Calls Tryz.prog 42 #[.int .i64 k,.int .i64 i] w (qd w0 w P D T bv m (.no k i)):=by refine(fails k i w).mono ?_;rintro e w1⟨u,rfl,hf⟩;obtain⟨p,rfl⟩:=hf.form;exact⟨p,rfl,hf.after hb⟩
theorem Hd{α:Type}(t:Tok):∃k:Nat,(eD t:Sc α)=.no k t.fr:=by
 unfold eD;split
 ·exact⟨_,rfl⟩
 ·exact⟨_,rfl⟩
theorem Dn(h:PA w base P D T bv m s){o:Op}{r:List Op}(hs:s.stack=o::r)(hl:s.stack.length≤1100000):Calls Tryz.prog 83 #[an P] w fun e w'=>∃b tv sv q ns,e=.returned (an b)∧bQ w' base P D T bv m s tv sv (b::q) ns∧Below w.heap.size w w':=by obtain⟨tv,sv,os,ns,h⟩:=h;obtain⟨b,q,rfl,ho⟩:=h.top hs;(have uW:q.length≤1100000:=by have:=h.len;simp at this;omega);refine(Hb w base P D T b bv tv sv m s q ns h uW).mono ?_;rintro e w1⟨rfl,n,rfl⟩;exact⟨b,tv,sv,q,ns,rfl,h.drewN n,j0 _ n⟩
theorem zu(t:Tok)(h:PA w base P D T bv m s){o:Op}{r:List Op}(hs:s.stack=o::r)(hl:s.stack.length≤1100000):Calls Tryz.prog 86 #[an P,.agg #[.int .i64 t.kind,.int .i64 t.fr,.int .i64 t.cK]] w fun e w'=>e=.returned (.bool (iO o t))∧Below w.heap.size w w':=by obtain⟨tv,sv,os,ns,h⟩:=h;exact aah w base P D T bv tv sv m s os ns o r t h hs hl
end
theorem aal(w0 w:World)(P D T:Nat)(bv:Value)(m:Bd)(s:PS)(o p:Op)(r:List Op)(t:Tok)(h:PA w w0.heap.size P D T bv m s)(hb:Below w0.heap.size w0 w)(hs:s.stack=o::p::r)(hl:s.stack.length≤1100000):Calls Tryz.prog 85 #[an P,.agg #[.int .i64 t.kind,.int .i64 t.fr,.int .i64 t.cK]] w (qd w0 w P D T bv m (kx s o (p::r) t)):=by
 obtain⟨W1,aH⟩:∃W,w.alloc (.cells (#[.int .i64 t.kind,.int .i64 t.fr,.int .i64 t.cK]) 128)=W:=⟨_,rfl⟩;have b1:Below w.heap.size w W1:=by rw[←aH];exact aj (Below.refl _ _) _
 have j1:=hb.size;have mg:Below w0.heap.size w W1:=b1.mono j1;have bx:∀j,W1.cell? ⟨w.heap.size,j,none⟩=(#[.int .i64 t.kind,.int .i64 t.fr,.int .i64 t.cK]:Array Value)[j]?:=fun j=>by rw[←aH];simp
 have z1:w.heap.size<W1.heap.size:=by rw[←aH];simp
 have TP:=Lib.hid (Dn (h.below b1) hs hl);have HS:=Lib.hid hs;have HB:=Lib.hid hb;have aQ:=Lib.hid mg;have ia:=Lib.hid (bK.of b1);have j2:=hl;obtain⟨tk,tf,tt⟩:=t;simp only at bx aH;clear h hs hb b1 mg;have cs:(iO o ⟨tk,tf,tt⟩=true)∨(iO o ⟨tk,tf,tt⟩=false∧(tk !=6)=true)∨(iO o ⟨tk,tf,tt⟩=false∧(tk !=6)=false∧o.obj=true)∨(iO o ⟨tk,tf,tt⟩=false∧(tk !=6)=false∧o.obj=false):=by cases iO o ⟨tk,tf,tt⟩<;>cases(tk !=6)<;>cases o.obj<;>simp
 unfold kx;rcases cs with h1|⟨h1,h2⟩|⟨h1,h2,h3⟩|⟨h1,h2,h3⟩
 ·rw[if_pos h1];go_enter Tryz.func85,Tryz.ntmps85;go_wp2_with fail;clear aH;refine TP.out.mono ?_;rintro e w2⟨b,tv,sv,q,ns,rfl,hp,ah⟩;have cx:=fun j=>(aK ah z1 j).trans (bx j);have z2:w.heap.size<w2.heap.size:=Nat.lt_of_lt_of_le z1 ah.size;have EN:=zu ⟨tk,tf,tt⟩ ⟨_,_,_,_,hp⟩ HS.out j2;rw[h1]at EN;have EN:=Lib.hid EN;have HP:=Lib.hid hp;have aP:=Lib.hid (aQ.out.trans (ah.mono (by have:=aQ.out.size;omega)));have ec:=Lib.hid (ia.out.trans (bK.of ah));clear hp ah;go_wp2_with fail;refine EN.out.mono ?_
  rintro e w3⟨rfl,aw⟩;have PO:=Lib.hid (N6 w3 w0.heap.size P D T bv m s o p r ⟨_,_,_,_,HP.out.below aw⟩ HS.out j2);have cF:=Lib.hid (aP.out.trans (aw.mono (by have:=aP.out.size;omega)));have gL:=Lib.hid (ec.out.trans (bK.of aw));clear aw;go_wp2_with fail;refine PO.out.mono ?_;rintro e w4⟨rfl,cQ,aY,sZ⟩;have HF:=Lib.hid (cF.out.trans aY);have jG:=Lib.hid (gL.out.trans sZ);have gv:=Lib.hid cQ;clear aY cQ sZ;go_wp2;go_ret;exact⟨rfl,gv.out,HF.out,jG.out⟩
 ·rw[if_neg (by rw[h1];decide),if_pos (by simpa using h2)];obtain⟨k,hk⟩:=Hd (α:=PS) ⟨tk,tf,tt⟩;simp only at hk;rw[hk];have HK:=Lib.hid hk;clear hk;go_enter Tryz.func85,Tryz.ntmps85;go_wp2_with fail;clear aH;refine TP.out.mono ?_;rintro e w2⟨b,tv,sv,q,ns,rfl,hp,ah⟩;have cx:=fun j=>(aK ah z1 j).trans (bx j);have z2:w.heap.size<w2.heap.size:=Nat.lt_of_lt_of_le z1 ah.size;have EN:=zu ⟨tk,tf,tt⟩ ⟨_,_,_,_,hp⟩ HS.out j2;rw[h1]at EN;have EN:=Lib.hid EN;have HP:=Lib.hid hp
  have aP:=Lib.hid (aQ.out.trans (ah.mono (by have:=aQ.out.size;omega)));have ec:=Lib.hid (ia.out.trans (bK.of ah));clear hp ah;go_wp2_with fail;refine EN.out.mono ?_;rintro e w3⟨rfl,aw⟩;have s4:=fun j=>(aK aw z2 j).trans (cx j);have cF:=Lib.hid (aP.out.trans (aw.mono (by have:=aP.out.size;omega)));have gL:=Lib.hid (ec.out.trans (bK.of aw));have WR:=Dm (P:=P) (D:=D) (T:=T) (bv:=bv) (m:=m) ⟨tk,tf,tt⟩ (HB.out.trans cF.out);rw[HK.out]at WR;have WR:=Lib.hid WR;clear aw;go_wp2_with fail
  refine WR.out.mono ?_;rintro e w4⟨u,rfl,hf⟩;have HF:=Lib.hid hf;clear hf;go_wp2;go_ret;exact⟨u,rfl,HF.out⟩
 ·rw[if_neg (by rw[h1];decide),if_neg (by simpa using h2)];rw[h3];go_enter Tryz.func85,Tryz.ntmps85;go_wp2_with fail;clear aH;refine TP.out.mono ?_;rintro e w2⟨b,tv,sv,q,ns,rfl,hp,ah⟩;have cx:=fun j=>(aK ah z1 j).trans (bx j);have z2:w.heap.size<w2.heap.size:=Nat.lt_of_lt_of_le z1 ah.size;have EN:=zu ⟨tk,tf,tt⟩ ⟨_,_,_,_,hp⟩ HS.out j2;rw[h1]at EN;have EN:=Lib.hid EN;have HP:=Lib.hid hp;have aP:=Lib.hid (aQ.out.trans (ah.mono (by have:=aQ.out.size;omega)))
  have ec:=Lib.hid (ia.out.trans (bK.of ah));clear hp ah;go_wp2_with fail;refine EN.out.mono ?_;rintro e w3⟨rfl,aw⟩;have fV:=HP.out.below aw;have s4:=fun j=>(aK aw z2 j).trans (cx j);obtain⟨b',q',e,ho⟩:=fV.top HS.out;obtain⟨rfl,rfl⟩:b=b'∧q=q':=by simpa using e
  have c1:=ho.c1;rw[h3]at c1;have c2:=ho.c2;have f2:=ho.fz 2;have b9:=fV.h_ b (by simp);have cF:=Lib.hid (aP.out.trans (aw.mono (by have:=aP.out.size;omega)));have gL:=Lib.hid (ec.out.trans (bK.of aw));have cQ:=fV.sY (o':={o with st:=2}) (j:=2) (u:=.int .i64 2) HS.out rfl;rw[h3]at cQ;have gv:=Lib.hid (show PA _ w0.heap.size P D T bv m _ from⟨_,_,_,_,cQ⟩);have HF:=Lib.hid (cF.out.setCell (p:=⟨b,2,none⟩) b9 (.int .i64 2))
  have jG:=Lib.hid (gL.out.set (p:=⟨b,2,none⟩) ho (by decide) (.int .i64 2));have ry:=ak ho;clear aw fV cQ e ho HP EN b9;go_wp2;go_ret;exact⟨rfl,gv.out,HF.out,jG.out⟩
 ·rw[if_neg (by rw[h1];decide),if_neg (by simpa using h2)];rw[h3];go_enter Tryz.func85,Tryz.ntmps85;go_wp2_with fail;clear aH;refine TP.out.mono ?_;rintro e w2⟨b,tv,sv,q,ns,rfl,hp,ah⟩;have cx:=fun j=>(aK ah z1 j).trans (bx j);have z2:w.heap.size<w2.heap.size:=Nat.lt_of_lt_of_le z1 ah.size;have EN:=zu ⟨tk,tf,tt⟩ ⟨_,_,_,_,hp⟩ HS.out j2;rw[h1]at EN;have EN:=Lib.hid EN;have HP:=Lib.hid hp;have aP:=Lib.hid (aQ.out.trans (ah.mono (by have:=aQ.out.size;omega)))
  have ec:=Lib.hid (ia.out.trans (bK.of ah));clear hp ah;go_wp2_with fail;refine EN.out.mono ?_;rintro e w3⟨rfl,aw⟩;have fV:=HP.out.below aw;have s4:=fun j=>(aK aw z2 j).trans (cx j);obtain⟨b',q',e,ho⟩:=fV.top HS.out;obtain⟨rfl,rfl⟩:b=b'∧q=q':=by simpa using e
  have c1:=ho.c1;rw[h3]at c1;have c2:=ho.c2;have f2:=ho.fz 2;have b9:=fV.h_ b (by simp);have cF:=Lib.hid (aP.out.trans (aw.mono (by have:=aP.out.size;omega)));have gL:=Lib.hid (ec.out.trans (bK.of aw));have cQ:=fV.sY (o':={o with st:=1}) (j:=2) (u:=.int .i64 1) HS.out rfl;rw[h3]at cQ;have gv:=Lib.hid (show PA _ w0.heap.size P D T bv m _ from⟨_,_,_,_,cQ⟩);have HF:=Lib.hid (cF.out.setCell (p:=⟨b,2,none⟩) b9 (.int .i64 1))
  have jG:=Lib.hid (gL.out.set (p:=⟨b,2,none⟩) ho (by decide) (.int .i64 1));have ry:=ak ho;clear aw fV cQ e ho HP EN b9;go_wp2;go_ret;exact⟨rfl,gv.out,HF.out,jG.out⟩
structure PC(w0 w:World)(bv:Value)(B:ByteArray):Prop where
 env:gI w0
 rd:Rd (Own w0) w0 bv (dF B)
 bl:Below w0.heap.size w0 w
theorem PC.step{w0 w w':World}{bv:Value}{B:ByteArray}(h:PC w0 w bv B)(hb:Below w0.heap.size w w'):PC w0 w' bv B:=⟨h.env,h.rd,h.bl.trans hb⟩
theorem PC.text{w0 w:World}{bv:Value}{B:ByteArray}(h:PC w0 w bv B)(hz:B.size≤1100000)(t:Tok):Calls Tryz.prog 122 #[bv,.agg #[.int .i64 t.kind,.int .i64 t.fr,.int .i64 t.cK]] w (N4 w (fa B t) t.fr):=aac bv B t w (h.rd.ext h.bl) (h.env.ext h.bl) hz
theorem aam(w0 w:World)(P D T:Nat)(bv:Value)(B:ByteArray)(m:Bd)(s:PS)(o:Op)(r:List Op)(t:Tok)(h:PA w w0.heap.size P D T bv m s)(hc:PC w0 w bv B)(hs:s.stack=o::r)(hl:s.stack.length≤1100000)(hz:B.size≤1100000)(dy:t.kind=7→∃x,fa B t=some x):Calls Tryz.prog 89 #[an P,.agg #[.int .i64 t.kind,.int .i64 t.fr,.int .i64 t.cK]] w (qd w0 w P D T bv m (jF B s o r t)):=by
 obtain⟨W1,aH⟩:∃W,w.alloc (.cells #[.int .i64 t.kind,.int .i64 t.fr,.int .i64 t.cK] 128)=W:=⟨_,rfl⟩;have b1:Below w.heap.size w W1:=by rw[←aH];exact aj (Below.refl _ _) _
 have j1:=hc.bl.size;have mg:Below w0.heap.size w W1:=b1.mono j1;have bx:∀j,W1.cell? ⟨w.heap.size,j,none⟩=(#[.int .i64 t.kind,.int .i64 t.fr,.int .i64 t.cK]:Array Value)[j]?:=fun j=>by rw[←aH];simp
 have z1:w.heap.size<W1.heap.size:=by rw[←aH];simp
 have TP:=Lib.hid (Dn (h.below b1) hs hl);have HS:=Lib.hid hs;have HC:=Lib.hid hc;have aQ:=Lib.hid mg;have ia:=Lib.hid (bK.of b1);have j2:=hl;unfold jF;by_cases h7:t.kind=7
 ·obtain⟨x,hx⟩:=dy h7;rw[if_neg (by simpa using h7),hx];have HX:=Lib.hid hx;obtain⟨tk,tf,tt⟩:=t;simp only at bx aH h7;subst h7;clear h hs hc b1 mg dy hx;go_enter Tryz.func89,Tryz.ntmps89;go_wp2_with fail;clear aH;refine TP.out.mono ?_;rintro e w2⟨b,tv,sv,q,ns,rfl,hp,ah⟩;have cx:=fun j=>(aK ah z1 j).trans (bx j);have z2:w.heap.size<w2.heap.size:=Nat.lt_of_lt_of_le z1 ah.size;have aP:=Lib.hid (aQ.out.trans (ah.mono (by have:=aQ.out.size;omega)));have ec:=Lib.hid (ia.out.trans (bK.of ah))
  obtain⟨b',q',e,ho⟩:=hp.top HS.out;obtain⟨rfl,rfl⟩:b=b'∧q=q':=by simpa using e
  have b9:=hp.h_ b (by simp);have c2:=ho.c2;have f2:=ho.fz 2;have fV:=hp.sY (o':={o with st:=3}) (j:=2) (u:=.int .i64 3) HS.out rfl;have hne:b≠w.heap.size:=fun e=>by have h1:=ho.c3;rw[e]at h1;have h2:=cx 3;rw[h1]at h2;simp at h2
  have ry:=ak ho;obtain⟨W3,bY⟩:∃W,w2.setCell ⟨b,2,none⟩ (.int .i64 3)=W:=⟨_,rfl⟩;have aw:Below w0.heap.size w2 W3:=by rw[←bY];exact(Below.refl _ _).setCell (p:=⟨b,2,none⟩) b9 _
  have gL:Hid (bK w W3):=Lib.hid (by rw[←bY];exact ec.out.set (p:=⟨b,2,none⟩) ho (by decide) _);have HC3:=Lib.hid ((HC.out.step aP.out).step aw);have s4:∀j,W3.cell? ⟨w.heap.size,j,none⟩=(#[.int .i64 7,.int .i64 tf,.int .i64 tt]:Array Value)[j]?:=fun j=>by rw[←bY,kl (Below.heap_setCell _ _ _ _ (fun e=>hne e.symm))];exact cx j
  rw[bY]at fV;have z3:w.heap.size<W3.heap.size:=by rw[←bY];simpa using z2
  have zP:=ak fV.box;have cP:=fV.c0;have d_:=fV.ops 0 b _ rfl rfl;have c3:=d_.c3;have f3:=d_.fz 3;have zb:=ak d_;have kC:=Lib.hid fV;have TX:=Lib.hid (fun n=>by have:=(HC3.out.step (j0 _ n)).text hz ⟨7,tf,tt⟩;rw[HX.out]at this;exact this);have cF:=Lib.hid (aP.out.trans aw);simp only at c3;clear ah ho hp fV e d_ aw cx bx TP HS;go_wp2_with fail;clear bY c2 f2;have N8:P≠b:=fp kC.out.box (kC.out.ops 0 b _ rfl rfl) (by decide)
  go_region_with(go_at_call 122;refine(TX.out _).mono ?_;rintro e w4⟨rfl,aY⟩;have k1:=(aK aY zP 0).trans cP;have k2:=fun j=>(aK aY z3 j).trans (s4 j);have k3:=(aK aY zb 3).trans c3;have k4:=(oC aY zb 3).trans f3;have dx:=Lib.hid aY;clear aY)
  all_goals
   have cQ:=((kC.out.drewN _).below dx.out).sY (o:={o with st:=3}) (o':={o with st:=3,key:=x}) (j:=3) (u:=.string x) rfl rfl;have aY:=dx.out;have HF:Hid (Below w0.heap.size w _):=Lib.hid ((cF.out.trans (((j0 _ _).trans (aY.mono (by show w0.heap.size≤W3.heap.size;omega))))).setCell (p:=⟨b,3,none⟩) b9 (.string x))
   have jG:=Lib.hid (((gL.out.drew _).trans (bK.of aY)).set (p:=⟨b,3,none⟩) (((kC.out.drewN _).below aY).ops 0 b {o with st:=3} rfl rfl) (by decide) (.string x));have gv:=Lib.hid cQ;clear cQ aY dx;go_wp2;go_ret;exact⟨rfl,⟨_,_,_,_,gv.out.keep (fun _ _ _=>rfl)⟩,HF.out.trans ⟨rfl,rfl,rfl,Nat.le_refl _,fun _ _=>rfl⟩,jG.out⟩
 ·obtain⟨k,hk⟩:=Hd (α:=PS) t;rw[if_pos (by simpa using h7),hk];have HK:=Lib.hid hk;obtain⟨tk,tf,tt⟩:=t;simp only at bx aH h7 HK;have t1:(tk !=7)=true:=bne_iff_ne.2 h7;have WR:=Dm (P:=P) (D:=D) (T:=T) (bv:=bv) (m:=m) ⟨tk,tf,tt⟩ (HC.out.bl.trans aQ.out);rw[HK.out]at WR;have WR:=Lib.hid WR;clear h hs hc b1 mg dy hk h7 TP;go_enter Tryz.func89,Tryz.ntmps89;go_wp2_with fail;refine WR.out.mono ?_;rintro e w4⟨u,rfl,hf⟩;have HF:=Lib.hid hf;clear hf;go_wp2;go_ret;exact⟨u,rfl,HF.out⟩
theorem aao{ns:List aW}{u:Nat}{v:Value}(hu:u<ns.length):(addN ns u v).map aW.val=ns.map aW.val++[v]:=by
 obtain⟨a,ha⟩:=bN ns u hu;have hl:=NF (v:=v) hu;apply List.ext_getElem?;intro i;by_cases hi:i<ns.length
 ·obtain⟨b,hb⟩:=bN (addN ns u v) i (by omega);rcases GN ha i b hb with⟨e,_⟩|⟨_,c,hc,hv,_⟩
  ·omega
  ·rw[List.getElem?_map,hb,List.getElem?_append_left (by simpa using hi),List.getElem?_map,hc];simp[hv]
 ·by_cases he:i=ns.length
  ·subst he;obtain⟨b,hb⟩:=bN (addN ns u v) ns.length (by omega);rcases GN ha _ b hb with⟨_,rfl⟩|⟨h,_⟩
   ·rw[List.getElem?_map,hb,List.getElem?_append_right (by simp)];simp
   ·omega
  ·rw[List.getElem?_eq_none (by simp;omega),List.getElem?_eq_none (by simp;omega)]
theorem N9{aa:List Nat}{u:Nat}(h:dL aa)(hu:u<aa.length):dL (aa++[u]):=by
 intro i x hi hx;by_cases hl:i<aa.length
 ·rw[List.getElem?_append_left hl]at hx;exact h i x hi hx
 ·rw[List.getElem?_append_right (by omega)]at hx
  cases hh:i-aa.length with
  |zero=>rw[hh]at hx;simp at hx;omega
  |succ n=>rw[hh]at hx;simp at hx
section
variable{w w':World}{base P D T:Nat}{bv tv oU sv:Value}{m:Bd}{s:PS}{os:List Nat}{ns oV:List aW}
theorem bQ.new(h:bQ w base P D T bv m s tv sv os ns)(ht:bJ w' T oU oV m.nodes)(ho:ag (TB T tv) w w'){js:List JN}{aa:List Nat}(hg:p4 oV aa)(hw:dL aa)(hv:oV.map aW.val=js.map JN.val)(hne:js≠[]):bQ w' base P D T bv m ⟨js,aa,s.stack⟩ oU sv os oV:=by
 have hk:∀{k:Nat}{cs:Array Value}{U:TypeId}{f:Nat×Nat},w.heap[k]?=some (.cells cs U f)→U≠172→U≠228→w'.heap[k]?=some (.cells cs U f):=fun{k cs U f}hb h1 h2=>by
  rw[ho.block k (ak hb) (fun e=>?_)];exact hb;rcases e with rfl|e
  ·exact fp hb h.tree.box h1 rfl
  ·obtain⟨cur,hc⟩:=nE h.tree.own e;exact fp hb hc h2 rfl
 refine⟨hk h.box (by decide) (by decide),hk h.doc (by decide) (by decide),ht,hg,hw,hv,?_,h.len,fun i b o hb hs=>hk (h.ops i b o hb hs) (by decide) (by decide),h.nd,h.qa,h.qc,h.mf,h.h_,fun e=>absurd e hne⟩;refine bu h.row (fun g hg=>?_) (Nat.le_refl _);obtain⟨cur,hc⟩:=nE h.row hg;rw[hc];exact hk hc (by decide) (by decide)
theorem He{X:Nat}{cs:Array Value}{U:TypeId}{f:Nat×Nat}(h:bQ w base P D T bv m s tv sv os ns)(ho:ag (TB T tv) w w')(hX:w.heap[X]?=some (.cells cs U f))(h1:U≠172)(h2:U≠228):w'.heap[X]?=some (.cells cs U f):=by
 rw[ho.block X (ak hX) (fun e=>?_)];exact hX;rcases e with rfl|e
 ·exact fp hX h.tree.box h1 rfl
 ·obtain⟨cur,hc⟩:=nE h.tree.own e;exact fp hX hc h2 rfl
theorem bQ.push{wa w2:World}{bn:Nat}{o:Op}{zv:Value}(h:bQ w base P D T bv m s tv sv os ns)(zw:Below w.heap.size w wa)(p9:wa.heap[bn]?=some (.cells (sX o) 126 (0,0)))(N_:w.heap.size≤bn)(dE:base≤w.heap.size)(hg:wa.grownBy w2 sv.ownBlock)(az:w2.ownsRow base 123 1 zv (os.length+1) ((os.map an).reverse++[an bn])):bQ (w2.setCell ⟨P,5,none⟩ zv) base P D T bv m {s with stack:=o::s.stack} tv zv (bn::os) ns:=by
 have hP:=h.box;have lf:∀{k:Nat}{cs:Array Value}{U:TypeId}{f:Nat×Nat},wa.heap[k]?=some (.cells cs U f)→U≠123→w2.heap[k]?=some (.cells cs U f):=fun{k cs U f}hb h1=>by rw[hg.block k (ak hb) (fun e=>?_)];exact hb;obtain⟨cur,hc⟩:=nE h.row e.symm;(have hc':wa.heap[k]?=some (.cells cur 123 (0,0)):=by rw[zw.block k (ak hc)];exact hc);exact fp hb hc' h1 rfl
 have jD:∀{k:Nat}{cs:Array Value}{U:TypeId}{f:Nat×Nat},w.heap[k]?=some (.cells cs U f)→wa.heap[k]?=some (.cells cs U f):=fun{k cs U f}hb=>by rw[zw.block k (ak hb)];exact hb
 have hk:∀{k:Nat}{cs:Array Value}{U:TypeId}{f:Nat×Nat},w.heap[k]?=some (.cells cs U f)→U≠123→U≠122→(w2.setCell ⟨P,5,none⟩ zv).heap[k]?=some (.cells cs U f):=fun{k cs U f}hb h1 h2=>by rw[Below.heap_setCell _ _ _ _ (show k≠P from fp hb hP h2)];exact lf (jD hb) h1
 have ah:=lf (jD hP) (by decide);have hnP:bn≠P:=fp p9 (jD hP) (by decide);refine⟨?_,hk h.doc (by decide) (by decide),?_,h.de,h.wf,h.vals,?_,?_,fun i c p ln hp=>?_,?_,h.qa,h.qc,h.mf,fun c hc=>?_,h.wX⟩
 ·have:=Go.Joins.block_setCell ah (i:=5) zv;simpa using this
 ·refine h.tree.ext (fun k hl ht=>?_);rcases ht with rfl|ht
  ·rw[h.tree.box];exact hk h.tree.box (by decide) (by decide)
  ·obtain⟨cur,hc⟩:=nE h.tree.own ht;rw[hc];exact hk hc (by decide) (by decide)
 ·have e1:(List.map an (bn::os)).reverse=(os.map an).reverse++[an bn]:=by simp
  rw[e1];refine bu az (fun g qe=>Below.heap_setCell _ _ _ _ (fun e=>?_)) (Nat.le_refl _);obtain⟨cur,hc⟩:=nE az qe;simp only at e;subst e;exact fp hc ah (by decide) rfl
 ·have:=h.len;simp only[List.length_cons];omega
 ·cases i with
  |zero=>simp at ln hp;subst ln;subst hp;unfold gr;rw[Below.heap_setCell _ _ _ _ hnP];exact lf p9 (by decide)
  |succ i=>simp at ln hp;exact hk (h.ops i c p ln hp) (by decide) (by decide)
 ·refine List.nodup_cons.2 ⟨fun hm=>?_,h.nd⟩;obtain⟨i,hi⟩:=List.mem_iff_getElem?.1 hm;have jZ:=(List.getElem?_eq_some_iff.1 hi).1;obtain⟨p,hp⟩:=bN s.stack i (by have:=h.len;omega);have:=ak (h.ops i bn p hi hp);omega
 ·rcases List.mem_cons.1 hc with rfl|hc
  ·omega
  ·exact h.h_ c hc
end
def Oa(w:World)(e:Ending)(w':World):Prop:=∃u,e=.returned (.tuple #[.int .i64 0,.iface 85 (.pointer (some u))])∧Below w.heap.size w w'
theorem aaq(B:Nat)(v:Value)(ns:List aW)(most:Int)(u:Int)(x:JN)(w0:World)(h0:bJ w0 B v ns most)(hu:0≤u∧u<ns.length∨u=-1∧ns=[])(sS:most≤ns.length):Calls Tryz.prog 123 #[.pointer (some ⟨B,0,none⟩),.int .i64 u,.agg #[.int .i64 x.kind,.string x.key,.string x.text,.int .i64 x.at_]] w0 (Oa w0):=by
 obtain⟨w,dp⟩:∃W,w0.alloc (.cells #[.int .i64 x.kind,.string x.key,.string x.text,.int .i64 x.at_] 117)=W:=⟨_,rfl⟩;have hb:Below w0.heap.size w0 w:=by rw[←dp];exact aj (Below.refl _ _) _
 have h:bJ w B v ns most:=h0.below hb;have HH:=zg B v ns most u w h;have F1:=fails 15 u w;obtain⟨ao,cap,rfl,_⟩:=h.form;have c0:=h.cell0;have c1:=h.cell1;have t2:decide (most≤(ns.length:Int))=true:=decide_eq_true sS;have HB:=Lib.hid hb;have FF:=Lib.hid F1
 have hu':(decide (0≤u∧u<(ns.length:Int))=true)∨(decide (0≤u∧u<(ns.length:Int))=false∧ns.length=0∧(u !=-1)=false):=by
  rcases hu with h|⟨h1,h2⟩
  ·exact .inl (decide_eq_true h)
  ·exact .inr ⟨decide_eq_false (by omega),by rw[h2];rfl,by rw[h1];rfl⟩
 clear h h0 hb F1 hu;rcases hu' with e|⟨e,e0,e1⟩
 ·rw[e]at HH;have HH:=Lib.hid HH;clear e;go_enter Tryz.func123,Tryz.ntmps123;go_wp2_with fail;clear dp;refine HH.out.mono ?_;rintro e w1⟨rfl,rfl⟩;go_wp2_with fail;refine FF.out.mono ?_;rintro e w2⟨q,rfl,hf⟩;obtain⟨p,rfl⟩:=hf.form;have HF:=Lib.hid (aF HB.out hf.2);clear hf;go_wp2;go_ret2;exact⟨p,rfl,HF.out⟩
 ·rw[e]at HH;rw[e0]at c0 t2;have t3:decide (most≤(0:Int))=true:=t2;have HH:=Lib.hid HH;clear e e0;go_enter Tryz.func123,Tryz.ntmps123;go_wp2_with fail;clear dp;refine HH.out.mono ?_;rintro e w1⟨rfl,rfl⟩;go_wp2_with fail;refine FF.out.mono ?_;rintro e w2⟨q,rfl,hf⟩;obtain⟨p,rfl⟩:=hf.form;have HF:=Lib.hid (aF HB.out hf.2);clear hf;go_wp2;go_ret2;exact⟨p,rfl,HF.out⟩
end Go.Proofs.YtcaiibkgajhohaaGreatDoor
