/- waybill: lemmas and walks, printed from longer texts. -/
import Derived.Test.YtcaiibkgajhohaaGreatDoorM31
import Derived.Lib.Join
set_option maxRecDepth 100000
set_option maxHeartbeats 16000000
namespace Go.Proofs.YtcaiibkgajhohaaGreatDoor
open Go.RowKit
theorem ad9:iq Tryz.prog 24 35 2 48 (.agg #[.slice none 0 0,.slice none 0 0]):=⟨Tryz.underlying24,by kernel_rfl,rfl,by decide⟩
structure gU(W0 Wv:World)(vv:Value)(D:Nat)(w5:World)(X:Nat)(a b:Bool)(st:ai)(v:Value)(acc:List dr)(wr:World):Prop where
 re:aC W0 Wv vv wr D st
 only:ag (fun b=>b=W0.heap.size) w5 wr
 box:wr.heap[X]?=some (.cells #[.bool a,.bool b] 75 (0,0))
 row:dN w5.heap.size 35 2 wr v acc.length (acc.flatMap lC)
 low:Wv.heap.size≤w5.heap.size
 n9:X<w5.heap.size
 x0:X≠W0.heap.size
section
variable{W0 Wv w5 w wr w':World}{vv v v2:Value}{D X:Nat}{a b:Bool}{st ff:ai}{acc:List dr}
theorem gU.r0(h:gU W0 Wv vv D w5 X a b st v acc wr):W0.heap.size<w5.heap.size:=Nat.lt_of_lt_of_le h.re.vars.lt h.low
theorem gU.call(h:gU W0 Wv vv D w5 X a b st v acc wr)(hp:bG W0 Wv vv wr D ff w'):gU W0 Wv vv D w5 X a b ff v acc w':=by have h0:=h.r0;exact⟨hp.re,h.only.trans hp.only,bB hp.only h.box h.x0,h.row.turn hp.only (fun b e=>by omega),h.low,h.n9,h.x0⟩
theorem gU.ext(h:gU W0 Wv vv D w5 X a b st v acc wr)(hb:Below wr.heap.size wr w'):gU W0 Wv vv D w5 X a b st v acc w':=h.call (bG.of h.re hb)
theorem gU.cells(h:gU W0 Wv vv D w5 X a b st v acc wr):wr.cell? ⟨X,0,none⟩=some (.bool a)∧wr.cell? ⟨X,1,none⟩=some (.bool b):=⟨Lib.cell_of_heap h.box 0,Lib.cell_of_heap h.box 1⟩
theorem gU.push{news:List Value}{x:dr}{o:Obj}(h:gU W0 Wv vv D w5 X a b st v acc wr)(hn:bp (qq w5.heap.size wr v) wr news (lC x))(az:w'.ownsRow w5.heap.size 35 2 v2 (acc.length+1) (h.row.choose++news))(hg:(wr.alloc o).grownBy w' v.ownBlock)(cf:v.ownBlock=v2.ownBlock∨v2.ownBlock=some (wr.heap.size+1)):gU W0 Wv vv D w5 X a b st v2 (acc++[x]) w':=by
 have h0:=h.r0;have hx:=h.n9;have hl:=h.low;have hv:=h.row.lt;have jo:ag (fun b=>False∨v.ownBlock=some b) wr w':=(ag.refl (fun _=>False) wr).push (kN h.row) hg;have hR:=dN.push h.row.choose_spec.2 hn az hg cf;refine⟨h.re.turn jo (fun j hj=>by rcases hj with e|e;exact e.elim;have:=(hv j e).1;omega),?_,bB jo h.box (by rintro(e|e);exact e;have:=(hv _ e).1;omega),?_,hl,hx,h.x0⟩
 ·refine((h.only.wide (T':=fun b=>b=W0.heap.size∨v.ownBlock=some b) (fun _ _ e=>.inl e)).trans (jo.wide (fun _ _ e=>by rcases e with e|e;exact e.elim;exact .inr e))).wide (fun b hb e=>?_);rcases e with e|e
  ·exact e
  ·have:=(hv b e).1;omega
 ·rw[List.length_append,List.flatMap_append];simpa using hR
theorem gU.start(h:aC W0 Wv vv w5 D st)(hx:w5.heap[X]?=some (.cells #[.bool a,.bool b] 75 (0,0)))(h0:X≠W0.heap.size):gU W0 Wv vv D w5 X a b st (.slice none 0 0) [] w5:=⟨h,ag.refl _ _,hx,dN.nil,h.only.size,ak hx,h0⟩
theorem gU.fin(h:gU W0 Wv vv D w5 X a b st v acc wr)(hw:ag (fun b=>b=W0.heap.size) w w5):gg W0 Wv vv w D 2 (acc.flatMap lC) st (.returned v) wr:=by have hs:=hw.size;obtain⟨cells,hc,_⟩:=h.row;exact⟨v,rfl,Ej hc,h.row.rd.wide (fun b hb=>⟨by omega,hb.2⟩),h.re,hw.trans h.only⟩
theorem Ex(h:aC W0 Wv vv wr D st)(ho:ag (fun b=>b=W0.heap.size) w wr):gg W0 Wv vv w D 2 (([]:List dr).flatMap lC) st (.returned (.slice none 0 0)) wr:=⟨_,rfl,rfl,.kX _ _ _ (fun _=>rfl),h,ho⟩
theorem gU.ad_{r:dr×ai}{e:Ending}(h:gU W0 Wv vv D w5 X a b st v acc wr)(hp:Rz W0 Wv vv wr D r e w'):∃(a1:Option Addr)(n1 c1:Nat)(a2:Option Addr)(n2 c2:Nat),e=.returned (.agg #[.slice a1 n1 c1,.slice a2 n2 c2])∧gU W0 Wv vv D w5 X a b r.2 v acc w'∧bp (qq w5.heap.size w' v) w' [.slice a1 n1 c1,.slice a2 n2 c2] (lC r.1):=by obtain⟨va,vr,rfl,_,_,hr,hp⟩:=hp;have hv:=h.row.lt;have hl:=h.only.size;have hf:=bp.fresh (B:=w5.heap.size) (v:=v) hr hl (fun g hg=>(hv g hg).2);have h1:=hr.2 0 _ _ rfl rfl;have h2:=hr.2 1 _ _ rfl rfl;obtain⟨a1,n1,c1,rfl,_⟩:=h1.jT;obtain⟨a2,n2,c2,rfl,_⟩:=h2.jT;exact⟨a1,n1,c1,a2,n2,c2,rfl,h.call hp,hf⟩
end
section
variable{W0 Wv:World}{vv:Value}{base D T:Nat}{s:PS}{nodes:Int}{tv:Value}{ns:List aW}
def RI(W0 Wv:World)(vv:Value)(js:List JN)(aa:List Nat)(w5:World)(D X:Nat)(a b ky:Bool)(ms:List Nat)(R:List dr×ai)(v k:Value)(wr:World):Prop:=∃(j:Nat)(s1:ai)(acc:List dr),k=.int .i64 j∧j≤ms.length∧acc.length≤j∧gU W0 Wv vv D w5 X a b s1 v acc wr∧mo cg js aa (ms.drop j) s1 ky a b acc=R
theorem aea(hV:dA W0 base D T s nodes tv ns)(hS:ij W0)(hT:∀id,(iD s.js id).size≤1100000)(hK:∀k,(bh s.js k).size≤1100000)(st:ai)(id:Nat)(a b:Bool)(w:World)(h:aC W0 Wv vv w D st):Calls Tryz.prog 31 #[an W0.heap.size,.int .i64 id,.agg #[.bool a,.bool b]] w (gg W0 Wv vv w D 2 ((nN cg s.js s.aa st id a b).1.flatMap lC) (nN cg s.js s.aa st id a b).2):=by
 have ME:=Lib.hid (fun W(hR:aC W0 Wv vv W D st)=>qw hV st id eJ W hR);obtain⟨RR,aq⟩:∃RR,nN cg s.js s.aa st id a b=RR:=⟨_,rfl⟩;rw[aq];unfold nN at aq;have H:=Lib.hid h;have XA:=heap_alloc_new w (.cells #[.bool a,.bool b] 75);have BA:=aj (Below.refl _ w) (.cells #[.bool a,.bool b] 75);obtain⟨Wa,bU⟩:∃Wa,w.alloc (.cells #[.bool a,.bool b] 75)=Wa:=⟨_,rfl⟩;rw[bU]at XA BA;have HA:=Lib.hid (h.ext BA);have OA:=Lib.hid (ag.of (T:=fun k=>k=W0.heap.size) BA);have XA:=Lib.hid XA
 have tB:w.heap.size≠W0.heap.size:=by have:=h.lt;omega
 have vO:=Lib.hid bU;have JX:=h.lt;obtain⟨me,gT⟩:∃me,dV s.js s.aa st id eJ=me:=⟨_,rfl⟩;rw[gT]at ME aq
 cases me with
 |none=>unfold ez at ME;have aO:=Lib.hid (show RR=([],st)from aq.symm);clear gT aq h bU BA;go_enter Tryz.func31,Tryz.ntmps31;go_wp2_with fail;rw[vO.out];refine(ME.out Wa HA.out).mono ?_;rintro e w2⟨rfl,ah⟩;have HP:=Lib.hid (show gg W0 Wv vv w D 2 (RR.1.flatMap lC) RR.2 (.returned (.slice none 0 0)) w2 by rw[aO.out];exact Ex (HA.out.ext ah) (OA.out.trans (ag.of ah)));clear ah;go_wp2;go_ret;exact HP.out
 |some k=>
  unfold ez at ME;dsimp only at aq;have KD:=Lib.hid (fun W(hR:aC W0 Wv vv W D st)=>IN hV st k W hR);have IT:=Lib.hid (fun W(hR:aC W0 Wv vv W D st)=>IJ (hR.view hV) k);have MS:=Lib.hid (fun W(hR:aC W0 Wv vv W D st)=>IK (hR.view hV) k);rw[Int.toNat_natCast]at IT MS;have WR:=Lib.hid (fun W(hR:aC W0 Wv vv W D st)=>vo hV st k 32 W hR);have FW:=Lib.hid (fun s5 ao n c W(hR:aC W0 Wv vv W D s5)=>PY hV s5 k ao n c 256 W hR);have c5:=qv s.js k 5 (by decide);have c6:=qv s.js k 6 (by decide);have fm:=hV.xD k
  have oG:=hV.Jq k;obtain⟨kk,gM⟩:∃kk,du s.js k=kk:=⟨_,rfl⟩;rw[gM]at KD c5 c6 aq;clear gT h bU BA;by_cases h6:kk=6
  case' pos=>
   subst h6;rw[if_pos rfl]at aq;have hc:=c6.2 (.inl rfl);obtain⟨ms,il⟩:∃ms,et s.js (kids s.aa k)=ms:=⟨_,rfl⟩;rw[il]at aq oG MS;have HC:=Lib.hid hc;have pr:ms.length≤100000:=oG;obtain⟨ky,fW⟩:∃ky,ky=true:=⟨_,rfl⟩;have rF:=Lib.hid fW;obtain⟨s5,im⟩:∃s5,s5=st:=⟨_,rfl⟩;have lI:=Lib.hid im;have aO:Hid ((if(eR s5 ms.length 256).1=true then mo cg s.js s.aa ms (eR s5 ms.length 256).2 ky a b []else([],(eR s5 ms.length 256).2))=RR):=Lib.hid (by rw[fW,im];exact aq)
   clear gM c5 c6 hc fm oG il fW im aq;go_enter Tryz.func31,Tryz.ntmps31;go_wp2_with fail;rw[vO.out];refine(ME.out Wa HA.out).mono ?_;rintro e w2⟨rfl,ah⟩;have H2:=Lib.hid (HA.out.ext ah);have B2:=Lib.hid ah;obtain⟨ev,c0,_,_,_,_⟩:=H2.out.cells;clear ah;go_wp2_with fail;refine(IT.out w2 H2.out).mono ?_;intro e w3 hp;obtain⟨vi,ui,rfl,_,_,_,aw⟩:=hp;have H3:=Lib.hid (H2.out.ext aw);have B3:=Lib.hid aw;clear aw;go_wp2_with fail;refine(KD.out w3 H3.out).mono ?_;rintro e w4⟨rfl,aY⟩;have H4:=Lib.hid (H3.out.ext aY)
   have B4:=Lib.hid aY;obtain⟨ev4,c4,_,_,_,_⟩:=H4.out.cells;clear aY c0;go_wp2_with fail;refine(MS.out w4 H4.out).mono ?_;intro e w5 hp;obtain⟨v,u,rfl,he,hg,_,bg⟩:=hp;obtain rfl:=he.none HC.out;obtain⟨ao,c,rfl,_,_,dg⟩:=(hg HC.out).oT;have tM:=Lib.hid (show aC W0 Wv vv w5 D s5 by rw[lI.out];exact H4.out.ext bg);have B5:=Lib.hid (aF (aF (aF B2.out B3.out) B4.out) bg);have O5:=Lib.hid (OA.out.trans (ag.of B5.out));have X5:=Lib.hid ((B5.out.block _ (ak XA.out)).trans XA.out)
   have CL:Hid (∀(j m:Nat),ms[j]?=some m→∃b o,ao=some ⟨b,o,none⟩∧W0.heap.size<b∧b<w5.heap.size∧w5.cell? ⟨b,o+j,none⟩=some (.int .i64 m)):=Lib.hid (fun j m hm=>by obtain⟨hj,rfl⟩:=List.getElem?_eq_some_iff.1 hm;obtain⟨b,o,h1,h2,h3⟩:=dg (by omega);have:=H4.out.lt;exact⟨b,o,h1,by have:=h2.1;omega,h2.2,h3 j hj⟩);clear he hg dg bg;obtain⟨n,hn⟩:∃n,ms.length=n:=⟨_,rfl⟩;have HN:=Lib.hid hn;rw[hn]at pr⊢;clear hn;go_wp2_with fail
  case' neg=>
   rw[if_neg h6]at aq;have k6:((kk:Int)==6)=false:=by simpa using h6
   have AX:(kk=6)=False:=eq_false h6;have RJ:(kk !=6)=true:=by simpa using h6
   by_cases h5:kk=5
   case' pos=>
    subst h5;rw[if_pos rfl]at aq;have hc:=c5.2 (.inl rfl);obtain⟨ms,il⟩:∃ms,kids s.aa k=ms:=⟨_,rfl⟩;rw[il]at aq fm IT;have HC:=Lib.hid hc;have pr:ms.length≤100000:=fm;obtain⟨ky,fW⟩:∃ky,ky=false:=⟨_,rfl⟩;have rF:=Lib.hid fW;obtain⟨s5,im⟩:∃s5,s5=st:=⟨_,rfl⟩;have lI:=Lib.hid im;have aO:Hid ((if(eR s5 ms.length 256).1=true then mo cg s.js s.aa ms (eR s5 ms.length 256).2 ky a b []else([],(eR s5 ms.length 256).2))=RR):=Lib.hid (by rw[fW,im];exact aq)
    clear gM c5 c6 hc fm oG il fW im aq k6 AX RJ h6;go_enter Tryz.func31,Tryz.ntmps31;go_wp2_with fail;rw[vO.out];refine(ME.out Wa HA.out).mono ?_;rintro e w2⟨rfl,ah⟩;have H2:=Lib.hid (HA.out.ext ah);have B2:=Lib.hid ah;obtain⟨ev,c0,_,_,_,_⟩:=H2.out.cells;clear ah;go_wp2_with fail;refine(IT.out w2 H2.out).mono ?_;intro e w3 hp;obtain⟨v,u,rfl,he,hg,fE,aw⟩:=hp;obtain rfl:=he.none HC.out;obtain⟨ao,c,rfl,_,_,dg⟩:=(hg HC.out).oT;have H3:=Lib.hid (H2.out.ext aw);have B3:=Lib.hid aw
    have CL3:Hid (∀(j m:Nat),ms[j]?=some m→∃b o,ao=some ⟨b,o,none⟩∧W0.heap.size<b∧b<w3.heap.size∧w3.cell? ⟨b,o+j,none⟩=some (.int .i64 m)):=Lib.hid (fun j m hm=>by obtain⟨hj,rfl⟩:=List.getElem?_eq_some_iff.1 hm;obtain⟨b,o,h1,h2,h3⟩:=dg (by omega);have:=H2.out.lt;exact⟨b,o,h1,by have:=h2.1;omega,h2.2,h3 j hj⟩);clear he hg dg aw fE;obtain⟨n,hn⟩:∃n,ms.length=n:=⟨_,rfl⟩;have HN:=Lib.hid hn;rw[hn]at pr⊢;clear hn;go_wp2_with fail
    refine(KD.out w3 H3.out).mono ?_;rintro e w5⟨rfl,bg⟩;have tM:=Lib.hid (show aC W0 Wv vv w5 D s5 by rw[lI.out];exact H3.out.ext bg);have B5:=Lib.hid (aF (aF B2.out B3.out) bg);have O5:=Lib.hid (OA.out.trans (ag.of B5.out));have X5:=Lib.hid ((B5.out.block _ (ak XA.out)).trans XA.out)
    have CL:Hid (∀(j m:Nat),ms[j]?=some m→∃b o,ao=some ⟨b,o,none⟩∧W0.heap.size<b∧b<w5.heap.size∧w5.cell? ⟨b,o+j,none⟩=some (.int .i64 m)):=Lib.hid (fun j m hm=>by obtain⟨b,o,h1,h2,h3,h4⟩:=CL3.out j m hm;exact⟨b,o,h1,h2,Nat.lt_of_lt_of_le h3 bg.size,(bg.cell (p:=⟨b,o+j,none⟩) h3).trans h4⟩);clear bg;go_wp2_with fail
   case neg=>
    rw[if_neg h5]at aq;have hc:(dI s.js (k:Int) 5).1≠0:=fun e=>by rcases c5.1 e with e|⟨e,_⟩;exact h5 e;exact absurd e (by decide)
    obtain⟨ms,il⟩:∃ms,([]:List Nat)=ms:=⟨_,rfl⟩;have HC:=Lib.hid hc;have pr:ms.length≤100000:=by rw[←il];exact Nat.zero_le _
    obtain⟨ky,fW⟩:∃ky,ky=false:=⟨_,rfl⟩;have rF:=Lib.hid fW;obtain⟨s5,im⟩:∃s5,s5=st.fail:=⟨_,rfl⟩;have lI:=Lib.hid im;have aO:Hid (([],s5)=RR):=Lib.hid (by rw[im,←aq]);clear gM c5 c6 hc fm oG il fW im aq h6 h5;go_enter Tryz.func31,Tryz.ntmps31;go_wp2_with fail;rw[vO.out];refine(ME.out Wa HA.out).mono ?_;rintro e w2⟨rfl,ah⟩;have H2:=Lib.hid (HA.out.ext ah);have B2:=Lib.hid ah;obtain⟨ev,c0,_,_,_,_⟩:=H2.out.cells;clear ah;go_wp2_with fail;refine(IT.out w2 H2.out).mono ?_;intro e w3 hp
    obtain⟨v,u,rfl,he,hg,fE,aw⟩:=hp;have hv:=fE HC.out;obtain rfl:v=.slice none 0 0:=hv
    obtain⟨pu,hpu⟩:∃pu,u=.iface 85 (.pointer (some pu)):=by
     rcases he with⟨e,_⟩|⟨_,e⟩
     ·exact absurd e HC.out
     ·rcases lE (w:=w3) (u:=u) (c:=[dI s.js (k:Int) 5]) e with⟨e,_⟩|⟨_,p,e⟩
      ·cases e
      ·exact⟨p,e⟩
    subst hpu;have H3:=Lib.hid (H2.out.ext aw);have B3:=Lib.hid aw;clear he hg aw fE;go_wp2_with fail;refine(KD.out w3 H3.out).mono ?_;rintro e w4⟨rfl,aY⟩;have H4:=Lib.hid (H3.out.ext aY);have B4:=Lib.hid (aF (aF B2.out B3.out) aY);clear aY;go_wp2_with fail;refine(WR.out w4 H4.out).mono ?_;rintro e w5⟨rfl,hp⟩;have tM:=Lib.hid (show aC W0 Wv vv w5 D s5 by rw[lI.out];exact hp.re);have O5:=Lib.hid ((OA.out.trans (ag.of B4.out)).trans hp.only);have X5:=Lib.hid (bB hp.only ((B4.out.block _ (ak XA.out)).trans XA.out) tB)
    have HRF:=Lib.hid (show RR=([],s5)by exact aO.out.symm);have RM:=Lib.hid (FW.out s5 none 0 0 w5 tM.out);have RN:eR s5 0 256=(false,s5):=by rw[lI.out];rfl
    rw[RN]at RM;clear hp k6 AX RJ RN;go_wp2_with fail;refine RM.out.mono ?_;rintro e w6⟨rfl,hp⟩;have HP:=Lib.hid (show gg W0 Wv vv w D 2 (RR.1.flatMap lC) RR.2 (.returned (.slice none 0 0)) w6 by rw[HRF.out];exact Ex hp.re (O5.out.trans hp.only));clear hp;go_wp2;go_ret;exact HP.out
  all_goals
   (
    obtain⟨q,hq⟩:∃q,eR s5 n 256=q:=⟨_,rfl⟩;have RO:=Lib.hid (FW.out s5 ao n c w5 tM.out);have aq:=aO.out;rw[HN.out]at aq;rw[hq]at RO aq;clear hq;refine RO.out.mono ?_;rintro e w6⟨rfl,hp⟩;have DS:=Lib.hid (gU.start hp.re (bB hp.only X5.out tB) tB);have O6:=Lib.hid (O5.out.trans hp.only)
    have CL6:Hid (∀(j m:Nat),ms[j]?=some m→∃b o,ao=some ⟨b,o,none⟩∧b≠W0.heap.size∧b<w6.heap.size∧w6.cell? ⟨b,o+j,none⟩=some (.int .i64 m)):=Lib.hid (fun j m hm=>by obtain⟨b,o,h1,h2,h3,h4⟩:=CL.out j m hm;exact⟨b,o,h1,by omega,Nat.lt_of_lt_of_le h3 hp.only.size,(hp.only.xE h3 (by omega) (o+j)).trans h4⟩);clear hp
    cases f_:q.1 with
    |false=>rw[f_,if_neg (by decide)]at aq;have HP:=Lib.hid (show gg W0 Wv vv w D 2 (RR.1.flatMap lC) RR.2 (.returned (.slice none 0 0)) w6 by rw[←aq];exact Ex DS.out.re O6.out);clear aq f_;go_wp2;go_ret;exact HP.out
    |true=>
     rw[f_,if_pos rfl]at aq;have aef:=Lib.hid aq;have KY:=Lib.hid (fun s1 m W(hR:aC W0 Wv vv W D s1)=>IP hV s1 m W hR);have DT:=Lib.hid (fun s1 m W(hR:aC W0 Wv vv W D s1)=>ad8 hV hS hT s1 m (bh s.js m) ky a b W hR (hK m));clear aq f_;go_wp2_with fail;go_loopw[6,57](RI W0 Wv vv s.js s.aa w6 D w.heap.size a b ky ms RR)(fun _ k _=>n-(intOf k).toNat);case atStart=>exact⟨0,q.2,[],rfl,Nat.zero_le _,Nat.le_refl _,DS.out,by rw[List.drop_zero];exact aef.out⟩
     case round=>
      obtain⟨j,s1,acc,rfl,hj,iN,hs,hr⟩:=hrel;rw[HN.out]at hj;by_cases hlt:j<n
      ·have t1:decide ((j:Int)<(n:Int))=true:=decide_eq_true (by omega);have aT:decide (j<n)=true:=decide_eq_true hlt;have q1:IntKind.i64.wrap ((j:Int)+1)=(j:Int)+1:=IntWalk.i64_in _ (by omega);obtain⟨m,hm⟩:=bN ms j (by rw[HN.out];exact hlt);rw[Aw hm,mo]at hr;obtain⟨bb,o,rfl,h1,h2,h3⟩:=CL6.out j m hm;have e0:=(hs.only.xE h2 h1 (o+j)).trans h3;have RP:=Lib.hid (KY.out s1 m);have Ey:=Lib.hid (DT.out s1 m);obtain⟨key,jH⟩:∃key,bh s.js m=key:=⟨_,rfl⟩
       rw[jH]at RP Ey hr;obtain⟨dt,RQ⟩:∃dt,lB cg s.js s.aa s1 m key ky a b=dt:=⟨_,rfl⟩;rw[RQ]at Ey hr;rw[rF.out]at Ey;obtain⟨i0,dw,bT,bW,bA⟩:=info_parts ad9.hi;obtain⟨aov,DE,rfl,_⟩:=aM (kN hs.row);have gh:=Lib.hid (hs.ext (Below.drew (Below.refl _ wr)));have AN:=Lib.hid hr;have rM:=hs.cells.1;have c51:=hs.cells.2;have ef:acc.length+1≤100001:=by omega
       have aeh:=Lib.hid iN;clear jH RQ hr hs hm h1 h2 h3 iN;go_wp2_with fail;refine wp_region_noPanic ?_
       go_region_law(
        first
         |(go_simp;go_at_call 56;refine(RP.out _ gh.out.re).mono ?_;rintro e w7⟨rfl,ed⟩;have gh:=Lib.hid (gh.out.ext ed);have rM:=gh.out.cells.1;have c51:=gh.out.cells.2;clear ed)
         |(go_simp;go_at_call 61;refine(Ey.out _ gh.out.re).mono ?_;intro e w8 hp;obtain⟨a1,n1,c1,a2,n2,c2,rfl,RS,RT⟩:=gh.out.ad_ hp;have gh:=Lib.hid RS;have HN8:=Lib.hid RT;clear hp RS RT)
         |
          (
           refine step_append_lies _ (by rfl) _ _ _ (by rfl) w6.heap.size 35 i0 _ 2 48 Tryz.underlying24 dw bT bW bA rfl (by omega) (.slice aov acc.length DE) acc.length _ (by rfl) ((kN gh.out.row).alloc _) ⟨_,0,none⟩ 1 1 [.slice a1 n1 c1,.slice a2 n2 c2] (by rfl) (by rfl) (World.news_of_block (cs:=#[.slice a1 n1 c1,.slice a2 n2 c2]) (t:=35) (fr:=(0,0)) (heap_alloc_new _ _)) (by simp[Value.oneCell']) (by omega) (by unfold maxLen;omega) (by omega) (by have:=gh.out.only.size;simp;omega) _ rfl ?_
           intro g' cap' w9 AY AZ A0 JY;have Ez:=Lib.hid (gh.out.push HN8.out AY AZ (A0.imp (fun h=>h) (fun h=>by show some g'=_;rw[h];simp)));clear AY AZ A0 JY))
       all_goals
        (
         refine NoPanic.normal ?_;have bj:=AN.out;obtain⟨ev9,r0,r1,r2,_,da⟩:=Ez.out.re.cells;rcases da with⟨hb,rfl⟩|⟨hb,bE,rfl⟩
         ·rw[hb,if_neg (by decide)]at bj;have RL:=Lib.hid (show RI W0 Wv vv s.js s.aa w6 D w.heap.size a b ky ms RR _ (.int .i64 ((j:Int)+1)) _ from⟨j+1,dt.2,acc++[dt.1],by go_num,by rw[HN.out];omega,by have:=aeh.out;simp;omega,Ez.out,bj⟩);clear bj hb;go_wp2;refine⟨?_,by simp[intOf];omega⟩;have R:=RL.out;first|exact R|((repeat apply Exists.intro);exact⟨R,rfl⟩)
         ·rw[hb,if_pos rfl]at bj;have HP:=Lib.hid (show gg W0 Wv vv w D 2 (RR.1.flatMap lC) RR.2 (.returned (.slice none 0 0)) _ by rw[←bj];exact Ex Ez.out.re (O6.out.trans Ez.out.only));clear bj hb;go_wp2;go_ret;exact HP.out)
      ·have t1:decide ((j:Int)<(n:Int))=false:=decide_eq_false (by omega);have aT:decide (j<n)=false:=decide_eq_false hlt;rw[List.drop_eq_nil_of_le (by rw[HN.out];omega),mo]at hr;have HP:=Lib.hid (show gg W0 Wv vv w D 2 (RR.1.flatMap lC) RR.2 (.returned _) wr by rw[←hr];exact hs.fin O6.out);clear hr hs hlt;go_wp2;go_ret;exact HP.out)
end
theorem aeq{w:World}{a:Addr}{x:Value}(h:w.cell? a=some x):∃c t f,w.heap[a.block]?=some (.cells c t f):=by
 unfold World.cell? at h;split at h
 ·exact⟨_,_,_,by assumption⟩
 ·cases h
def Live(S:Nat→Prop)(w:World)(b:Nat):Prop:=S b∧∃c t f,w.heap[b]?=some (.cells c t f)
theorem aer{S:Nat→Prop}{w:World}{v:Value}{d:a_}(h:Rd S w v d)(hd:(∃t,d=.str t)∨∃l:List ByteArray,d=.list 1 (l.map .str)):Rd (Live S w) w v d:=by
 rcases hd with⟨t,rfl⟩|⟨l,rfl⟩
 ·rw[h.jS];exact .str _
 ·generalize FO:l.map a_.str=ds at h
  cases h with
  |kX a c _ fh=>exact .kX _ _ _ fh
  |list b off n c _ _ f hS hn gG hl hc hd=>refine .list b off n c 1 ds f ⟨hS,aeq (hc 0 (by omega))⟩ hn gG hl hc (fun j hj=>?_);have hj':=hd j hj;(obtain⟨t,ht⟩:∃t,ds[j]=.str t:=by subst FO;simp);rw[ht]at hj'⊢;rw[hj'.jS];exact .str _
theorem aes{S:Nat→Prop}{w:World}{cells:List Value}{vars:List cW}(h:bp S w cells (vars.flatMap o7)):bp (Live S w) w cells (vars.flatMap o7):=⟨h.1,fun j u d hu hd=>aer (h.2 j u d hu hd) (by
 obtain⟨v,_,hv⟩:=List.mem_flatMap.1 (List.mem_of_getElem? hd);simp only[o7,List.mem_cons,List.not_mem_nil,or_false]at hv;rcases hv with rfl|rfl
 ·exact .inl ⟨_,rfl⟩
 ·exact .inr ⟨_,rfl⟩)⟩
section
variable{W0 Wv W6 W w w' w4 wr:World}{vv v:Value}{D N:Nat}{key:ByteArray}{st ff:ai}{l:List ByteArray}{marks:List Nat}
def rX(W0 w:World)(D:Nat)(st:ai)(e:Ending)(w':World):Prop:=e=.returned (.tuple #[])∧(∃Wv vv,aC W0 Wv vv w' D st)∧ag (fun b=>b=W0.heap.size) w w'
def tN(w4:World)(marks:List Nat)(wr:World):Prop:=(∀m∈marks,w4.heap.size≤m∧wr.heap[m]?=some (.deferred (some [])))∧marks.Nodup
theorem Sb{g m:Nat}{k n B:Nat}{e:TypeId}{cs:List Value}{d:Option (List Deferred)}(h:wr.ownsRow B e k v n cs)(hg:v.ownBlock=some g)(hm:wr.heap[m]?=some (.deferred d)):g≠m:=by rintro rfl;obtain⟨c,t,f,hc⟩:=JI h hg;rw[hc]at hm;cases hm
theorem rX.of(h:aC W0 Wv vv wr D st)(h4:ag (fun b=>b=W0.heap.size) w w4)(ho:ag (fun b=>b=W0.heap.size) w4 wr)(hm:tN w4 marks wr)(hw:W0.heap.size<w.heap.size):rX W0 w D st (.returned (.tuple #[])) (od marks wr):=by
 have o':=R8 (fun b=>b∈marks) marks wr (fun m h=>h);obtain⟨w',hw'⟩:∃w',od marks wr=w':=⟨_,rfl⟩;rw[hw']at o'⊢;have z4:=h4.size;have zr:=ho.size;have dP:∀m∈marks,W0.heap.size<m:=fun m xc=>by have:=(hm.1 m xc).1;omega
 obtain⟨cells,h1,h2⟩:=h.vars.row.turn h.only (fun b e=>by omega);obtain⟨ev,hx,he⟩:=h.dJ;refine⟨rfl,⟨w',vv,⟨Below.trans h.below (o'.below (B:=W0.heap.size) (by omega) (fun k hk=>by have:=dP k hk;omega)),by have:=o'.size;omega,cells,?_,?_⟩,ag.refl _ _,ev,bB o' hx (fun e=>by have:=dP _ e;omega),he⟩,?_⟩
 ·exact bu h1 (fun g hg=>o'.block g (h1.lt g hg).2 (fun e=>Sb h1 hg (hm.1 g e).2 rfl)) (Nat.le_refl _)
 ·exact(aes h2).mono (fun b hb=>o'.block b hb.1.2.1 (fun e=>by obtain⟨c,t,f,hc⟩:=hb.2;rw[(hm.1 b e).2]at hc;cases hc)) (fun b hb=>⟨hb.1.1,Nat.lt_of_lt_of_le hb.1.2.1 o'.size,hb.1.2.2⟩)
 ·refine(((h4.trans ho).wide (T':=fun b=>b=W0.heap.size∨b∈marks) (fun _ _ e=>.inl e)).trans (o'.wide (fun _ _ e=>.inr e))).wide (fun b hb e=>?_);rcases e with e|e
  ·exact e
  ·have:=(hm.1 b e).1;omega
theorem gi.o4(h:gi W0 Wv vv D W6 N key st v l W)(ho:ag (fun b=>b=W0.heap.size) w4 wr)(hb:Below wr.heap.size wr W6)(hN:wr.heap.size≤N):ag (fun b=>b=W0.heap.size) w4 W:=by
 have z:=ho.size;refine(((ho.trans (ag.of hb)).wide (T':=fun b=>b=W0.heap.size∨b=N) (fun _ _ e=>.inl e)).trans h.only).wide (fun b hb e=>?_);rcases e with e|e
 ·exact e
 ·omega
theorem gi.aet{M:Nat}(h:gi W0 Wv vv D W6 N key st v l W)(ho:ag (fun b=>b=W0.heap.size) w4 wr)(hb:Below wr.heap.size wr W6)(hN:wr.heap.size≤N)(h4:W0.heap.size<w4.heap.size)(hm:tN w4 marks wr)(hM:W6.heap.size≤M)(hd:W.heap[M]?=some (.deferred (some []))):tN w4 (M::marks) W:=by
 have z:=ho.size;have z1:=hb.size;refine⟨fun m xc=>?_,List.nodup_cons.2 ⟨fun e=>?_,hm.2⟩⟩
 ·rcases List.mem_cons.1 xc with rfl|e
  ·exact⟨by omega,hd⟩
  ·obtain⟨a,b⟩:=hm.1 m e;have hl:=ak b;exact⟨a,(h.only.block m (by omega) (by omega)).trans ((hb.block m hl).trans b)⟩
 ·have:=ak (hm.1 M e).2;omega
theorem tN.keep{T:Nat→Prop}(hm:tN w4 marks wr)(ho:ag T wr w')(hT:∀m∈marks,¬T m):tN w4 marks w':=⟨fun m h=>⟨(hm.1 m h).1,bB ho (hm.1 m h).2 (hT m h)⟩,hm.2⟩
theorem gi.add{cells:List Value}{o:Obj}{v2:Value}{w2:World}(h:gi W0 Wv vv D W6 N key st v l W)(h1:W.ownsRow (W0.heap.size+1) 103 2 vv st.vars.length cells)(h2:bp (qq (W0.heap.size+1) W vv) W cells (st.vars.flatMap o7))(az:w2.ownsRow (W0.heap.size+1) 103 2 v2 (st.vars.length+1) (cells++[.string key,v]))(hg:(W.alloc o).grownBy w2 vv.ownBlock)(cf:vv.ownBlock=v2.ownBlock∨v2.ownBlock=some (W.heap.size+1)):aC W0 (w2.setCell ⟨W0.heap.size,1,none⟩ v2) v2 (w2.setCell ⟨W0.heap.size,1,none⟩ v2) D ⟨st.bad,st.vars++[⟨key,l⟩]⟩∧ag (fun b=>b=W0.heap.size∨vv.ownBlock=some b) W (w2.setCell ⟨W0.heap.size,1,none⟩ v2)∧w2.cell? ⟨W0.heap.size,1,none⟩=some vv∧w2.frozen? ⟨W0.heap.size,1,none⟩=false:=by
 have h0:=h.w0;have hi:=h.hi;have pn:=h.low;have ef:=h.re.vars.row.lt;have hW:W0.heap.size<W.heap.size:=h.re.lt;have jo:ag (fun b=>False∨vv.ownBlock=some b) W w2:=(ag.refl (fun _=>False) W).push h1 hg;obtain⟨tc,r1,r2⟩:=h.row;have r3:=r1.lt;have hn:bp (qq (W0.heap.size+1) W vv) W [.string key,v] (o7 ⟨key,l⟩):=by refine .cons (.str _) (.cons ?_ .nil);have:=h.row.pj.rd;exact this.wide (fun b hb=>⟨by omega,hb.2,fun e=>by have:=(ef b e).2;omega⟩)
 have hR:=dN.push h2 hn az hg cf;obtain⟨ev,hx,he⟩:=h.re.dJ;have fS:w2.heap[W0.heap.size]?=some (.cells #[an D,vv,ev] 69 (0,0)):=bB jo hx (by rintro(e|e);exact e;have:=(ef _ e).1;omega);have hs:ag (fun b=>b=W0.heap.size) w2 (w2.setCell ⟨W0.heap.size,1,none⟩ v2):=(ag.refl (fun b=>b=W0.heap.size) w2).set (p:=⟨W0.heap.size,1,none⟩) (fun _=>rfl) v2
 have hO:ag (fun b=>b=W0.heap.size∨vv.ownBlock=some b) W (w2.setCell ⟨W0.heap.size,1,none⟩ v2):=(jo.wide (fun _ _ e=>by rcases e with e|e;exact e.elim;exact .inr e)).trans (hs.wide (fun _ _ e=>.inl e));refine⟨⟨⟨?_,?_,?_⟩,ag.refl _ _,ev,?_,he⟩,hO,Lib.cell_of_heap fS 1,Go.Joins.unfrozen_of_block fS 1⟩
 ·exact Below.trans h.re.below (hO.below (B:=W0.heap.size) (by omega) (fun k hk=>by
   rcases hk with e|e
   ·omega
   ·have:=(ef k e).1;omega))
 ·have:=hO.size;omega
 ·show dN _ _ _ _ _ (st.vars++[_]).length ((st.vars++[_]).flatMap o7);rw[List.length_append,List.flatMap_append];have:=hR.turn hs (fun b e=>by omega);simpa using this
 ·exact Go.Joins.block_setCell fS (i:=1) v2
theorem gi.aeu{cells:List Value}{o:Obj}{v2:Value}{w2:World}(h:gi W0 Wv vv D W6 N key st v l W)(h1:W.ownsRow (W0.heap.size+1) 103 2 vv st.vars.length cells)(h2:bp (qq (W0.heap.size+1) W vv) W cells (st.vars.flatMap o7))(az:w2.ownsRow (W0.heap.size+1) 103 2 v2 (st.vars.length+1) (cells++[.string key,v]))(hg:(W.alloc o).grownBy w2 vv.ownBlock)(cf:vv.ownBlock=v2.ownBlock∨v2.ownBlock=some (W.heap.size+1)):aC W0 (w2.setCell ⟨W0.heap.size,1,none⟩ v2) v2 (w2.setCell ⟨W0.heap.size,1,none⟩ v2) D ⟨st.bad,st.vars++[⟨key,l⟩]⟩∧ag (fun b=>b=W0.heap.size∨vv.ownBlock=some b) W (w2.setCell ⟨W0.heap.size,1,none⟩ v2)∧w2.cell? ⟨W0.heap.size,1,none⟩=some vv∧w2.frozen? ⟨W0.heap.size,1,none⟩=false∧(vv.ownBlock=v2.ownBlock∨v2.ownBlock=some (W.heap.size+1)):=let⟨a,b,c,d⟩:=h.add h1 h2 az hg cf;⟨a,b,c,d,cf⟩
end
abbrev KV:Type:=ByteArray×ByteArray
def ek(a b:ByteArray):Bool:=cB a.data.toList b.data.toList
theorem Kj{a b:ByteArray}(h:a.data.toList=b.data.toList):a=b:=by cases a;cases b;congr 1;exact Array.toList_inj.1 h
theorem Bi(a:ByteArray):ek a a=false:=Th _
theorem Kk{a b c:ByteArray}(h:ek a b=true)(k:ek b c=true):ek a c=true:=Ti _ _ _ h k
theorem EW{a b:ByteArray}(h:ek a b=false)(k:ek b a=false):a=b:=Kj (Tj _ _ h k)
theorem Kl{a b:ByteArray}(h:ek a b=true):ek b a=false:=by rw[Bool.eq_false_iff];intro k;have:=Kk h k;rw[Bi]at this;cases this
theorem EY{a b c:ByteArray}(h:ek a b=false)(k:ek b c=false):ek a c=false:=by
 cases fh:ek a c with
 |false=>rfl
 |true=>
  cases fq:ek b a with
  |true=>rw[Kk fq fh]at k;cases k
  |false=>obtain rfl:=EW h fq;rw[fh]at k;cases k
def gj(a b:KV):Bool:=!(ek b.1 a.1)
def J(l:List ByteArray):ByteArray:=⟨(Lib.join (l.map (·.data.toList)) [44]).toArray⟩
def eA(p:KV):ByteArray:=aG p.1++⟨#[58]⟩++p.2
def dW(l:List KV):ByteArray:=⟨#[123]⟩++J ((l.mergeSort gj).map eA)++⟨#[125]⟩
def cC(l:List ByteArray):ByteArray:=⟨#[91]⟩++J l++⟨#[93]⟩
theorem Km:J []=⟨#[]⟩:=rfl
theorem afk(x:ByteArray):J [x]=x:=by apply Kj;simp[J,Lib.join_one]
theorem Tr(sep x:List UInt8):∀l:List (List UInt8),l≠[]→Lib.join (l++[x]) sep=Lib.join l sep++sep++x
 |[],h=>absurd rfl h
 |[a],_=>by simp[Lib.join,List.intercalate]
 |a::b::l,_=>by
  have ih:=Tr sep x (b::l) (by simp)
  have e:∀(c:List UInt8)(r:List (List UInt8)),r≠[]→Lib.join (c::r) sep=c++sep++Lib.join r sep:=fun c r hr=>by
   cases r with
   |nil=>exact absurd rfl hr
   |cons d r=>simp[Lib.join,List.intercalate,List.intersperse]
  rw[List.cons_append,e a _ (by simp),ih,e a _ (by simp)];simp
theorem afl(l:List ByteArray)(x:ByteArray)(h:l≠[]):J (l++[x])=J l++⟨#[44]⟩++x:=by apply Kj;unfold J;rw[List.map_append,List.map_cons,List.map_nil,Tr _ _ _ (by simpa using h)];simp[ByteArray.data_append]
theorem Ts{l:List ByteArray}{n:Nat}{x:ByteArray}(hx:l[n]?=some x)(pre:ByteArray):(if 0<n then pre++J (l.take n)++⟨#[44]⟩else pre++J (l.take n))++x=pre++J (l.take (n+1)):=by
 obtain⟨hn,rfl⟩:=List.getElem?_eq_some_iff.1 hx;rw[List.take_succ_eq_append_getElem hn];by_cases h0:0<n
 ·rw[if_pos h0,afl _ _ (by intro e;have h1:=congrArg List.length e;rw[List.length_take,List.length_nil]at h1;omega)];simp[ByteArray.append_assoc]
 ·obtain rfl:n=0:=by omega
  rw[if_neg h0,List.take_zero,List.nil_append,afk,Km];show pre++ByteArray.empty++_=_;rw[ByteArray.append_empty]
def bF(l:List ByteArray)(i:Nat):ByteArray:=(l[i]?).getD ⟨#[]⟩
def jq(keys:List ByteArray)(tk:Nat→Bool):Nat→Option Nat
 |0=>none
 |n+1=>if tk n then jq keys tk n else match jq keys tk n with
   |none=>some n
   |some b=>if ek (bF keys n) (bF keys b)then some n else some b
theorem vU{keys:List ByteArray}{tk:Nat→Bool}:∀(n b:Nat),jq keys tk n=some b→b<n∧tk b=false∧∀i,i<n→tk i=false→ek (bF keys i) (bF keys b)=false
 |0,b,h=>by cases h
 |n+1,b,h=>by
  rw[jq]at h
  cases ht:tk n with
  |true=>rw[ht,if_pos rfl]at h;obtain⟨h1,h2,h3⟩:=vU n b h;exact⟨by omega,h2,fun i hi r_=>h3 i (by rcases Nat.lt_succ_iff_lt_or_eq.1 hi with h|rfl;exact h;rw[ht]at r_;cases r_) r_⟩
  |false=>
   rw[ht,if_neg (by simp)]at h
   cases hb:jq keys tk n with
   |none=>
    rw[hb]at h;cases h;refine⟨by omega,ht,fun i hi r_=>?_⟩;rcases Nat.lt_succ_iff_lt_or_eq.1 hi with hlt|rfl
    ·exact absurd hb (EZ n i hlt r_)
    ·exact Bi _
   |some c=>
    rw[hb]at h;obtain⟨h1,h2,h3⟩:=vU n c hb;simp only at h;split at h
    ·rename_i hlt;cases h;refine⟨by omega,ht,fun i hi r_=>?_⟩;rcases Nat.lt_succ_iff_lt_or_eq.1 hi with hl|rfl
     ·exact EY (h3 i hl r_) (Kl hlt)
     ·exact Bi _
    ·rename_i hlt;cases h;refine⟨by omega,h2,fun i hi r_=>?_⟩;rcases Nat.lt_succ_iff_lt_or_eq.1 hi with hl|rfl
     ·exact h3 i hl r_
     ·simpa using hlt where
 EZ:∀(n i:Nat),i<n→tk i=false→jq keys tk n≠none
   |0,i,h,_=>by omega
   |n+1,i,h,ht=>by
    rw[jq]
    cases hn:tk n with
    |true=>
     rw[if_pos rfl];rcases Nat.lt_succ_iff_lt_or_eq.1 h with hl|rfl
     ·exact EZ n i hl ht
     ·rw[hn]at ht;cases ht
    |false=>
     rw[if_neg (by simp)]
     cases jq keys tk n with
     |none=>simp
     |some b=>simp only;split<;>simp
theorem Tz:∀(keys forms:List ByteArray),keys.length=forms.length→keys.zip forms=(List.range keys.length).map fun i=>(bF keys i,bF forms i):=by
 intro keys forms hl;apply List.ext_getElem
 ·simp;omega
 ·intro i h1 h2;have hk:i<keys.length:=by simpa using h2
  simp[bF,hk,hl▸hk]
end Go.Proofs.YtcaiibkgajhohaaGreatDoor
