/- waybill: lemmas and walks, printed from longer texts. -/
import Derived.Test.YtcaiibkgajhohaaGreatDoorM29
import Derived.Maps.OwnIn
set_option maxRecDepth 100000
set_option maxHeartbeats 16000000
namespace Go.Proofs.YtcaiibkgajhohaaGreatDoor
open Go.RowKit
attribute[local go_sem]Oper.semAt_some
def po(l:List aZ)(st:ai)(_:Nat)(t:ByteArray):Bool×List aZ×ai:=match kH cg t with
  |none=>(false,[],st.fail)
  |some x=>(true,l++[x],st)
theorem Rp(js:List JN):∀(ks:List Nat)(l:List aZ)(s:ai),((bif(lF js po ks l s).1 then(lF js po ks l s).2.1 else[]),(lF js po ks l s).2.2)=rJ cg js ks s l
 |[],_,_=>rfl
 |k::ks,l,s=>by
  rw[lF,rJ];by_cases h:(bD js s k).2.bad=true
  ·rw[if_pos h,if_pos h];rfl
  ·rw[if_neg h,if_neg h];unfold po
   cases hb:kH cg (bD js s k).1 with
   |none=>rfl
   |some x=>exact Rp js ks _ _
theorem adV(b:List aZ)(st:ai)(k:Nat)(t:ByteArray):(po b st k t).2.1.length≤b.length+1:=by
 unfold po
 cases kH cg t with
 |none=>exact Nat.zero_le _
 |some x=>simp
theorem Rq{F:Fence}{nF:Nat}{P:Program}(w:World){ops:Array Oper}{rest:List Oper}{o:Oper}{a:Act}{Q:Exit→Act→World→Prop}(arr:Array Value)(te:TypeId)(iX:o.guard=none)(s x:Operand)(t:TypeId)(ho:o.op=.call {callee:=.builtin .append,args:=#[s,x],argTypes:=#[t,t]})(base:Nat){e:TypeId}{z:Value}{size bytes:Nat}(T:iq P t e size bytes z)(v:Value)(n:Nat)(xs:List Value)(hs:a.eval s=v)(az:w.ownsRow base e size v n xs)(hx:a.eval x=.slice (some ⟨w.heap.size,0,none⟩) 1 1)(hsz:arr.size=size)(h1:∀u∈arr.toList,u.oneCell'=true)(oD:n+1≤maxLen)(oE:(n+1)*bytes≤140737488355328)(jU:base≤w.heap.size)(hK:∀v' w',w'.ownsRow base e size v' (n+1) (xs++arr.toList)→(w.alloc (.cells arr te)).grownBy w' v.ownBlock→(v.ownBlock=v'.ownBlock∨v'.ownBlock=some (w.heap.size+1))→wpListIn F nF P ops Q rest (a.put o.dst v') w'):wpListIn F nF P ops Q (o::rest) a (w.alloc (.cells arr te)):=by obtain⟨i,hi,hz,AL,yB⟩:=info_parts T.hi;exact wpListIn_append_own_at _ iX s x t ho base e i z size bytes T.ht hi hz AL yB T.hz T.h0 v n xs hs (az.alloc _) ⟨w.heap.size,0,none⟩ 1 1 arr.toList hx (by simp[hsz]) (World.news_of_block (heap_alloc_new w _)) h1 oD oE (by simp;omega) (fun v' w' a1 a2 _ a3=>hK v' w' a1 a2 (by simpa[eq_comm]using a3))
theorem adW(t:ByteArray):(mB t=[]∧kH cg t=some (gB t))∨(mB t≠[]∧kH cg t=none):=by
 cases h:jK (ig t)with
 |nil=>exact .inl ⟨(JE h).1,by unfold gB;rw[(JE h).2];rfl⟩
 |cons x c=>exact .inr ⟨by rw[(JF h).1];simp,(JF h).2⟩
theorem adX{S:Nat→Prop}{w:World}(t:ByteArray):bp S w (aX (gB t) (.slice none 0 0)).toList (gP (gB t)):=by
 have hi:(gB t).items=[]:=by unfold gB kH;split<;>rfl
 have hd:gP (gB t)=[.str (gB t).path,.str (gB t).query,.str (gB t).bw,.bool (gB t).bz,.bool (gB t).cS,.bool (gB t).bM,.list 3 [],.bool (gB t).cU,.bool (gB t).fold,.bool (gB t).dG]:=by unfold gP;rw[hi];rfl
 rw[hd];exact .cons (.str _) (.cons (.str _) (.cons (.str _) (.cons (.bool _) (.cons (.bool _) (.cons (.bool _) (.cons (.kX _ _ _ (fun _=>rfl)) (.cons (.bool _) (.cons (.bool _) (.cons (.bool _) .nil)))))))))
theorem Rr:iq Tryz.prog 33 40 10 88 (.agg (aX eu (.slice none 0 0))):=⟨Tryz.underlying33,by kernel_rfl,rfl,by decide⟩
theorem b8.adY{W0 Wv w wr:World}{vv:Value}{D rb X B B' k:Nat}{ty e:TypeId}{st:ai}(h:b8 W0 Wv vv D w rb X B ty e k none st (.slice none 0 0) 0 [] wr)(h1:rb<B')(h2:X<B'):b8 W0 Wv vv D w rb X B' ty e k none st (.slice none 0 0) 0 [] wr:=⟨h.re,h.only,h.rU,h.box,dN.nil,h.low,h.qG,h.xK,h1,h2,h.rx,fun m hm=>by cases hm⟩
section
variable{W0 Wv:World}{vv:Value}{base D T:Nat}{s:PS}{nodes:Int}{tv:Value}{ns:List aW}
abbrev xP(W0 Wv:World)(vv:Value)(D:Nat)(w:World)(B:Nat)(M:Option Nat)(st:ai)(v:Value)(l:List aZ)(wr:World):Prop:=b8 W0 Wv vv D w w.heap.size (w.heap.size+2) B 33 40 10 M st v l.length (l.flatMap gP) wr
theorem xP.snoc{w wr:World}{B:Nat}{M:Option Nat}{st:ai}{v:Value}{l:List aZ}{x:aZ}(h:b8 W0 Wv vv D w w.heap.size (w.heap.size+2) B 33 40 10 M st v (l.length+1) (l.flatMap gP++gP x) wr):xP W0 Wv vv D w B M st v (l++[x]) wr:=by show b8 _ _ _ _ _ _ _ _ _ _ _ _ _ _ (l++[x]).length ((l++[x]).flatMap gP) _;rw[List.length_append,List.flatMap_append];simpa using h
def xQ(qD b0:Nat)(a b:Bool)(W':World):Prop:=W'.cell? ⟨b0,0,none⟩=some (an qD)∧W'.cell? ⟨b0+1,0,none⟩=some (.bool a)∧W'.cell? ⟨b0+1,1,none⟩=some (.bool b)
theorem Es{qD b0:Nat}{a b:Bool}{w:World}{T1:TypeId}(h1:w.heap[b0]?=some (.cells #[an qD] T1 (0,0)))(h2:w.heap[b0+1]?=some (.cells #[.bool a,.bool b] 75 (0,0))):xQ qD b0 a b w:=⟨Lib.cell_of_heap h1 0,Lib.cell_of_heap h2 0,Lib.cell_of_heap h2 1⟩
theorem adZ{qD b0:Nat}{a b:Bool}{w:World}{T1:TypeId}(h1:w.heap[b0]?=some (.cells #[an qD] T1 (0,0)))(h2:w.heap[b0+1]?=some (.cells #[.bool a,.bool b] 75 (0,0))):xQ qD b0 a b w∧∀o,xQ qD b0 a b (w.alloc o):=⟨Es h1 h2,fun o=>Es ((Below.heap_alloc _ o _ (ak h1)).trans h1) ((Below.heap_alloc _ o _ (ak h2)).trans h2)⟩
theorem ad0{w wr w2:World}{B:Nat}{M:Option Nat}{st:ai}{v:Value}{n:Nat}{ds:List a_}{a b:Bool}{o:Obj}(h:b8 W0 Wv vv D w w.heap.size (w.heap.size+2) B 33 40 10 M st v n ds wr)(h2:wr.heap[w.heap.size+1]?=some (.cells #[.bool a,.bool b] 75 (0,0)))(hg:(wr.alloc o).grownBy w2 v.ownBlock)(hB:¬(w.heap.size+1=w.heap.size+2∨B≤w.heap.size+1)):xQ W0.heap.size w.heap.size a b w2∧∀u,xQ W0.heap.size w.heap.size a b (w2.setCell ⟨w.heap.size+2,0,none⟩ u):=by have hv:=h.row.lt;have ho:=(ag.refl (fun _=>False) wr).push (kN h.row) hg;have e1:=bB ho h.rU (by rintro(t|t);exact t;have:=(hv _ t).1;omega);have e2:=bB ho h2 (by rintro(t|t);exact t;have:=(hv _ t).1;omega);exact⟨Es e1 e2,fun u=>Es ((Below.heap_setCell _ ⟨w.heap.size+2,0,none⟩ u _ (show w.heap.size≠w.heap.size+2 by omega)).trans e1) ((Below.heap_setCell _ ⟨w.heap.size+2,0,none⟩ u _ (show w.heap.size+1≠w.heap.size+2 by omega)).trans e2)⟩
theorem ad1(w:World)(a b c:Array Value)(Ta Tb Tc:TypeId):∃W,((w.alloc (.cells a Ta)).alloc (.cells b Tb)).alloc (.cells c Tc)=W∧W.heap[w.heap.size]?=some (.cells a Ta (0,0))∧W.heap[w.heap.size+1]?=some (.cells b Tb (0,0))∧W.heap[w.heap.size+2]?=some (.cells c Tc (0,0))∧Below w.heap.size w W∧W.heap.size=w.heap.size+3:=by have h:=vu w a b Ta Tb;have h3:=heap_alloc_new ((w.alloc (.cells a Ta)).alloc (.cells b Tb)) (.cells c Tc);have hb:=aj (Below.refl _ ((w.alloc (.cells a Ta)).alloc (.cells b Tb))) (.cells c Tc);refine⟨_,rfl,(hb.block _ (ak h.1)).trans h.1,(hb.block _ (ak h.2.1)).trans h.2.1,by simpa using h3,aj h.2.2 _,by simp⟩
theorem ad2{s:ai}{n most:Nat}(h:(eR s n most).1=true):(eR s n most).2.bad=false:=by unfold eR at h⊢;simpa using h
def UJ(W0 Wv:World)(vv:Value)(D:Nat)(w:World)(Z:Nat→Prop)(l:List aZ)(st:ai)(W:World):Prop:=GJ W0 Wv vv D w w.heap.size (w.heap.size+2) (w.heap.size+3) 33 40 10 l.length (l.flatMap gP) Z st W
theorem UJ.tells(w:World):zZ W0 Wv vv D (UJ W0 Wv vv D w):=⟨fun h=>by obtain⟨v,⟨hg,_⟩,_⟩:=h;exact hg.re,fun h hp=>GJ.keep h hp,fun h k hk=>by obtain⟨v,_,hz⟩:=h;exact⟨(hz k hk).1,(hz k hk).2.1⟩⟩
def Rs(W0 Wv:World)(vv:Value)(js:List JN)(aa:List Nat)(w w4:World)(D:Nat)(a b:Bool)(ms:List Nat)(R:List aZ×ai)(k:Value)(wr:World):Prop:=∃(j:Nat)(s1:ai)(acc:List aZ)(v:Value),k=.int .i64 j∧j≤ms.length∧acc.length≤j∧xP W0 Wv vv D w w4.heap.size none s1 v acc wr∧wr.heap[w.heap.size+1]?=some (.cells #[.bool a,.bool b] 75 (0,0))∧ag (fun b=>b=W0.heap.size∨b=w.heap.size+2) w4 wr∧qm cg js aa (ms.drop j) s1 a b acc=R
theorem ad3(hV:dA W0 base D T s nodes tv ns)(hS:ij W0)(hT:∀id,(iD s.js id).size≤1100000)(st:ai)(id:Nat)(a b:Bool)(w:World)(h:aC W0 Wv vv w D st):Calls Tryz.prog 100 #[an W0.heap.size,.int .i64 id,.agg #[.bool a,.bool b]] w (gg W0 Wv vv w D 10 ((oZ cg s.js s.aa st id a b).1.flatMap gP) (oZ cg s.js s.aa st id a b).2):=by
 obtain⟨Wa,bU,x0,x1,x2,dE,Ek⟩:=ad1 w #[an W0.heap.size] #[.bool a,.bool b] #[.slice none 0 0] 67 75 33;have ef:=h.only.size;have z8:=h.vars.lt;have S0:xP W0 Wv vv D w (w.heap.size+3) none st (.slice none 0 0) [] Wa:=⟨h.ext dE,ag.of dE,x0,x2,dN.nil,ef,Nat.le_refl _,by omega,by omega,by omega,by omega,fun m hm=>by cases hm⟩;refine callsIn_wide.1 (callsIn_of_wp_marks (n:=3) Tryz.func100 rfl trivial ?_ rfl)
 simp only[Tryz.ntmps100,List.size_toArray,List.length_cons,List.length_nil,Nat.reduceAdd,Nat.reduceSub,Array.replicate_succ,Array.replicate_zero,List.push_toArray,List.append_toArray,List.nil_append,List.cons_append];refine wpIn_wide.2 ?_;obtain⟨RR,aq⟩:∃RR,oZ cg s.js s.aa st id a b=RR:=⟨_,rfl⟩;rw[aq];unfold oZ at aq;have ME:=Lib.hid (fun st key W(hR:aC W0 Wv vv W D st)=>qw hV st id key W hR);have IT:=Lib.hid (fun st(k:Nat)W(hR:aC W0 Wv vv W D st)=>IJ (hR.view hV) k)
 have IS:=Lib.hid (fun st k W(hR:aC W0 Wv vv W D st)=>qt hV st k 5 W hR);have FW:=Lib.hid (fun st(k:Nat)ao n c W(hR:aC W0 Wv vv W D st)=>PY hV st k ao n c 512 W hR);have En:=Lib.hid (fun k=>hV.xD k);obtain⟨me,gT⟩:∃me,dV s.js s.aa st id iR=me:=⟨_,rfl⟩;have iH:=ME.out st iR Wa S0.re;rw[gT]at aq iH;have iH:=Lib.hid iH;have c4:=S0.gb;have HS:=Lib.hid S0;have cq:=Lib.hid x1
 cases me with
 |some k=>
  dsimp only at aq;unfold ez at iH;have CM:=Lib.hid (fun st m W(hR:aC W0 Wv vv W D st)=>adw hV hS hT st m a b W hR);clear S0 x0 x1 x2 gT h;go_wp2_with fail;clear bU;refine iH.out.mono ?_;rintro e w2⟨rfl,ah⟩;have HS:=Lib.hid (HS.out.ext ah);have cq:=Lib.hid ((ah.block _ (ak cq.out)).trans cq.out);have c4:=HS.out.gb;obtain⟨ev,e0,e1,e2,_,da⟩:=HS.out.re.cells;have xR:=Lib.hid (ak HS.out.box);have AM:=Lib.hid (IT.out st k w2 HS.out.re);clear ah da;go_wp2_with fail;refine AM.out.mono ?_;intro e w3 hp
  obtain⟨vl,u,rfl,he,hg,xS,aw⟩:=hp;have HS:=Lib.hid (HS.out.ext aw);have cq:=Lib.hid ((aw.block _ (ak cq.out)).trans cq.out);have c4:=HS.out.gb;have pq:=Lib.hid (IS.out st k w3 HS.out.re);obtain⟨r,hr⟩:∃r,ba s.js st k 5=r:=⟨_,rfl⟩;have hI:(ba s.js st k 5).1=true→du s.js k=5:=fun h=>by unfold ba at h;simp at h;exact h.2
  unfold lA at aq;rw[hr]at pq hI aq;have B3:=Lib.hid aw
  cases bj:r.1 with
  |false=>
   rw[bj]at pq aq;have aO:=Lib.hid (show RR=([],r.2)from aq.symm);clear aw he hg xS hI hr bj aq e0 e1 e2;go_wp2_with fail;refine pq.out.mono ?_;rintro e w4⟨rfl,hp⟩;have hS:=HS.out.call hp;have x8:=hS.cell;obtain⟨W',hw,hc,hm,bX⟩:=hS.none_.tI (.inl rfl);have n_:=x8.1;have oa:=x8.2;obtain⟨vq,bX,hc⟩:∃vq,gg W0 Wv vv w D 10 (RR.1.flatMap gP) RR.2 (.returned vq) W'∧W'.cell? ⟨w.heap.size+2,0,none⟩=some vq:=⟨_,by rw[aO.out];exact bX,hc⟩;have HP:=Lib.hid (And.intro hm (And.intro hw bX))
   clear hp hS x8 hw hm bX;go_wp2;exact j8 none rfl HP.out.1 HP.out.2.1 (by simp[results,Tryz.results100,go_sem,hc]) HP.out.2.2
  |true=>
   have hk:=hI bj;have hc:=(qv s.js k 5 (by decide)).2 (.inl hk);obtain rfl:=he.none hc;obtain⟨ao,c,rfl,_,_,dg⟩:=(hg hc).oT;rw[Int.toNat_natCast]at dg⊢;rw[bj,if_pos rfl]at aq;rw[bj]at pq;have fm:=En.out k;obtain⟨ms,il⟩:∃ms,kids s.aa k=ms:=⟨_,rfl⟩;rw[il]at aq fm dg⊢;have vH:=Lib.hid (fun W hR=>FW.out r.2 k ao ms.length c W hR);obtain⟨q,hq⟩:∃q,eR r.2 ms.length 512=q:=⟨_,rfl⟩;rw[hq]at aq;rw[hq]at vH
   have CL:Hid (∀(j m:Nat),ms[j]?=some m→∃b o,ao=some ⟨b,o,none⟩∧w2.heap.size≤b∧b<w3.heap.size∧w3.cell? ⟨b,o+j,none⟩=some (.int .i64 m)):=Lib.hid (fun j m hm=>by obtain⟨hj,rfl⟩:=List.getElem?_eq_some_iff.1 hm;obtain⟨b,o,h1,h2,h3⟩:=dg (by omega);exact⟨b,o,h1,h2.1,h2.2,h3 j hj⟩);obtain⟨nn,kL⟩:∃n,ms.length=n:=⟨_,rfl⟩;have HN:=Lib.hid kL;rw[kL]at vH fm⊢;clear aw he hg xS hI hr bj e0 e1 e2 hk hc dg il kL hq;go_wp2_with fail;refine pq.out.mono ?_
   rintro e w4⟨rfl,hp⟩;have HS:=Lib.hid (HS.out.call hp);have cq:=Lib.hid (bB hp.only cq.out (by omega));have B4:=Lib.hid hp.only;have c4:=HS.out.gb;have JR:=Lib.hid (vH.out w4 HS.out.re);clear hp;go_wp2_with fail;refine JR.out.mono ?_;rintro e w5⟨rfl,hp⟩;have HS:=Lib.hid (HS.out.call hp);have cq:=Lib.hid (bB hp.only cq.out (by omega));have B5:=Lib.hid (B4.out.trans hp.only);have c4:=HS.out.gb;have x8:=HS.out.cell;have n_:=x8.1;have oa:=x8.2;clear hp x8
   cases f_:q.1 with
   |false=>rw[f_,if_neg (by decide)]at aq;have aO:=Lib.hid (show RR=([],q.2)from aq.symm);obtain⟨W',hw,hc,hm,bX⟩:=HS.out.none_.tI (.inl rfl);obtain⟨vq,bX,hc⟩:∃vq,gg W0 Wv vv w D 10 (RR.1.flatMap gP) RR.2 (.returned vq) W'∧W'.cell? ⟨w.heap.size+2,0,none⟩=some vq:=⟨_,by rw[aO.out];exact bX,hc⟩;have HP:=Lib.hid (And.intro hm (And.intro hw bX));clear hw hm bX f_ aq;go_wp2;exact j8 none rfl HP.out.1 HP.out.2.1 (by simp[results,Tryz.results100,go_sem,hc]) HP.out.2.2
   |true=>
    rw[f_,if_pos rfl]at aq;have aO:=Lib.hid aq;clear f_ aq n_ oa;go_wp2_with fail;go_loopw[50](Rs W0 Wv vv s.js s.aa w w5 D a b ms RR)(fun k _=>nn-(intOf k).toNat);case atStart=>exact⟨0,q.2,[],_,rfl,Nat.zero_le _,Nat.zero_le _,HS.out.adY (ak HS.out.rU) (ak HS.out.box),cq.out,ag.refl _ _,by rw[List.drop_zero];exact aO.out⟩
    case round=>
     obtain⟨j,s1,acc,v,rfl,hj,iN,hs,hx,ho,hr⟩:=hrel;rw[HN.out]at hj;by_cases hlt:j<nn
     ·have t1:decide ((j:Int)<(nn:Int))=true:=decide_eq_true (by omega);have aT:decide (j<nn)=true:=decide_eq_true hlt;have q1:IntKind.i64.wrap ((j:Int)+1)=(j:Int)+1:=IntWalk.i64_in _ (by omega);obtain⟨m,hm⟩:=bN ms j (by rw[HN.out];exact hlt);rw[Aw hm,qm]at hr;obtain⟨bb,o,rfl,h1,h2,h3⟩:=CL.out j m hm;have z0:=HS.out.w0;have z1:=xR.out
      have e0:wr.cell? ⟨bb,o+j,none⟩=some (.int .i64 m):=(ho.xE (Nat.lt_of_lt_of_le h2 B5.out.size) (by omega) (o+j)).trans ((B5.out.xE h2 (by omega) (o+j)).trans h3);have Rt:=Lib.hid (CM.out s1 m);obtain⟨cm,z_⟩:∃cm,nM cg s.js s.aa s1 m a b=cm:=⟨_,rfl⟩;rw[z_]at Rt hr;obtain⟨i0,dw,bT,bW,bA⟩:=info_parts Rr.hi;have gh:=Lib.hid (hs.ext (Below.drew (Below.refl _ wr)));have HO:=Lib.hid ho.drew;have AN:=Lib.hid hr;have cX:=hs.cell.1;have cR:=hs.gb;have f0:=Lib.cell_of_heap hx 0
      have f1:=Lib.cell_of_heap hx 1;have AO:=Lib.hid hx;have ef:acc.length+1≤100001:=by omega
      have mF:=Lib.hid ho.size;have Ru:Hid (¬(w.heap.size+1=w.heap.size+2∨w5.heap.size≤w.heap.size+1)):=Lib.hid (by have:=ak cq.out;omega);have hXF:=Lib.hid (show w.heap.size+1≠W0.heap.size by omega);have zX:w.heap.size+2<wr.heap.size:=ak hs.box;clear z_ hr hs ho hm h1 h2 h3 hx z0 z1;go_wp2_with fail;refine wp_region_noPanic ?_;refine wp_region_held_drew (S:=xQ W0.heap.size w.heap.size a b) (by kernel_rfl) ⟨cR,f0,f1⟩ (fun aB=>?_)
      refine wpAnyH_take (i:=1) (oi:=_) (v:=an W0.heap.size) rfl (by kernel_rfl) (by kernel_rfl) (by kernel_rfl) (fun _ _ _ h=>h) (Or.inl ⟨by rfl,?_⟩) aB ?_
      ·intro w al;obtain⟨y0,y1,y2⟩:=al;go_simp
      try simp only[Act.put,List.setIfInBounds_toArray,List.set_cons_zero,List.set_cons_succ,List.getElem_toArray,List.getElem_cons_zero,List.getElem_cons_succ]
      refine wpAnyH_take (i:=2) (oi:=_) (v:=.int .i64 (m:Nat)) rfl (by kernel_rfl) (by kernel_rfl) (by kernel_rfl) (fun _ _ _ h=>h) (Or.inl ⟨by rfl,?_⟩) aB ?_
      ·intro w al;obtain⟨y0,y1,y2⟩:=al;go_simp
      try simp only[Act.put,List.setIfInBounds_toArray,List.set_cons_zero,List.set_cons_succ,List.getElem_toArray,List.getElem_cons_zero,List.getElem_cons_succ]
      refine wpAnyH_take (i:=3) (oi:=_) (v:=.agg #[.bool a,.bool b]) rfl (by kernel_rfl) (by kernel_rfl) (by kernel_rfl) (fun _ _ _ h=>h) (Or.inl ⟨by rfl,?_⟩) aB ?_
      ·intro w al;obtain⟨y0,y1,y2⟩:=al;go_simp
      try simp only[Act.put,List.setIfInBounds_toArray,List.set_cons_zero,List.set_cons_succ,List.getElem_toArray,List.getElem_cons_zero,List.getElem_cons_succ]
      refine wpAnyH_ready (rs:=[0,4]) (by kernel_rfl) (by simp) ?_;refine(AllReadyH.cons (o:=_) rfl (fun K hK=>?_) (AllReadyH.cons (o:=_) rfl (fun K hK=>?_) AllReadyH.nil))
      focus(go_simp;refine hK.out _ _ aB (fun aB=>?_);clear hK K;(try simp only[Act.put,List.setIfInBounds_toArray,List.set_cons_zero,List.set_cons_succ,List.getElem_toArray,List.getElem_cons_zero,List.getElem_cons_succ]);refine wpAnyH_ready (rs:=[4]) (by kernel_rfl) (by simp) ?_;refine(AllReadyH.cons (o:=_) rfl (fun K hK=>?_) AllReadyH.nil))
      all_goals
       (
        go_simp;go_at_call 130;refine(Rt.out _ gh.out.re).mono ?_;intro e w6 xU;obtain⟨v6,rfl,dz,Rv,xU⟩:=xU;have HO:=Lib.hid (HO.out.trans (xU.only.wide (fun _ _ h=>.inl h)));have Et:=Lib.hid (Rv.fresh (B:=w5.heap.size) (v:=v) mF.out (fun g hg=>(gh.out.row.lt g hg).2));have gh:=Lib.hid (gh.out.call xU);have AO:=Lib.hid (bB xU.only AO.out hXF.out);have cX:=gh.out.cell.1;have zX:=ak gh.out.box;have Dq:=Lib.hid (adZ gh.out.rU AO.out);have lJ:=Lib.hid dz;clear xU Rv dz;simp only[aX];go_wp2_with fail
        refine hK.out _ _ Dq.out.1 (fun aB=>?_);clear hK K;try simp only[Act.put,List.setIfInBounds_toArray,List.set_cons_zero,List.set_cons_succ,List.getElem_toArray,List.getElem_cons_zero,List.getElem_cons_succ])
      rotate_left;focus(refine wpAnyH_ready (rs:=[0,5]) (by kernel_rfl) (by simp) ?_;refine(AllReadyH.cons (o:=_) rfl (fun K hK=>?_) (AllReadyH.cons (o:=_) rfl (fun K hK=>?_) AllReadyH.nil)))
      focus(go_simp;refine hK.out _ _ aB (fun aB=>?_);clear hK K;(try simp only[Act.put,List.setIfInBounds_toArray,List.set_cons_zero,List.set_cons_succ,List.getElem_toArray,List.getElem_cons_zero,List.getElem_cons_succ]);refine wpAnyH_ready (rs:=[5]) (by kernel_rfl) (by simp) ?_;refine(AllReadyH.cons (o:=_) rfl (fun K hK=>?_) AllReadyH.nil))
      rotate_left 2;focus(refine wpAnyH_ready (rs:=[5]) (by kernel_rfl) (by simp) ?_;refine(AllReadyH.cons (o:=_) rfl (fun K hK=>?_) AllReadyH.nil))
      all_goals(go_simp;refine hK.out _ _ (Dq.out.2 _) (fun aB=>?_);clear hK K;try simp only[Act.put,List.setIfInBounds_toArray,List.set_cons_zero,List.set_cons_succ,List.getElem_toArray,List.getElem_cons_zero,List.getElem_cons_succ])
      rotate_left 2;focus(refine wpAnyH_ready (rs:=[0]) (by kernel_rfl) (by simp) ?_;refine(AllReadyH.cons (o:=_) rfl (fun K hK=>?_) AllReadyH.nil);go_simp;refine hK.out _ _ aB (fun aB=>?_);clear hK K;try simp only[Act.put,List.setIfInBounds_toArray,List.set_cons_zero,List.set_cons_succ,List.getElem_toArray,List.getElem_cons_zero,List.getElem_cons_succ])
      all_goals
       (
        refine wpAnyH_ready (rs:=[6]) (by kernel_rfl) (by simp) ?_;refine(AllReadyH.cons (o:=_) rfl (fun K hK=>?_) AllReadyH.nil)
        refine step_append_lies _ (by rfl) _ _ _ (by rfl) w5.heap.size 40 i0 _ 10 88 Tryz.underlying33 dw bT bW bA rfl (by omega) v acc.length _ (by rfl) ((kN gh.out.row).alloc _) ⟨_,0,none⟩ 1 1 (aX cm.1 v6).toList (by rfl) (by rfl) (World.news_of_block (cs:=aX cm.1 v6) (t:=40) (fr:=(0,0)) (heap_alloc_new _ _)) (QW cm.1 lJ.out) (by omega) (by unfold maxLen;omega) (by omega) (by have:=HO.out.size;simp;omega) _ rfl ?_;intro g' cap' w7 Ay cZ cf Jt;have cX:=(gh.out.far cZ).1;have fX:=(gh.out.far cZ).2
        have Rw:=Lib.hid (ad0 gh.out AO.out cZ Ru.out);have ad5:=Lib.hid (And.intro Ay (And.intro cZ cf));clear Ay cZ cf Jt;refine hK.out _ _ Rw.out.1 (fun aB=>?_);clear hK K;try simp only[Act.put,List.setIfInBounds_toArray,List.set_cons_zero,List.set_cons_succ,List.getElem_toArray,List.getElem_cons_zero,List.getElem_cons_succ]
        refine wpAnyH_ready (rs:=[7]) (by kernel_rfl) (by simp) ?_;refine(AllReadyH.cons (o:=_) rfl (fun K hK=>?_) AllReadyH.nil);go_simp;refine hK.out _ _ (Rw.out.2 _) (fun aB=>?_);clear hK K;try simp only[Act.put,List.setIfInBounds_toArray,List.set_cons_zero,List.set_cons_succ,List.getElem_toArray,List.getElem_cons_zero,List.getElem_cons_succ]
        refine wpAnyH_done (by kernel_rfl) ?_ _)
      all_goals
       (
        refine NoPanic.normal ?_;obtain⟨a1,a2,a3⟩:=ad5.out;obtain⟨jm,fO,_,_⟩:=gh.out.push Et.out a1 a2 (a3.imp (fun h=>h) (fun h=>by show some g'=_;rw[h];simp));have RL:=Lib.hid (show Rs W0 Wv vv s.js s.aa w w5 D a b ms RR (.int .i64 ((j:Int)+1)) _ from⟨j+1,cm.2,acc++[cm.1],_,by go_num,by rw[HN.out];omega,by simp;omega,xP.snoc jm,bB fO AO.out Ru.out,HO.out.row fO,AN.out⟩);clear a1 a2 a3 jm fO;go_wp2;refine⟨?_,by simp[intOf];omega⟩;have R:=RL.out
        first|exact R|((repeat apply Exists.intro);exact⟨R,rfl⟩))
     ·have t1:decide ((j:Int)<(nn:Int))=false:=decide_eq_false (by omega);have aT:decide (j<nn)=false:=decide_eq_false hlt;rw[List.drop_eq_nil_of_le (by rw[HN.out];omega),qm]at hr;have qE:=Lib.hid (show RR=(acc,s1)from hr.symm);obtain⟨aof,alc,rfl,_⟩:=aM (kN hs.row);obtain⟨W',hw,hc,hm,bX⟩:=hs.end_ (.inl rfl);obtain⟨vq,bX,hc⟩:∃vq,gg W0 Wv vv w D 10 (RR.1.flatMap gP) RR.2 (.returned vq) W'∧W'.cell? ⟨w.heap.size+2,0,none⟩=some vq:=⟨_,by rw[qE.out];exact bX,hc⟩
      have HP:=Lib.hid (And.intro hm (And.intro hw bX));have x8:=hs.cell;have c4:=hs.gb;have n_:=x8.1;have oa:=x8.2;clear hs hx ho hr hw hm bX x8 hlt;go_wp2;exact j8 none rfl HP.out.1 HP.out.2.1 (by simp[results,Tryz.results100,go_sem,hc]) HP.out.2.2
 |none=>
  dsimp only at aq;unfold ez at iH;clear S0 x0 x1 x2 gT h;go_wp2_with fail;clear bU;refine iH.out.mono ?_;rintro e w2⟨rfl,ah⟩;have HS:=Lib.hid (HS.out.ext ah);have c4:=HS.out.gb;obtain⟨vF,xN⟩:∃vF,dV s.js s.aa st id Io=vF:=⟨_,rfl⟩;have Rx:=Lib.hid (ME.out st Io w2 HS.out.re);rw[xN]at aq Rx;clear ah xN;go_wp2_with fail;refine Rx.out.mono ?_;rintro e w3⟨rfl,aw⟩;have HS:=Lib.hid (HS.out.ext aw);have c4:=HS.out.gb;obtain⟨ev,e0,e1,e2,_,da⟩:=HS.out.re.cells;clear aw da
  cases vF with
  |none=>
   have aO:=Lib.hid (show RR=([],st)from aq.symm);have AM:=Lib.hid (IT.out st 0 w3 HS.out.re);clear aq;unfold ez;go_wp2_with fail;refine AM.out.mono ?_;intro e w4 hp;obtain⟨vl,u,rfl,_,_,_,aY⟩:=hp;have hS:=HS.out.ext aY;have x8:=hS.cell;obtain⟨W',hw,hc,hm,bX⟩:=hS.none_.tI (.inl rfl);have n_:=x8.1;have oa:=x8.2;obtain⟨vq,bX,hc⟩:∃vq,gg W0 Wv vv w D 10 (RR.1.flatMap gP) RR.2 (.returned vq) W'∧W'.cell? ⟨w.heap.size+2,0,none⟩=some vq:=⟨_,by rw[aO.out];exact bX,hc⟩
   have HP:=Lib.hid (And.intro hm (And.intro hw bX));clear aY hS x8 hw hm bX e0 e1 e2 c4;go_wp2;exact j8 none rfl HP.out.1 HP.out.2.1 (by simp[results,Tryz.results100,go_sem,hc]) HP.out.2.2
  |some k=>
   have xR:=Lib.hid (ak HS.out.box);have AM:=Lib.hid (IT.out st k w3 HS.out.re);unfold ez;go_wp2_with fail;refine AM.out.mono ?_;intro e w4 hp;obtain⟨vl,u,rfl,he,hg,xS,aY⟩:=hp;have HS:=Lib.hid (HS.out.ext aY);have c4:=HS.out.gb;have pq:=Lib.hid (IS.out st k w4 HS.out.re);obtain⟨r,hr⟩:∃r,ba s.js st k 5=r:=⟨_,rfl⟩;have hI:(ba s.js st k 5).1=true→du s.js k=5:=fun h=>by unfold ba at h;simp at h;exact h.2
   unfold lA at aq;rw[hr]at pq hI aq;have B3:=Lib.hid aY
   cases bj:r.1 with
   |false=>
    rw[bj]at pq aq;have aO:=Lib.hid (show RR=([],r.2)from aq.symm);clear aY he hg xS hI hr bj aq e0 e1 e2;go_wp2_with fail;refine pq.out.mono ?_;rintro e w5⟨rfl,hp⟩;have hS:=HS.out.call hp;have x8:=hS.cell;obtain⟨W',hw,hc,hm,bX⟩:=hS.none_.tI (.inl rfl);have n_:=x8.1;have oa:=x8.2;obtain⟨vq,bX,hc⟩:∃vq,gg W0 Wv vv w D 10 (RR.1.flatMap gP) RR.2 (.returned vq) W'∧W'.cell? ⟨w.heap.size+2,0,none⟩=some vq:=⟨_,by rw[aO.out];exact bX,hc⟩;have HP:=Lib.hid (And.intro hm (And.intro hw bX))
    clear hp hS x8 hw hm bX;go_wp2;exact j8 none rfl HP.out.1 HP.out.2.1 (by simp[results,Tryz.results100,go_sem,hc]) HP.out.2.2
   |true=>
    have hk:=hI bj;have hc:=(qv s.js k 5 (by decide)).2 (.inl hk);obtain rfl:=he.none hc;obtain⟨ao,c,rfl,_,_,dg⟩:=(hg hc).oT;rw[Int.toNat_natCast]at dg⊢;rw[bj,if_pos rfl]at aq;rw[bj]at pq;have fm:=En.out k;obtain⟨ms,il⟩:∃ms,kids s.aa k=ms:=⟨_,rfl⟩;rw[il]at aq fm dg⊢;have vH:=Lib.hid (fun W hR=>FW.out r.2 k ao ms.length c W hR);obtain⟨q,hq⟩:∃q,eR r.2 ms.length 512=q:=⟨_,rfl⟩;rw[hq]at aq;rw[hq]at vH
    have CL:Hid (∀(j m:Nat),ms[j]?=some m→∃b o,ao=some ⟨b,o,none⟩∧w3.heap.size≤b∧b<w4.heap.size∧w4.cell? ⟨b,o+j,none⟩=some (.int .i64 m)):=Lib.hid (fun j m hm=>by obtain⟨hj,rfl⟩:=List.getElem?_eq_some_iff.1 hm;obtain⟨b,o,h1,h2,h3⟩:=dg (by omega);exact⟨b,o,h1,h2.1,h2.2,h3 j hj⟩);have JS:=Lib.hid (And.intro hk (And.intro il (And.intro hr hq)));obtain⟨nn,kL⟩:∃n,ms.length=n:=⟨_,rfl⟩;have HN:=Lib.hid kL;rw[kL]at vH fm⊢
    clear aY he hg xS hI hr bj e0 e1 e2 hk hc dg il kL hq;go_wp2_with fail;refine pq.out.mono ?_;rintro e w5⟨rfl,hp⟩;have HS:=Lib.hid (HS.out.call hp);have B4:=Lib.hid hp.only;have c4:=HS.out.gb;have JR:=Lib.hid (vH.out w5 HS.out.re);clear hp;go_wp2_with fail;refine JR.out.mono ?_;rintro e w6⟨rfl,hp⟩;have HS:=Lib.hid (HS.out.call hp);have B5:=Lib.hid (B4.out.trans hp.only);have c4:=HS.out.gb;have x8:=HS.out.cell;have n_:=x8.1;have oa:=x8.2;clear hp x8
    cases f_:q.1 with
    |false=>rw[f_,if_neg (by decide)]at aq;have aO:=Lib.hid (show RR=([],q.2)from aq.symm);obtain⟨W',hw,hc,hm,bX⟩:=HS.out.none_.tI (.inl rfl);obtain⟨vq,bX,hc⟩:∃vq,gg W0 Wv vv w D 10 (RR.1.flatMap gP) RR.2 (.returned vq) W'∧W'.cell? ⟨w.heap.size+2,0,none⟩=some vq:=⟨_,by rw[aO.out];exact bX,hc⟩;have HP:=Lib.hid (And.intro hm (And.intro hw bX));clear hw hm bX f_ aq;go_wp2;exact j8 none rfl HP.out.1 HP.out.2.1 (by simp[results,Tryz.results100,go_sem,hc]) HP.out.2.2
    |true=>
     rw[f_,if_pos rfl]at aq;have aO:=Lib.hid aq;clear aq;go_wp2_with fail;refine(Jv W0.heap.size k w6).mono ?_;rintro e w7⟨rfl,rfl⟩;have BT:=vu w6 #[an W0.heap.size] #[.int .i64 k] 67 3;obtain⟨W7,vK⟩:∃W7,((w6.alloc (.cells #[an W0.heap.size] 67)).alloc (.cells #[.int .i64 k] 3))=W7:=⟨_,rfl⟩;rw[vK]at BT;obtain⟨qb,vE⟩:∃qb,w6.heap.size=qb:=⟨_,rfl⟩;obtain⟨gC,AH⟩:∃gC,qb+1=gC:=⟨_,rfl⟩
     have H0:=Lib.hid (show UJ W0 Wv vv D w (fun j=>j=qb∨j=gC) [] q.2 W7 from GJ.Rf HS.out fu.nil (by omega) BT.2.2 (by have:=ak BT.2.1;omega));rw[vE,AH]at BT;have TT:=Lib.hid (Ju (vv:=vv) (Wv:=Wv) (n:=2) List.length po hV hT adV [] q.2 k qb gC W7 BT.1 BT.2.1);obtain⟨R,hR⟩:∃R,rT s.js s.aa po [] q.2 k=R:=⟨_,rfl⟩
     have HA:Hid (((bif R.1 then R.2.1 else[]),R.2.2)=RR):=Lib.hid (by obtain⟨k5,kms,_,kq⟩:=JS.out;have hb:=ad2 (s:=r.2) (n:=ms.length) (most:=512);rw[kq]at hb;have hb:=hb f_;rw[←hR,←aO.out,←kms];unfold rT;rw[PN hb k5,if_pos rfl];exact Rp _ _ _ _);rw[hR]at TT;have h4:w.heap.size+3≤W7.heap.size:=by have:=ak HS.out.box;have:=BT.2.2.size;have:=ak BT.2.1;omega
     clear BT hR n_ oa;go_wp2_with fail;refine(wpIn_wide (n:=3)).1 ?_
     refine IW (W0:=W0) (Wv:=Wv) (vv:=vv) (D:=D) (gf:=95) (lb:=#[.pointer (some ⟨qb,0,none⟩),.pointer (some ⟨gC,0,none⟩)]) (own:=fun j=>j=qb∨j=gC) (cnt:=List.length) (step:=po) (b0:=[]) (lD:=q.2) (R:=R) (J:=UJ W0 Wv vv D w) (Jx:=fun Z _ st W=>UJ W0 Wv vv D w Z [] st W) (Z0:=fun j=>j=qb∨j=gC) rfl rfl (enters_of Tryz.func95 (by kernel_rfl) rfl) rfl TT.out (UJ.tells w) (fun Z b st W l o h hz hl=>GJ.put o h hz (by omega)) (fun Z b st W l o h hz hl=>GJ.put o h hz (by omega)) (fun _ h=>h) H0.out ?_ ?_ ?_
     ·intro lr k2 t W;gi_wp2;refine⟨trivial,fun Z b st W2 hJ hb ht qu=>?_⟩;obtain⟨vb,⟨hg,hf⟩,hz⟩:=hJ;have c4:=hg.gb;have c8:=hg.cell.1;obtain⟨AI,AJ,rfl,_⟩:=aM (kN hg.row);have LG:=Lib.hid (Q_ t W2 (hS.ext hg.re.below) ht);have LC:=adW t;have LR:=Lib.hid (fun W=>adX (S:=fun _=>False) (w:=W) t);have hst:po b st k2 t=match(motive:=Option aZ→Bool×List aZ×ai)kH cg t with|none=>(false,[],st.fail)|some x=>(true,b++[x],st):=rfl;have fv:=Lib.hid (And.intro (And.intro hg hf) hz)
      obtain⟨SP,JT⟩:∃SP,po b st k2 t=SP:=⟨_,rfl⟩;rw[JT];have Ry:=Lib.hid (JT.symm.trans hst);have FL:=Lib.hid (fun W x(hR:aC W0 Wv vv W D st)=>zY hV st k2 85 x W hR);have b9:b.length<100000:=by simpa using qu
      clear hg hf hz hst JT hb ht qu;gi_wp2_with fail;refine⟨trivial,(CallsIn.inRound lr (callsIn_wide.2 LG.out)).mono ?_⟩;rintro e w5⟨u,rfl,he,bg⟩;obtain⟨x,hx⟩:∃x,gB t=x:=⟨_,rfl⟩;rw[hx]at LC LR⊢;have X5:=heap_alloc_new w5 (.cells (aX x (.slice none 0 0)) 40);have cG:=aj bg (.cells (aX x (.slice none 0 0)) 40);have EA:iS w5 u (mB t):=he;have qI:=fv.out.1.1.ext cG;have AQ:=fv.out.1.2.turn (T:=fun _=>False) (ag.of cG) (fun _ _ h=>h);have c4:=qI.gb;have c8:=qI.cell.1
      have f8:=qI.cell.2;obtain⟨cells,dz,Eu⟩:=AQ;have y:∀j,(w5.alloc (.cells (aX x (.slice none 0 0)) 40)).cell? ⟨w5.heap.size,j,none⟩=(#[.string x.path,.string x.query,.string x.bw,.bool x.bz,.bool x.cS,.bool x.bM,.slice none 0 0,.bool x.cU,.bool x.fold,.bool x.dG]:Array Value)[j]?:=fun j=>Lib.cell_of_heap X5 j
      obtain⟨W6,mz⟩:∃W6,w5.alloc (.cells #[.string x.path,.string x.query,.string x.bw,.bool x.bz,.bool x.cS,.bool x.bM,.slice none 0 0,.bool x.cU,.bool x.fold,.bool x.dG] 40)=W6:=⟨_,rfl⟩;rw[show w5.alloc (.cells (aX x (.slice none 0 0)) 40)=W6 from mz]at cG qI dz Eu c4 c8 f8 y;have xV:=Lib.hid qI;have B6:=Lib.hid cG;have lJ:=Lib.hid dz;have HD6:=Lib.hid Eu;simp only[aX];rcases LC with⟨l1,l2⟩|⟨l1,l2⟩
      ·rw[l1]at EA;obtain⟨_,rfl⟩|⟨l3,_⟩:=lE EA
       ·have qi:=Lib.hid l2;have hsz:w.heap.size+3≤W6.heap.size:=Nat.le_trans (ak xV.out.box) (Nat.le_refl _);clear he bg EA X5 cG qI dz Eu l1 l2 hx;gi_wp2_with(gi_at_builtin;refine Rq W6 #[.string x.path,.string x.query,.string x.bw,.bool x.bz,.bool x.cS,.bool x.bM,.slice none 0 0,.bool x.cU,.bool x.fold,.bool x.dG] 40 rfl _ _ 33 rfl (w.heap.size+3) Rr _ _ _ rfl lJ.out rfl rfl ?_ ?_ ?_ ?_ ?_)
        ·repeat' apply And.intro
         all_goals rfl
        ·unfold maxLen;omega
        ·omega
        ·intro v8 w8 tL rW AS;obtain⟨vG,mj,rfl,_⟩:=aM tL;obtain⟨jm,fO⟩:=xV.out.adN lJ.out HD6.out (LR.out W6) tL rW;have cX:=(xV.out.far rW).1;have fX:=(xV.out.far rW).2;obtain⟨W8,kM⟩:∃W8,w8.setCell ⟨w.heap.size+2,0,none⟩ (.slice vG (b.length+1) mj)=W8:=⟨_,rfl⟩;have fK:ag (fun j=>False∨(Value.slice AI b.length AJ).ownBlock=some j) W2 w8:=(ag.of (T:=fun _=>False) B6.out).push lJ.out rW
         have lH:gQ Z W2 W8:=by rw[←kM];exact(gQ.only fK (fun j hj=>⟨(fv.out.2 j hj).1,by rintro(t|t);exact t;exact(fv.out.2 j hj).2.2.2 t⟩)).trans ⟨by simp,fun j hj=>Below.heap_setCell _ _ _ _ (fv.out.2 j hj).2.2.1⟩
         rw[kM]at jm fO
         have AU:∀j,Z j→j<W8.heap.size∧j≠W0.heap.size∧j≠w.heap.size+2∧(Value.slice vG (b.length+1) mj).ownBlock≠some j:=fun j hj=>by
          obtain⟨z1,z2,z3,z4⟩:=fv.out.2 j hj;refine⟨Nat.lt_of_lt_of_le z1 lH.1,z2,z3,fun e=>?_⟩;rcases AS with t|t
          ·rw[←t]at e;exact z4 e
          ·rw[t]at e;cases e;have:=B6.out.size;omega
         have AV:UJ W0 Wv vv D w Z (b++[x]) st W8:=by refine⟨_,⟨xP.snoc jm,?_⟩,AU⟩;rw[List.length_append,List.flatMap_append];simpa using fO
         have HQ:=Lib.hid (And.intro lH AV);clear tL rW AS jm fO fK lH AU AV;gi_wp2;refine⟨HQ.out.1,?_⟩;rw[Ry.out,qi.out];exact⟨rfl,HQ.out.2⟩
       ·exact absurd rfl l3
      ·obtain⟨l3,_⟩|⟨_,pf,rfl⟩:=lE EA
       ·exact absurd l3 l1
       ·have JB:=Lib.hid (FL.out W6 (.pointer (some pf)) xV.out.re);have qi:=Lib.hid l2;clear he bg EA X5 cG qI dz Eu l1 l2 hx y;gi_wp2_with fail;refine⟨trivial,(CallsIn.inRound lr (callsIn_wide.2 JB.out)).mono ?_⟩;rintro e w7⟨rfl,hp⟩;have Ev:=xV.out.call hp;have cX:=Ev.cell.1;have fX:=Ev.cell.2
        have lH:gQ Z W2 (w7.setCell ⟨w.heap.size+2,0,none⟩ (.slice none 0 0)):=(gQ.only ((ag.of B6.out).trans hp.only) (fun j hj=>⟨(fv.out.2 j hj).1,(fv.out.2 j hj).2.1⟩)).trans ⟨by simp,fun j hj=>Below.heap_setCell _ _ _ _ (fv.out.2 j hj).2.2.1⟩;have AV:UJ W0 Wv vv D w Z [] st.fail (w7.setCell ⟨w.heap.size+2,0,none⟩ (.slice none 0 0)):=⟨_,⟨Ev.none_,fu.nil⟩,fun j hj=>by have:=fv.out.2 j hj;exact⟨Nat.lt_of_lt_of_le this.1 lH.1,this.2.1,this.2.2.1,nofun⟩⟩
        have HQ:=Lib.hid (And.intro lH AV);clear hp Ev lH AV;gi_wp2;refine⟨HQ.out.1,?_⟩;rw[Ry.out,qi.out];exact⟨rfl,HQ.out.2⟩
     ·intro m Z W hm kO hJ hd;obtain⟨vb,⟨hg,hf⟩,_⟩:=hJ;have hA:=HA.out;rw[kO,cond_true]at hA;obtain⟨AI,AJ,rfl,_⟩:=aM (kN hg.row);have vL:=hg.marked (by omega) hd;obtain⟨W',hw,hc,iw,bX⟩:=vL.end_ (.inr hf);obtain⟨vq,bX,hc⟩:∃vq,gg W0 Wv vv w D 10 (RR.1.flatMap gP) RR.2 (.returned vq) W'∧W'.cell? ⟨w.heap.size+2,0,none⟩=some vq:=⟨_,by rw[←hA];exact bX,hc⟩;have HP:=Lib.hid (And.intro iw (And.intro hw bX));have cX:=vL.cell.1;have fX:=vL.cell.2;clear hg hf hm kO hd hA vL hw iw bX
      go_wp2;exact j8 (some m) rfl HP.out.1 HP.out.2.1 (by simp[results,Tryz.results100,go_sem,hc]) HP.out.2.2
     ·intro m Z W hm kO hJ hd;obtain⟨vb,⟨hg,hf⟩,_⟩:=hJ;have hA:=HA.out;rw[kO,cond_false]at hA;have vL:=hg.marked (by omega) hd;obtain⟨W',hw,hc,iw,bX⟩:=vL.tI (.inr hf);obtain⟨vq,bX,hc⟩:∃vq,gg W0 Wv vv w D 10 (RR.1.flatMap gP) RR.2 (.returned vq) W'∧W'.cell? ⟨w.heap.size+2,0,none⟩=some vq:=⟨_,by rw[←hA];exact bX,hc⟩;have HP:=Lib.hid (And.intro iw (And.intro hw bX));clear hg hf hm kO hd hA vL hw iw bX;refine wpIn_wide.2 ?_;go_wp2
      exact j8 (some m) rfl HP.out.1 HP.out.2.1 (by simp[results,Tryz.results100,go_sem,hc]) HP.out.2.2
end
end Go.Proofs.YtcaiibkgajhohaaGreatDoor
