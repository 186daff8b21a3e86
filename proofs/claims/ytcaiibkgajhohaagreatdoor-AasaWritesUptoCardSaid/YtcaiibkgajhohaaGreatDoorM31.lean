/- waybill: lemmas and walks, printed from longer texts. -/
import Derived.Test.YtcaiibkgajhohaaGreatDoorM30
set_option maxRecDepth 100000
set_option maxHeartbeats 4000000
namespace Go.Proofs.YtcaiibkgajhohaaGreatDoor
open Go.RowKit
section
variable{W0 Wv:World}{vv:Value}{base D T:Nat}{s:PS}{nodes:Int}{tv:Value}{ns:List aW}
def Rz(W0 Wv:World)(vv:Value)(w:World)(D:Nat)(r:dr×ai)(e:Ending)(w':World):Prop:=∃va vr:Value,e=.returned (.agg #[va,vr])∧va.oneCell'=true∧vr.oneCell'=true∧bp (dY w w') w' [va,vr] (lC r.1)∧bG W0 Wv vv w D r.2 w'
theorem JU{a b w w':World}{T:Nat→Prop}{v:Value}{d:a_}(h:Rd (dY a b) b v d)(ho:ag T b w')(hT:∀k,T k→k<a.heap.size∨b.heap.size≤k)(hw:w.heap.size≤a.heap.size):Rd (dY w w') w' v d:=h.mono (fun k hk=>ho.block k hk.2 (fun t=>by have:=hT k t;have h1:=hk.1;have h2:=hk.2;omega)) (fun k hk=>⟨Nat.le_trans hw hk.1,Nat.lt_of_lt_of_le hk.2 ho.size⟩)
theorem ad8(hV:dA W0 base D T s nodes tv ns)(hS:ij W0)(hT:∀id,(iD s.js id).size≤1100000)(st:ai)(id:Nat)(key:ByteArray)(keyed a b:Bool)(w:World)(h:aC W0 Wv vv w D st)(hk:key.size≤1100000):Calls Tryz.prog 61 #[an W0.heap.size,.int .i64 id,.string key,.bool keyed,.agg #[.bool a,.bool b]] w (Rz W0 Wv vv w D (lB cg s.js s.aa st id key keyed a b)):=by
 have IS:=Lib.hid (fun W(hR:aC W0 Wv vv W D st)=>qt hV st id 6 W hR);unfold lB;have ef:=h.only.size;have H:=Lib.hid h;have BX:=Lib.hid (I3 w (.bool a) (.bool b) (.slice none 0 0) (.slice none 0 0) 75 35);have z8:=h.vars.lt;have tD:W0.heap.size≠w.heap.size:=by omega
 have nQ:W0.heap.size≠w.heap.size+1:=by omega
 obtain⟨r,hr⟩:∃r,ba s.js st id 6=r:=⟨_,rfl⟩;rw[hr]at IS⊢
 cases bj:r.1 with
 |false=>
  rw[bj]at IS;rw[if_neg (by decide)];clear hr bj h hV hS hT hk;go_enter Tryz.func61,Tryz.ntmps61;go_wp2_with fail;obtain⟨Wa,bU⟩:∃Wa,((w.alloc (Obj.cells #[Value.bool a,Value.bool b] 75)).alloc (Obj.cells #[.slice none 0 0,.slice none 0 0] 35))=Wa:=⟨_,rfl⟩;rw[bU]at BX⊢;have P1:=Lib.hid (bG.of H.out BX.out.2.2);clear bU;refine(IS.out Wa P1.out.re).mono ?_;rintro e w2⟨rfl,hp⟩;have Y6:=bB hp.only BX.out.2.1 (Ne.symm nQ);have mr:=Lib.cell_of_heap Y6 0;have mu:=Lib.cell_of_heap Y6 1
  have g6:=fun i=>Go.Joins.unfrozen_of_block Y6 i;have HP:=Lib.hid (((P1.out.trans hp).set ef (Nat.le_succ _) 0 (.slice none 0 0)).set ef (Nat.le_succ _) 1 (.slice none 0 0));clear Y6 hp;go_wp2;refine bodyPost_ret (v:=.agg #[.slice none 0 0,.slice none 0 0]) (by simp[results,Tryz.results61,go_sem,mr,mu]) rfl ⟨_,_,rfl,rfl,rfl,?_,HP.out⟩;exact .cons (.kX _ _ _ (fun _=>rfl)) (.cons (.kX _ _ _ (fun _=>rfl)) .nil)
 |true=>
  rw[bj]at IS;rw[if_pos rfl];dsimp only;have AP:=Lib.hid (fun W(hR:aC W0 Wv vv W D r.2)=>adR hV hT r.2 id key keyed W hR hk);obtain⟨p,hp⟩:∃p,kI s.js s.aa r.2 id key keyed=p:=⟨_,rfl⟩;rw[hp]at AP⊢;have DF:=Lib.hid (fun W(hR:aC W0 Wv vv W D p.2)=>P8 hV p.2 id a b W hR);obtain⟨d,hd⟩:∃d,ly s.js s.aa p.2 id a b=d:=⟨_,rfl⟩;rw[hd]at DF⊢;have RU:=Lib.hid (fun W(hR:aC W0 Wv vv W D d.2)=>ad3 hV hS hT d.2 id d.1.1 d.1.2 W hR)
  obtain⟨q,hq⟩:∃q,oZ cg s.js s.aa d.2 id d.1.1 d.1.2=q:=⟨_,rfl⟩;rw[hq]at RU⊢;clear hr bj h hV hS hT hk hp hd hq;go_enter Tryz.func61,Tryz.ntmps61;go_wp2_with fail;obtain⟨Wa,bU⟩:∃Wa,((w.alloc (Obj.cells #[Value.bool a,Value.bool b] 75)).alloc (Obj.cells #[.slice none 0 0,.slice none 0 0] 35))=Wa:=⟨_,rfl⟩;rw[bU]at BX⊢;have P1:=Lib.hid (bG.of H.out BX.out.2.2);clear bU;refine(IS.out Wa P1.out.re).mono ?_;rintro e w2⟨rfl,hp⟩;have X5:=Lib.hid (bB hp.only BX.out.1 (Ne.symm tD))
  have X6:=Lib.hid (bB hp.only BX.out.2.1 (Ne.symm nQ));have P2:=Lib.hid (P1.out.trans hp);clear hp;go_wp2_with fail;refine(AP.out w2 P2.out.re).mono ?_;intro e w3 hg;obtain⟨va,rfl,_,JV,hp⟩:=hg;obtain⟨vM,nA,cA,rfl,_⟩:=JV.jT;have Y5:=bB hp.only X5.out (Ne.symm tD);have Y6:=Lib.hid (bB hp.only X6.out (Ne.symm nQ));have P3:=Lib.hid (P2.out.trans hp);have RA:=Lib.hid JV;have X7:=heap_alloc_new w3 (.cells #[.slice vM nA cA,.slice none 0 0] 35)
  have B7:=aj (Below.refl _ w3) (.cells #[.slice vM nA cA,.slice none 0 0] 35);obtain⟨W4,dR⟩:∃W4,w3.alloc (.cells #[.slice vM nA cA,.slice none 0 0] 35)=W4:=⟨_,rfl⟩;obtain⟨X,hX⟩:∃X,w3.heap.size=X:=⟨_,rfl⟩;rw[dR]at X7 B7;rw[hX]at X7;have mC:=Lib.hid dR;have HX:=Lib.hid hX;have zw3:=ak Y5;have Y6:=Lib.hid ((B7.block _ (ak Y6.out)).trans Y6.out);have B7:=Lib.hid B7;have P4:=Lib.hid (P3.out.more B7.out);have X7:=Lib.hid X7;have rM:=Lib.cell_of_heap Y5 0;have c51:=Lib.cell_of_heap Y5 1
  have RE:W0.heap.size≠X:=by have:=P3.out.only.size;omega
  have z2:=ak X6.out;have z4:=ak X7.out;have z3:=P3.out.only.size;have RH:w2.heap.size≤X:=by have:=hp.only.size;omega
  have AW:=Lib.hid (show X=w3.heap.size from HX.out.symm);clear hp JV dR hX;go_wp2_with fail;rw[mC.out];simp only[HX.out];refine(DF.out W4 P4.out.re).mono ?_;rintro e w5⟨rfl,hp⟩;have Y6:=Lib.hid (bB hp.only Y6.out (Ne.symm nQ));have X7:=Lib.hid (bB hp.only X7.out (Ne.symm RE));have O5:=Lib.hid ((ag.of (T:=fun k=>k=W0.heap.size) B7.out).trans hp.only);have P5:=Lib.hid (P4.out.trans hp);clear hp rM c51;go_wp2_with fail;refine(RU.out w5 P5.out.re).mono ?_;intro e w6 hg;obtain⟨vr,rfl,_,JW,hp⟩:=hg
  obtain⟨vN,nR,cR,rfl,_⟩:=JW.jT;have Z6:=bB hp.only Y6.out (Ne.symm nQ);have Z7:=bB hp.only X7.out (Ne.symm RE);have z5:=ak X7.out;have Ew:X≠w.heap.size+1:=by omega
  have ale:w.heap.size+1≠X:=by omega
  have mr:=Lib.cell_of_heap Z6 0;have mu:=Lib.cell_of_heap Z6 1;have g6:=fun i=>Go.Joins.unfrozen_of_block Z6 i;have c70:=Lib.cell_of_heap Z7 0;have c71:=Lib.cell_of_heap Z7 1;have g7:=fun i=>Go.Joins.unfrozen_of_block Z7 i;have HP:=Lib.hid ((((P5.out.trans hp).set ef (show w.heap.size≤X by omega) 1 (.slice vN nR cR)).set ef (Nat.le_succ _) 0 (.slice vM nA cA)).set ef (Nat.le_succ _) 1 (.slice vN nR cR))
  have O6:ag (fun k=>k=W0.heap.size∨k=w.heap.size+1∨k=X) w3 _:=((((O5.out.trans hp.only).wide (fun _ _ e=>.inl e)).set (p:=⟨X,1,none⟩) (fun _=>.inr (.inr rfl)) (.slice vN nR cR)).set (p:=⟨w.heap.size+1,0,none⟩) (fun _=>.inr (.inl rfl)) (.slice vM nA cA)).set (p:=⟨w.heap.size+1,1,none⟩) (fun _=>.inr (.inl rfl)) (.slice vN nR cR)
  have O7:ag (fun k=>k=w.heap.size+1∨k=X) w6 _:=(((ag.refl _ w6).set (p:=⟨X,1,none⟩) (fun _=>.inr rfl) (.slice vN nR cR)).set (p:=⟨w.heap.size+1,0,none⟩) (fun _=>.inl rfl) (.slice vM nA cA)).set (p:=⟨w.heap.size+1,1,none⟩) (fun _=>.inl rfl) (.slice vN nR cR);have h3:=AW.out;have R1:=Lib.hid (JU (w:=w) RA.out O6 (fun k hk=>by rcases hk with e|e|e<;>omega) (by omega));have R2:=Lib.hid (JU (w:=w) JW O7 (fun k hk=>by rcases hk with e|e<;>omega) (by omega))
  clear hp Z6 Z7 JW O6 O7 h3;go_wp2;refine bodyPost_ret (v:=.agg #[.slice vM nA cA,.slice vN nR cR]) (by simp[results,Tryz.results61,go_sem,mr,mu]) rfl ⟨_,_,rfl,rfl,rfl,.cons R1.out (.cons R2.out .nil),HP.out⟩
end
def J1(ms:List Nat):List Deferred:=ms.map fun m=>{target:=.collected m,args:=#[]}
def od:List Nat→World→World
 |[],w=>w
 |m::ms,w=>od ms (w.putObj m (.deferred none))
theorem R8(T:Nat→Prop):∀(ms:List Nat)(w:World),(∀m∈ms,T m)→ag T w (od ms w)
 |[],w,_=>ag.refl _ w
 |m::ms,w,h=>(Em T w m _ (h m (List.mem_cons_self ..))).trans (R8 T ms _ (fun k hk=>h k (List.mem_cons_of_mem _ hk)))
theorem R9{F:Fence}{n:Nat}{P:Program}{fn:Func}{tmps:Array Value}{R:Ending→World→Prop}:∀(ms:List Nat)(w:World),ms.Nodup→(∀m∈ms,w.heap[m]?=some (.deferred (some [])))→(∃v,(results fn tmps).run P (od ms w)=.ok v (od ms w)∧R (.returned v) (od ms w))→LeavesInM F n P fn tmps R (J1 ms) .returning w
 |[],_,_,_,h=>h
 |m::ms,w,nd,hm,h=>by refine⟨by simp,.inl ⟨m,_,rfl,run_takeDeferred (hm m (List.mem_cons_self ..)),R9 ms _ (List.nodup_cons.1 nd).2 (fun k hk=>?_) h⟩⟩;exact(World.putObj_heap_other (fun e=>(List.nodup_cons.1 nd).1 (by rw[←e];exact hk))).trans (hm k (List.mem_cons_of_mem _ hk))
theorem EC{F:Fence}{n:Nat}{P:Program}{fn:Func}{R:Ending→World→Prop}{a:Act}{w:World}(ms:List Nat){v:Value}(hd:a.defers=J1 ms)(nd:ms.Nodup)(hm:∀m∈ms,w.heap[m]?=some (.deferred (some [])))(hr:(results fn a.tmps).run P (od ms w)=.ok v (od ms w))(h:R (.returned v) (od ms w)):bodyPostM F n P fn R .ret a w∧bodyPostM F n P fn R .normal a w:=by have:=R9 (F:=F) (n:=n) ms w nd hm ⟨v,hr,h⟩;rw[←hd]at this;exact⟨this,this⟩
def A6(l:List ByteArray)(st:ai)(_:Nat)(t:ByteArray):Bool×List ByteArray×ai:=(true,l++[t],st)
theorem R_(js:List JN):∀(ks:List Nat)(l:List ByteArray)(s:ai),lF js A6 ks l s=(true,(qk js ks s l).1,(qk js ks s l).2)
 |[],_,_=>rfl
 |k::ks,l,s=>by
  rw[lF,qk];by_cases h:(bD js s k).2.bad=true
  ·rw[if_pos h,if_pos h]
  ·rw[if_neg h,if_neg h];exact R_ js ks _ _
theorem aeo(js:List JN)(aa:List Nat)(s:ai)(k:Nat):rT js aa A6 [] s k=(true,(iE js aa s k).1,(iE js aa s k).2):=by
 unfold rT iE;split
 ·exact R_ js _ _ _
 ·rfl
theorem Sa{js:List JN}(hT:∀id,(iD js id).size≤1100000):∀(ks:List Nat)(s:ai)(l:List ByteArray),(∀t∈l,t.size≤1100000)→(∀t∈(qk js ks s l).1,t.size≤1100000)∧(qk js ks s l).1.length≤l.length+ks.length
 |[],_,_,h=>⟨h,Nat.le_refl _⟩
 |k::ks,s,l,h=>by
  rw[qk];split
  ·exact⟨h,Nat.le_add_right _ _⟩
  ·have:=Sa hT ks (bD js s k).2 (l++[(bD js s k).1]) (fun t ht=>by
    rcases List.mem_append.1 ht with ht|ht
    ·exact h t ht
    ·rw[List.mem_singleton.1 ht];exact Eg hT s k)
   refine⟨this.1,Nat.le_trans this.2 ?_⟩;rw[List.length_append,List.length_cons,List.length_cons,List.length_nil];omega
theorem aep{js:List JN}{aa:List Nat}(hT:∀id,(iD js id).size≤1100000)(hk:∀k,(kids aa k).length≤100000)(s:ai)(k:Nat):(∀t∈(iE js aa s k).1,t.size≤1100000)∧(iE js aa s k).1.length≤100000:=by
 unfold iE;split
 ·have:=Sa hT (kids aa k) (ba js s k 5).2 [] (fun t ht=>by cases ht);exact⟨this.1,Nat.le_trans this.2 (by have:=hk k;simp;omega)⟩
 ·exact⟨fun t ht=>(by cases ht),Nat.zero_le _⟩
structure gi(W0 Wv:World)(vv:Value)(D:Nat)(W6:World)(N:Nat)(key:ByteArray)(st:ai)(v:Value)(l:List ByteArray)(W:World):Prop where
 re:aC W0 Wv vv W D st
 only:ag (fun b=>b=W0.heap.size∨b=N) W6 W
 box:W.heap[N]?=some (.cells #[.string key,v] 103 (0,0))
 row:fu W6.heap.size 9 1 W v l.length (l.map .str)
 low:Wv.heap.size≤N
 hi:N<W6.heap.size
section
variable{W0 Wv W6 W w':World}{vv v:Value}{D N:Nat}{key:ByteArray}{st ff:ai}{l:List ByteArray}
theorem gi.w0(h:gi W0 Wv vv D W6 N key st v l W):W0.heap.size<N:=Nat.lt_of_lt_of_le h.re.vars.lt h.low
theorem gi.call(h:gi W0 Wv vv D W6 N key st v l W)(hp:bG W0 Wv vv W D ff w'):gi W0 Wv vv D W6 N key ff v l w':=by have h0:=h.w0;have h1:=h.hi;exact⟨hp.re,h.only.trans (hp.only.wide (fun _ _ t=>.inl t)),bB hp.only h.box (by omega),h.row.turn hp.only (fun g hg e=>by have:=(h.row.pj.lt g hg).1;omega),h.low,h.hi⟩
theorem gi.ext(h:gi W0 Wv vv D W6 N key st v l W)(hb:Below W.heap.size W w'):gi W0 Wv vv D W6 N key st v l w':=h.call (bG.of h.re hb)
def qK(W0 Wv:World)(vv:Value)(D:Nat)(W6:World)(N:Nat)(key:ByteArray)(Z:Nat→Prop)(l:List ByteArray)(st:ai)(W:World):Prop:=∃v,gi W0 Wv vv D W6 N key st v l W∧∀k,Z k→k<W.heap.size∧k≠W0.heap.size∧k≠N∧v.ownBlock≠some k
theorem qK.tells:zZ W0 Wv vv D (qK W0 Wv vv D W6 N key):=by
 refine⟨fun h=>by obtain⟨v,h,_⟩:=h;exact h.re,fun{Z b st ff W W'}h hp=>?_,fun h k hk=>by obtain⟨v,_,hz⟩:=h;exact⟨(hz k hk).1,(hz k hk).2.1⟩⟩;obtain⟨v,h,hz⟩:=h;have h0:=h.w0;have hx:=ak h.box;have hl:=h.row.pj.lt;refine⟨v,h.call hp,fun j hj=>?_⟩;rcases hj with hj|hj
 ·obtain⟨a,b,c,d⟩:=hz j hj;exact⟨Nat.lt_of_lt_of_le a hp.only.size,b,c,d⟩
 ·exact⟨hj.2,by omega,by omega,fun e=>by have:=(hl j e).2;omega⟩
theorem qK.put{Z:Nat→Prop}{m:Nat}(o:Obj)(h:qK W0 Wv vv D W6 N key Z l st W)(hZ:Z m)(hm:W6.heap.size≤m):qK W0 Wv vv D W6 N key Z l st (W.putObj m o):=by obtain⟨v,h,hz⟩:=h;have h0:=h.w0;have h1:=h.hi;have pn:=h.low;have ho:=Em (fun b=>b=m) W m o rfl;exact⟨v,⟨h.re.turn ho (fun k hk=>by omega),⟨h.only.os,h.only.tape,h.only.output,by have:=h.only.size;simpa using this,fun k hk hn=>(World.putObj_heap_other (by omega)).trans (h.only.block k hk hn)⟩,bB ho h.box (by omega),h.row.turn ho (fun g hg e=>(hz m hZ).2.2.2 (by rw[hg,e])),pn,h1⟩,fun j hj=>by have:=hz j hj;simpa using this⟩
theorem gi.push{cells:List Value}{t:ByteArray}{o:Obj}{v2:Value}{w2:World}(h:gi W0 Wv vv D W6 N key st v l W)(h1:W.ownsRow W6.heap.size 9 1 v l.length cells)(h2:bp (fun _=>False) W cells (l.map .str))(az:w2.ownsRow W6.heap.size 9 1 v2 (l.length+1) (cells++[.string t]))(hg:(W.alloc o).grownBy w2 v.ownBlock):gi W0 Wv vv D W6 N key st v2 (l++[t]) (w2.setCell ⟨N,1,none⟩ v2)∧w2.cell? ⟨N,1,none⟩=some v∧w2.frozen? ⟨N,1,none⟩=false:=by
 have h0:=h.w0;have pn:=h.low;have hi:=h.hi;have jo:ag (fun b=>False∨v.ownBlock=some b) W w2:=(ag.refl (fun _=>False) W).push h1 hg;have hF:fu W6.heap.size 9 1 w2 v2 (l.length+1) (l.map .str++[.str t]):=⟨_,az,(h2.append (.cons (.str t) .nil)).mono (fun _ e=>e.elim) (fun _ e=>e)⟩;have dp:w2.heap[N]?=some (.cells #[.string key,v] 103 (0,0)):=bB jo h.box (by rintro(e|e);exact e;have:=(h1.lt _ e).1;omega)
 have hs:ag (fun b=>b=N) w2 (w2.setCell ⟨N,1,none⟩ v2):=(ag.refl (fun b=>b=N) w2).set (p:=⟨N,1,none⟩) (fun _=>rfl) v2;refine⟨⟨(h.re.turn jo (fun j hj=>by rcases hj with e|e;exact e.elim;have:=(h1.lt j e).1;omega)).set pn 1 v2,?_,?_,?_,pn,hi⟩,Lib.cell_of_heap dp 1,Go.Joins.unfrozen_of_block dp 1⟩
 ·refine(((h.only.wide (T':=fun b=>(b=W0.heap.size∨b=N)∨v.ownBlock=some b) (fun _ _ e=>.inl e)).trans (jo.wide (fun _ _ e=>by rcases e with e|e;exact e.elim;exact .inr e))).trans (hs.wide (fun _ _ e=>.inl (.inr e)))).wide (fun b hb e=>?_);rcases e with e|e
  ·exact e
  ·have:=(h1.lt b e).1;omega
 ·have:=Go.Joins.block_setCell dp (i:=1) v2;exact this
 ·have:=hF.turn hs (fun g qe e=>by have:=(az.lt g qe).1;omega);rw[List.length_append,List.map_append];exact this
end
end Go.Proofs.YtcaiibkgajhohaaGreatDoor
