/- waybill: lemmas and walks, printed from longer texts. -/
import Derived.Test.YtcaiibkgajhohaaGreatDoorM37
set_option maxRecDepth 100000
set_option maxHeartbeats 16000000
namespace Go.Proofs.YtcaiibkgajhohaaGreatDoor
open Go.RowKit
theorem agE(f:Fl)(h:f.code=0):(f.add false true).code=31:=by unfold Fl.code at h;unfold Fl.add Fl.code;cases hu:f.vV<;>cases ht:f.twice<;>simp[hu,ht]at h⊢
theorem agF(f:Fl)(h:f.code≠0):(f.add false true).code=f.code:=by unfold Fl.code at h;unfold Fl.add Fl.code;cases hu:f.vV<;>cases ht:f.twice<;>simp[hu,ht]at h⊢
theorem cJ.code{w0 w:World}{X:Nat}{f g:Fl}(h:cJ w0 w X f)(hc:f.code=g.code):cJ w0 w X g:=⟨h.below,h.le,by rw[←hc];exact h.dJ⟩
structure gF(w0 w2:World)(X:Nat)(F:Fl)(N:Nat)(pk pf:ByteArray)(v5:Value)(j:Nat)(ts:List ByteArray)(W:World):Prop where
 bq:cJ w0 W X F
 box:W.heap[N]?=some (.cells #[.string pk,.string pf] 100 (0,0))
 own:W.ownsRow w2.heap.size 9 1 v5 j (bo ts)
 only:ag (fun b=>b=X) w2 W
section
variable{w0 w2:World}{X N j:Nat}{F G:Fl}{pk pf:ByteArray}{v5:Value}{ts:List ByteArray}{W:World}
theorem gF.drew(h:gF w0 w2 X F N pk pf v5 j ts W):gF w0 w2 X F N pk pf v5 j ts W.drew:=⟨⟨h.bq.below.drew,h.bq.le,h.bq.dJ⟩,h.box,h.own,⟨h.only.os,h.only.tape,h.only.output,h.only.size,h.only.block⟩⟩
theorem gF.drewN(h:gF w0 w2 X F N pk pf v5 j ts W)(k:Nat):gF w0 w2 X F N pk pf v5 j ts (W.drewN k):=⟨⟨eW _ h.bq.below,h.bq.le,h.bq.dJ⟩,h.box,h.own,⟨h.only.os,h.only.tape,h.only.output,h.only.size,h.only.block⟩⟩
theorem gF.set(h:gF w0 w2 X F N pk pf v5 j ts W)(hX:X<w2.heap.size)(hN:N≠X){u:Value}(hu:u=.int .i64 G.code):gF w0 w2 X G N pk pf v5 j ts (W.setCell ⟨X,0,none⟩ u):=⟨h.bq.set hu,(Below.heap_setCell _ _ _ N (fun e=>hN e)).trans h.box,bu h.own (fun g hg=>Below.heap_setCell _ _ _ g (fun e=>by have:=(h.own.lt g hg).1;have e:g=X:=e;omega)) (Nat.le_refl _),h.only.set (p:=⟨X,0,none⟩) (fun _=>rfl) _⟩
theorem gF.cells(h:gF w0 w2 X F N pk pf v5 j ts W):W.cell? ⟨N,0,none⟩=some (.string pk)∧W.cell? ⟨N,1,none⟩=some (.string pf):=⟨Lib.cell_of_heap h.box 0,Lib.cell_of_heap h.box 1⟩
theorem gF.call{w':World}(h:gF w0 w2 X F N pk pf v5 j ts W)(hp:cJ w0 w' X G)(ho:ag (fun b=>b=X) W w')(hX:X<w2.heap.size)(hN:N≠X):gF w0 w2 X G N pk pf v5 j ts w':=⟨hp,(ho.block _ (ak h.box) hN).trans h.box,bu h.own (fun g hg=>ho.block g (h.own.lt g hg).2 (fun e=>by have:=(h.own.lt g hg).1;omega)) (Nat.le_refl _),h.only.trans ho⟩
theorem gF.next{w6:World}{o:Obj}(h:gF w0 w2 X F N pk pf v5 j ts W)(hg:(W.alloc o).grownBy w6 v5.ownBlock)(hX:X<w2.heap.size)(hN:some N≠v5.ownBlock)(h0:Below w0.heap.size w0 w2):cJ w0 w6 X F∧ag (fun b=>b=X) w2 w6∧w6.cell? ⟨N,0,none⟩=some (.string pk)∧w6.cell? ⟨N,1,none⟩=some (.string pf):=by
 have hk:∀k,v5.ownBlock=some k→w2.heap.size≤k:=fun k e=>(h.own.lt k e).1;have hz:=h0.size;refine⟨(h.bq.ext (aj (Below.refl _ W) o)).turn (T:=fun b=>v5.ownBlock=some b) ((ag.refl _ (W.alloc o)).grown hg (fun k e _=>e)) (fun k e=>by have:=hk k e;exact⟨by omega,by omega⟩),(h.only.alloc o).grown hg (fun k e hl=>by have:=hk k e;omega),?_,?_⟩
 ·have hl:=ak h.box;exact(hg.cell_far (a:=⟨N,0,none⟩) (by simp;omega) hN).trans (jA _ h.cells.1)
 ·have hl:=ak h.box;exact(hg.cell_far (a:=⟨N,1,none⟩) (by simp;omega) hN).trans (jA _ h.cells.2)
end
def KS(p:KV):Nat:=aJ p.1+p.2.size+1
def UR(w0 w2:World)(X:Nat)(f:Fl)(s:List KV)(v k:Value)(wr:World):Prop:=∃(j:Nat)(ts:List ByteArray),k=.int .i64 j∧j≤s.length∧cJ w0 wr X (f.add (cH ((s.map (·.1)).take j)) (kP (s.map (·.1)) j))∧ag (fun b=>b=X) w2 wr∧wr.ownsRow w2.heap.size 9 1 v j (bo ts)∧eM KS (fun p=>aN p.1) eA (s.take j) ts
theorem agG(l:List ByteArray){j:Nat}{t:ByteArray}(h:l[j]?=some t):cH (l.take (j+1))=(cH (l.take j)||!aN t):=kf _ _ h
theorem US(f:Fl)(s:List KV){j:Nat}{p:KV}(h:s[j]?=some p)(a:Bool)(ha:a=decide (0<j∧bF (s.map (·.1)) (j-1)=bF (s.map (·.1)) j)):((f.add (cH ((s.map (·.1)).take j)) (kP (s.map (·.1)) j)).add false a).add (!aN p.1) false=f.add (cH ((s.map (·.1)).take (j+1))) (kP (s.map (·.1)) (j+1)):=by rw[Fl.add_add,Fl.add_add,afF,←ha,agG _ (t:=p.1) (by rw[List.getElem?_map,h];rfl)];simp
theorem agH{k v T:ByteArray}(h:Tx (aJ k) (aN k) (aG k) T):Tx (KS (k,v)) (aN k) (eA (k,v)) (T++⟨#[58]⟩++v):=by refine⟨?_,fun ho=>by rw[h.eq ho];rfl⟩;rw[ByteArray.size_append,ByteArray.size_append];have h1:=h.size;have e:(⟨#[58]⟩:ByteArray).size=1:=rfl;show _≤aJ k+v.size+1;omega
theorem UT{s:List KV}{j:Nat}{p:KV}(h:s[j]?=some p):bF (s.map (·.1)) j=p.1:=Kr h
theorem ya(w0 w:World)(X:Nat)(f:Fl)(v:Value)(l:List KV)(B:Nat)(h:cJ w0 w X f)(he:gI w0)(hr:w.ownsRow B 100 2 v l.length (l.flatMap iW))(UU:X<B)(hk:∀p∈l,p.1.size≤1048576)(hz:cj l≤100000000000000)(hm:l.length≤1100000):Calls Tryz.prog 41 #[an X,v] w fun e w'=>∃T,e=.returned (.string T)∧Tx (cj l) (!(cH (l.map (·.1)))&&!db (l.map (·.1))) (dW l) T∧cJ w0 w' X (f.add (cH (l.map (·.1))) (db (l.map (·.1))))∧ag (fun b=>b=X∨v.ownBlock=some b) w w':=by
 obtain⟨ao,cap,rfl,uD⟩:=aM hr;have SM:=Lib.hid (agD w B _ l hm hr);have HR:=Lib.hid hr;have H:=Lib.hid h;have HE:=Lib.hid he;have HZ:=Lib.hid hz;have HK:=Lib.hid hk;have HAO:=Lib.hid uD;obtain⟨n,hn⟩:∃n,l.length=n:=⟨_,rfl⟩;have ud:=Lib.hid hn;rw[hn]at SM hm HR⊢;clear h he hr hk hz uD hn;unfold an;go_enter Tryz.func41,Tryz.ntmps41;go_wp2_with fail;go_at_call 76;refine SM.out.mono ?_;rintro _ w2⟨rfl,s,qQ,BD,aE,aL⟩
 have O2:=Lib.hid (show ag (fun b=>Value.ownBlock (.slice ao n cap)=some b) w w2 from(ag.refl _ w).grown aL (fun k hk _=>hk));have P2:=Lib.hid (H.out.turn (T:=fun b=>Value.ownBlock (.slice ao n cap)=some b) O2.out (fun k hk=>by have h1:=(HR.out.lt k hk).1;have h2:=H.out.le;exact⟨by omega,by omega⟩));have oK:s.length=n:=by rw[qQ.length_eq];exact ud.out
 have pC:=Lib.hid qQ;have cM:=Lib.hid BD;have jt:=Lib.hid aE;have k7:=Lib.hid oK;clear aE aL SM qQ BD oK;go_wp2_with fail;go_loopw[5,12](UR w0 w2 X f s)(fun _ i _=>n-(intOf i).toNat);case atStart=>exact⟨0,[],rfl,Nat.zero_le _,by simpa[cH,kP,Fl.dO]using P2.out,ag.refl _ _,by simpa[bo]using World.ownsRow_nil w2 w2.heap.size 9 1,eM.nil⟩
 case round=>
  obtain⟨j,ts,rfl,hj,hp,ho,az,dy⟩:=hrel;rw[k7.out]at hj;obtain⟨ax,cx,rfl,_⟩:=aM az;have HP:=Lib.hid hp;have HO:=Lib.hid ho;have HW:=Lib.hid az;have HT:=Lib.hid dy;clear hp ho az dy;by_cases hlt:j<n
  ·have t1:decide ((j:Int)<(n:Int))=true:=decide_eq_true (by omega);have aT:decide (j<n)=true:=decide_eq_true hlt;have q1:IntKind.i64.wrap ((j:Int)+1)=(j:Int)+1:=IntWalk.i64_in _ (by omega);obtain⟨p,v_⟩:=bN s j (by rw[k7.out];exact hlt)
   obtain⟨g,rfl,xS,hgz⟩:∃g,ao=some ⟨g,0,none⟩∧B≤g∧g<w.heap.size:=by
    rcases HAO.out with⟨h0,_⟩|h
    ·have:=ud.out;omega
    ·exact h
   have zg2:g<w2.heap.size:=(jt.out.lt g rfl).2;have KT:g≠X:=by omega
   have CK:=Lib.hid (fun W(hW:ag (fun b=>b=X) w2 W)(i:Nat)(q:KV)(hq:s[i]?=some q)=>(show W.cell? ⟨g,i*2,none⟩=some (.string q.1)∧W.cell? ⟨g,i*2+1,none⟩=some (.string q.2)from by(have e:∀o,W.cell? ⟨g,o,none⟩=w2.cell? ⟨g,o,none⟩:=fun o=>by unfold World.cell?;rw[hW.block g zg2 KT]);exact⟨(e _).trans (pY Bz jt.out hq (j:=0) (by decide)),(e _).trans (pY Bz jt.out hq (j:=1) (by decide))⟩));have c0:=(CK.out wr HO.out j p v_).1
   have c1:=(CK.out wr HO.out j p v_).2;have UW:=Lib.hid v_;have Fk:=HK.out p (pC.out.mem_iff.1 (List.mem_of_getElem? v_));have kA:p.2.size≤100000000000000:=by have h1:aJ p.1+p.2.size+2≤(l.map fun p=>aJ p.1+p.2.size+2).sum:=vX (f:=fun p:KV=>aJ p.1+p.2.size+2) (pC.out.mem_iff.1 (List.mem_of_getElem? v_));have h2:=HZ.out;unfold cj at h2;omega
   obtain⟨pk,pf⟩:=p;have X4:=heap_alloc_new wr (.cells #[.string pk,.string pf] 100);have E4:=aj (Below.refl _ wr) (.cells #[.string pk,.string pf] 100);obtain⟨a,pD⟩:∃a:Bool,a=decide (0<j∧bF (s.map (·.1)) (j-1)=bF (s.map (·.1)) j):=⟨_,rfl⟩;have FS:=Lib.hid (US f s v_ a pD);obtain⟨cur,qx⟩:∃cur,f.add (cH ((s.map (·.1)).take j)) (kP (s.map (·.1)) j)=cur:=⟨_,rfl⟩;rw[qx]at FS;have KW:=HP.out;rw[qx]at KW
   have F4:gF w0 w2 X cur wr.heap.size pk pf (.slice ax j cx) j ts (wr.alloc (.cells #[.string pk,.string pf] 100)):=⟨KW.ext E4,X4,HW.out.alloc _,HO.out.trans (ag.of E4)⟩;obtain⟨W4,dR⟩:∃W,wr.alloc (.cells #[.string pk,.string pf] 100)=W:=⟨_,rfl⟩;obtain⟨N,hN⟩:∃N,wr.heap.size=N:=⟨_,rfl⟩;have yb:X<w2.heap.size:=P2.out.lt;have yc:N≠X:=by have:=HO.out.size;omega
   rw[dR,hN]at F4;have kT:=Lib.hid F4;have kU:=Lib.hid (And.intro dR hN);clear X4 E4 qx KW F4 dR hN v_
   have ways:(j=0∧a=false)∨(∃q:KV,0<j∧s[j-1]?=some q∧(q.1.toList==pk.toList)=false∧a=false)∨(∃q:KV,0<j∧s[j-1]?=some q∧(q.1.toList==pk.toList)=true∧cur.code≠0∧a=true)∨(∃q:KV,0<j∧s[j-1]?=some q∧(q.1.toList==pk.toList)=true∧cur.code=0∧a=true):=by
    by_cases h0:j=0
    ·exact .inl ⟨h0,by rw[pD];exact decide_eq_false (by omega)⟩
    ·obtain⟨q,hq⟩:=bN s (j-1) (by rw[k7.out];omega);rw[UT hq,UT UW.out]at pD;by_cases e:q.1=pk
     ·have ht:a=true:=by rw[pD];exact decide_eq_true ⟨by omega,e⟩
      by_cases hc:cur.code=0
      ·exact .inr (.inr (.inr ⟨q,by omega,hq,iL e,hc,ht⟩))
      ·exact .inr (.inr (.inl ⟨q,by omega,hq,iL e,hc,ht⟩))
     ·exact .inr (.inl ⟨q,by omega,hq,mX e,by rw[pD];exact decide_eq_false (fun h=>e h.2)⟩)
   clear pD;have TX:=Lib.hid (fun W(hW:gF w0 w2 X (cur.add false a) N pk pf (.slice ax j cx) j ts W)=>(show Calls Tryz.prog 75 #[.pointer (some ⟨X,0,none⟩),.string pk] W fun e w'=>∃T,e=.returned (.string T)∧Tx (aJ pk) (aN pk) (aG pk) T∧gF w0 w2 X ((cur.add false a).add (!aN pk) false) N pk pf (.slice ax j cx) j ts w' from(Br w0 W X _ pk hW.bq HE.out Fk).mono (fun e w' hh=>by obtain⟨T,h1,h2,h3,h4⟩:=hh;exact⟨T,h1,h2,hW.call h3 h4 yb yc⟩)))
   have NE:Hid (some N≠Value.ownBlock (.slice ax j cx)):=Lib.hid (fun e=>by have h1:=(HW.out.lt N e.symm).2;have h2:=kU.out.2;omega);rcases ways with⟨h0,ha⟩|⟨q,h0,hq,te,ha⟩|⟨q,h0,hq,te,hc,ha⟩|⟨q,h0,hq,te,hc,ha⟩
   case' inl=>have t2:decide ((0:Int)<(j:Int))=false:=decide_eq_false (by omega);have dM:decide (0<j)=false:=decide_eq_false (by omega);have HF:=Lib.hid (show∀k,gF w0 w2 X (cur.add false a) N pk pf (.slice ax j cx) j ts (W4.drewN k)from fun k=>by rw[ha,Fl.dO];exact kT.out.drewN k);clear ha h0
   case' inr.inl=>
    have t2:decide ((0:Int)<(j:Int))=true:=decide_eq_true (by omega);have dM:decide (0<j)=true:=decide_eq_true (by omega);have HF:=Lib.hid (show∀k,gF w0 w2 X (cur.add false a) N pk pf (.slice ax j cx) j ts (W4.drewN k)from fun k=>by rw[ha,Fl.dO];exact kT.out.drewN k);have d0:=(CK.out W4 kT.out.only (j-1) q hq).1;obtain⟨m,hm⟩:∃m,j-1=m:=⟨_,rfl⟩;rw[hm]at d0;have e1:(j:Int)-1=(m:Int):=by omega
    have q3:IntKind.i64.wrap (m:Int)=(m:Int):=IntWalk.i64_in _ (by omega);have By:m<n:=by omega
    clear hm h0;clear ha hq
   case' inr.inr.inl=>
    have t2:decide ((0:Int)<(j:Int))=true:=decide_eq_true (by omega);have dM:decide (0<j)=true:=decide_eq_true (by omega);have HF:=Lib.hid (show∀k,gF w0 w2 X (cur.add false a) N pk pf (.slice ax j cx) j ts (W4.drewN k)from fun k=>by have h:=kT.out.drewN k;exact⟨h.bq.code (by rw[ha];exact(agF cur hc).symm),h.box,h.own,h.only⟩);have d0:=(CK.out W4 kT.out.only (j-1) q hq).1;obtain⟨m,hm⟩:∃m,j-1=m:=⟨_,rfl⟩;rw[hm]at d0;have e1:(j:Int)-1=(m:Int):=by omega
    have q3:IntKind.i64.wrap (m:Int)=(m:Int):=IntWalk.i64_in _ (by omega);have By:m<n:=by omega
    clear hm h0;have tz:(cur.code==0)=false:=by simpa using hc
    clear ha hq hc
   case' inr.inr.inr=>
    have t2:decide ((0:Int)<(j:Int))=true:=decide_eq_true (by omega);have dM:decide (0<j)=true:=decide_eq_true (by omega);have HF:=Lib.hid (show∀k,gF w0 w2 X (cur.add false a) N pk pf (.slice ax j cx) j ts ((W4.drewN k).setCell ⟨X,0,none⟩ (.int .i64 31))from fun k=>(kT.out.drewN k).set yb yc (by rw[ha,agE cur hc]));have d0:=(CK.out W4 kT.out.only (j-1) q hq).1;obtain⟨m,hm⟩:∃m,j-1=m:=⟨_,rfl⟩;rw[hm]at d0;have e1:(j:Int)-1=(m:Int):=by omega
    have q3:IntKind.i64.wrap (m:Int)=(m:Int):=IntWalk.i64_in _ (by omega);have By:m<n:=by omega
    clear hm h0;have tz:(cur.code==0)=true:=by simpa using hc
    clear ha hq hc
   all_goals
    have n0:=kT.out.cells.1;have n1:=kT.out.cells.2;have x0:=Lib.cell_of_heap kT.out.bq.dJ 0;have x1:=Go.Joins.unfrozen_of_block kT.out.bq.dJ 0;go_wp2_with fail;rw[kU.out.1];simp only[kU.out.2];go_quiet(fail);go_wp2_with fail;refine wp_region_noPanic ?_;refine wp_region_held_drew (S:=fun W=>W.cell? ⟨N,0,none⟩=some (.string pk)∧W.cell? ⟨N,1,none⟩=some (.string pf)) (by kernel_rfl) (HF.out 0).cells (fun aB=>?_)
    refine wpAnyH_take (i:=0) (oi:=_) (v:=.slice ax j cx) rfl (by kernel_rfl) (by kernel_rfl) (by kernel_rfl) (fun _ _ _ h=>h) (Or.inl ⟨by rfl,?_⟩) aB ?_
    ·intro w al;obtain⟨y0,y1⟩:=al;go_simp
    try simp only[Act.put,List.setIfInBounds_toArray,List.set_cons_zero,List.set_cons_succ,List.getElem_toArray,List.getElem_cons_zero]
    refine wpAnyH_take (i:=1) (oi:=_) (v:=.pointer (some ⟨X,0,none⟩)) rfl (by kernel_rfl) (by kernel_rfl) (by kernel_rfl) (fun _ _ _ h=>h) (Or.inl ⟨by rfl,?_⟩) aB ?_
    ·intro w al;obtain⟨y0,y1⟩:=al;go_simp
    try simp only[Act.put,List.setIfInBounds_toArray,List.set_cons_zero,List.set_cons_succ,List.getElem_toArray,List.getElem_cons_zero,List.getElem_cons_succ]
    refine wpAnyH_take (i:=2) (oi:=_) (v:=.pointer (some ⟨N,0,none⟩)) rfl (by kernel_rfl) (by kernel_rfl) (by kernel_rfl) (fun _ _ _ h=>h) (Or.inl ⟨by rfl,?_⟩) aB ?_
    ·intro w al;obtain⟨y0,y1⟩:=al;go_simp
    try simp only[Act.put,List.setIfInBounds_toArray,List.set_cons_zero,List.set_cons_succ,List.getElem_toArray,List.getElem_cons_zero,List.getElem_cons_succ]
    refine wpAnyH_take (i:=3) (oi:=_) (v:=.string pk) rfl (by kernel_rfl) (by kernel_rfl) (by kernel_rfl) (fun _ _ _ h=>h) (Or.inl ⟨by rfl,?_⟩) aB ?_
    ·intro w al;obtain⟨y0,y1⟩:=al;go_simp
    try simp only[Act.put,List.setIfInBounds_toArray,List.set_cons_zero,List.set_cons_succ,List.getElem_toArray,List.getElem_cons_zero,List.getElem_cons_succ]
    refine wpAnyH_take (i:=6) (oi:=_) (v:=.pointer (some ⟨N,1,none⟩)) rfl (by kernel_rfl) (by kernel_rfl) (by kernel_rfl) (fun _ _ _ h=>h) (Or.inl ⟨by rfl,?_⟩) aB ?_
    ·intro w al;obtain⟨y0,y1⟩:=al;go_simp
    try simp only[Act.put,List.setIfInBounds_toArray,List.set_cons_zero,List.set_cons_succ,List.getElem_toArray,List.getElem_cons_zero,List.getElem_cons_succ]
    refine wpAnyH_take (i:=7) (oi:=_) (v:=.string pf) rfl (by kernel_rfl) (by kernel_rfl) (by kernel_rfl) (fun _ _ _ h=>h) (Or.inl ⟨by rfl,?_⟩) aB ?_
    ·intro w al;obtain⟨y0,y1⟩:=al;go_simp
    try simp only[Act.put,List.setIfInBounds_toArray,List.set_cons_zero,List.set_cons_succ,List.getElem_toArray,List.getElem_cons_zero,List.getElem_cons_succ]
    refine wpAnyH_ready (rs:=[4]) (by kernel_rfl) (by simp) ?_;refine AllReadyH.cons (o:=_) rfl (fun K hK=>?_) AllReadyH.nil;go_simp;refine(TX.out _ (HF.out _).drew).mono ?_;intro e w5 sg;obtain⟨T,rfl,hT,ue⟩:=sg;have uf:=Lib.hid hT;have kV:=Lib.hid ue;have hT9:T.size≤10000000:=by have h1:=hT.size;have h2:=Fk;have h3:pk.size≤1048576:=h2;unfold aJ at h1;omega
    clear hT ue;go_wp2_with fail;refine hK.out _ _ kV.out.cells (fun aB=>?_);clear hK K;try simp only[Act.put,List.setIfInBounds_toArray,List.set_cons_zero,List.set_cons_succ,List.getElem_toArray,List.getElem_cons_zero,List.getElem_cons_succ]
    refine wpAnyH_take (i:=5) (oi:=_) (v:=.string (T++⟨#[58]⟩)) rfl (by kernel_rfl) (by kernel_rfl) (by kernel_rfl) (fun _ _ _ h=>h) (Or.inl ⟨by rfl,?_⟩) aB ?_
    ·intro w al;obtain⟨y0,y1⟩:=al;go_simp;omega
    try simp only[Act.put,List.setIfInBounds_toArray,List.set_cons_zero,List.set_cons_succ,List.getElem_toArray,List.getElem_cons_zero,List.getElem_cons_succ]
    refine wpAnyH_take (i:=8) (oi:=_) (v:=.string (T++⟨#[58]⟩++pf)) rfl (by kernel_rfl) (by kernel_rfl) (by kernel_rfl) (fun _ _ _ h=>h) (Or.inl ⟨by rfl,?_⟩) aB ?_
    ·intro w al;obtain⟨y0,y1⟩:=al;go_simp;omega
    try simp only[Act.put,List.setIfInBounds_toArray,List.set_cons_zero,List.set_cons_succ,List.getElem_toArray,List.getElem_cons_zero,List.getElem_cons_succ]
    refine wpAnyH_ready (rs:=[9]) (by kernel_rfl) (by simp) ?_;refine AllReadyH.cons (o:=_) rfl (fun K hK=>?_) AllReadyH.nil;go_simp;have W6:=Lib.hid (aj (Below.refl _ w5) (.cells #[.string (T++⟨#[58]⟩++pf)] 9));refine hK.out _ _ ⟨jA _ kV.out.cells.1,jA _ kV.out.cells.2⟩ (fun aB=>?_);clear hK K;try simp only[Act.put,List.setIfInBounds_toArray,List.set_cons_zero,List.set_cons_succ,List.getElem_toArray,List.getElem_cons_zero,List.getElem_cons_succ]
    obtain⟨i0,dw,bT,bW,bA⟩:=info_parts eK.hi;refine wpAnyH_ready (rs:=[10]) (by kernel_rfl) (by simp) ?_;refine AllReadyH.cons (o:=_) rfl (fun K hK=>?_) AllReadyH.nil
    refine step_append_lies _ (by rfl) _ _ _ (by rfl) w2.heap.size 9 i0 _ 1 16 Tryz.underlying96 dw bT bW bA rfl (by omega) (.slice ax j cx) j _ (by rfl) (kV.out.own.alloc _) ⟨w5.heap.size,0,none⟩ 1 1 [.string (T++⟨#[58]⟩++pf)] (by rfl) (by rfl) (World.news_of_block (cs:=#[.string (T++⟨#[58]⟩++pf)]) (t:=9) (fr:=(0,0)) (heap_alloc_new w5 _)) (by simp[Value.oneCell']) (by omega) (by unfold maxLen;omega) (by omega) (by have:=kV.out.only.size;simp;omega) (w5.heap.size+1) (by simp) ?_
    intro g' cap' w6 lq cZ cf we;have NX:=kV.out.next cZ yb NE.out P2.out.below;have oe:=NX.2.2
    have R:UR w0 w2 X f s (.slice (some ⟨g',0,none⟩) (j+1) cap') (.int .i64 ((j:Int)+1)) w6:=by
     refine⟨j+1,ts++[T++⟨#[58]⟩++pf],by go_num,by rw[k7.out];exact hlt,?_,NX.2.1,?_,HT.out.snoc UW.out (agH uf.out)⟩
     ·rw[←FS.out];exact NX.1
     ·have e:bo (ts++[T++⟨#[58]⟩++pf])=bo ts++[.string (T++⟨#[58]⟩++pf)]:=by simp[bo]
      rw[e];exact lq
    have br:=Lib.hid R;clear R lq cZ cf we NX;refine hK.out _ _ oe (fun aB=>?_);clear hK K;try simp only[Act.put,List.setIfInBounds_toArray,List.set_cons_zero,List.set_cons_succ,List.getElem_toArray,List.getElem_cons_zero,List.getElem_cons_succ]
    refine wpAnyH_take (i:=11) (oi:=_) (v:=.slice (some ⟨g',0,none⟩) (j+1) cap') rfl (by kernel_rfl) (by kernel_rfl) (by kernel_rfl) (fun _ _ _ h=>h) (Or.inl ⟨by rfl,?_⟩) aB ?_
    ·intro w al;obtain⟨y0,y1⟩:=al;go_simp
    try simp only[Act.put,List.setIfInBounds_toArray,List.set_cons_zero,List.set_cons_succ,List.getElem_toArray,List.getElem_cons_zero,List.getElem_cons_succ]
    refine wpAnyH_done (by kernel_rfl) ?_ _;refine NoPanic.normal ?_;go_wp2;refine⟨?_,by simp[intOf];omega⟩;first|exact br.out|((repeat apply Exists.intro);exact⟨br.out,rfl⟩)
  ·have t1:decide ((j:Int)<(n:Int))=false:=decide_eq_false (by omega);have aT:decide (j<n)=false:=decide_eq_false hlt;have kh:j=s.length:=by rw[k7.out];omega
   have hT:=HT.out;have hP:=HP.out;rw[kh,List.take_length]at hT;rw[show(s.map (·.1)).take j=s.map (·.1)from List.take_of_length_le (by rw[List.length_map];omega),show kP (s.map (·.1)) j=db (s.map (·.1))from by rw[kh,←List.length_map (f:=fun x:KV=>x.1)];exact TH (TN cM.out),Ks (pC.out.map (·.1)),Kq (pC.out.map (·.1))]at hP;have hlen:ts.length=j:=by rw[hT.len,kh]
   have xz:(J ts).size+2≤cj l:=by have h1:=Bj ts;have h2:=hT.sum;have h3:=E2 pC.out;have e:(s.map fun x=>KS x+1).sum=(s.map fun p=>aJ p.1+p.2.size+2).sum:=rfl;rw[e]at h2;rw[←h3];unfold cj;omega
   have KX:Tx (cj l) (!(cH (l.map (·.1)))&&!db (l.map (·.1))) (dW l) (⟨#[123]⟩++J ts++⟨#[125]⟩):=by
    refine⟨?_,fun ho=>?_⟩
    ·rw[ByteArray.size_append,ByteArray.size_append];have e1:(⟨#[123]⟩:ByteArray).size=1:=rfl;have e2:(⟨#[125]⟩:ByteArray).size=1:=rfl;omega
    ·rw[Bool.and_eq_true]at ho;have hk:∀x∈s,aN x.1=true:=fun x hx=>by(have h1:cH (l.map (·.1))=false:=by simpa using ho.1);unfold cH at h1;rw[List.any_eq_false]at h1;have:=h1 x.1 (List.mem_map.2 ⟨x,pC.out.mem_iff.1 hx,rfl⟩);simpa using this
     rw[hT.eq hk];exact TM pC.out cM.out (by simpa using ho.2)
   have hW:=HW.out;rw[←hlen]at hW;have hz:=HZ.out;have JN:=Ug wr w2.heap.size _ ts hW (by omega) (by omega);rw[hlen]at JN;have x9:(J ts).size≤100000000000000:=by omega
   obtain⟨jj,Bs⟩:∃jj,J ts=jj:=⟨_,rfl⟩;rw[Bs]at JN KX x9;have JN:=Lib.hid JN;have jJ:=Lib.hid KX;have uS:=Lib.hid hP;clear hT hP hlen xz KX hW hz Bs kh;go_wp2_with fail;go_at_call 74;refine JN.out.mono ?_;rintro _ w7⟨rfl,ed⟩;have HF:=Lib.hid (uS.out.ext ed);have HG:=Lib.hid (show ag (fun b=>b=X∨Value.ownBlock (.slice ao n cap)=some b) w w7 from((O2.out.wide (fun _ _ h=>.inr h)).trans (HO.out.wide (fun _ _ h=>.inl h))).trans (ag.of ed));clear ed JN;go_wp2;go_ret;exact⟨_,rfl,jJ.out,HF.out,HG.out⟩
end Go.Proofs.YtcaiibkgajhohaaGreatDoor
