/- waybill: lemmas and walks, printed from longer texts. -/
import Derived.Test.YtcaiibkgajhohaaGreatDoorM39
set_option maxRecDepth 100000
set_option maxHeartbeats 16000000
namespace Go.Proofs.YtcaiibkgajhohaaGreatDoor
open Go.RowKit
def qS(X:Nat)(w:World)(v:Value)(l:List eI):Prop:=∃a c,v=.slice a l.length c∧∀(j:Nat)x,l[j]?=some x→∃b o hb,a=some ⟨b,o,none⟩∧b≠X∧b<w.heap.size∧w.cell? ⟨b,o+j*3,none⟩=some (.string x.name)∧w.cell? ⟨b,o+j*3+1,none⟩=some (.string x.value)∧w.cell? ⟨b,o+j*3+2,none⟩=some (.bool hb)
theorem qS.turn{X:Nat}{w w':World}{v:Value}{l:List eI}(h:qS X w v l)(ho:ag (fun b=>b=X) w w'):qS X w' v l:=by obtain⟨a,c,hv,h⟩:=h;refine⟨a,c,hv,fun j x hx=>?_⟩;obtain⟨b,o,hb,ha,hn,hl,h0,h1,h2⟩:=h j x hx;(have e:∀q,w'.cell? ⟨b,q,none⟩=w.cell? ⟨b,q,none⟩:=fun q=>by unfold World.cell?;rw[ho.block b hl hn]);exact⟨b,o,hb,ha,hn,Nat.lt_of_lt_of_le hl ho.size,(e _).trans h0,(e _).trans h1,(e _).trans h2⟩
theorem qS.cell{X:Nat}{w:World}{a:Option Addr}{n c:Nat}{l:List eI}(h:qS X w (.slice a n c) l):∀(j:Nat)x,l[j]?=some x→∃b o hb,a=some ⟨b,o,none⟩∧b≠X∧b<w.heap.size∧w.cell? ⟨b,o+j*3,none⟩=some (.string x.name)∧w.cell? ⟨b,o+j*3+1,none⟩=some (.string x.value)∧w.cell? ⟨b,o+j*3+2,none⟩=some (.bool hb):=by obtain⟨a',c',h1,h2⟩:=h;cases h1;exact h2
theorem yg{l:List KV}{b:Bool}{k v:ByteArray}{n:Nat}(h:l.length≤n):(l++aU b k v).length≤n+1:=by
 rw[List.length_append];unfold aU;split
 ·simp;omega
 ·simp;omega
theorem fx.at_{w0 w:World}{X R L B:Nat}{f:Fl}{x:aZ}{vI vl:Value}{l:List KV}{W:World}(h:fx w0 w X f R x vI L B vl l W)(i:Nat):W.cell? ⟨R,i,none⟩=(#[.string x.path,.string x.query,.string x.bw,.bool x.bz,.bool x.cS,.bool x.bM,vI,.bool x.cU,.bool x.fold,.bool x.dG]:Array Value)[i]?:=Lib.cell_of_heap h.box i
structure mP(w0 w4:World)(X:Nat)(F:Fl)(N:Nat)(nm vl:ByteArray)(hb:Bool)(v7:Value)(j:Nat)(kvs:List KV)(W:World):Prop where
 bq:cJ w0 W X F
 box:W.heap[N]?=some (.cells #[.string nm,.string vl,.bool hb] 92 (0,0))
 own:W.ownsRow w4.heap.size 100 2 v7 j (kvs.flatMap iW)
 only:ag (fun b=>b=X) w4 W
section
variable{w0 w4:World}{X N j:Nat}{F G:Fl}{nm vl:ByteArray}{hb:Bool}{v7:Value}{kvs:List KV}{W:World}
theorem mP.drew(h:mP w0 w4 X F N nm vl hb v7 j kvs W):mP w0 w4 X F N nm vl hb v7 j kvs W.drew:=⟨⟨h.bq.below.drew,h.bq.le,h.bq.dJ⟩,h.box,h.own,⟨h.only.os,h.only.tape,h.only.output,h.only.size,h.only.block⟩⟩
theorem mP.cells(h:mP w0 w4 X F N nm vl hb v7 j kvs W):W.cell? ⟨N,0,none⟩=some (.string nm)∧W.cell? ⟨N,1,none⟩=some (.string vl):=⟨Lib.cell_of_heap h.box 0,Lib.cell_of_heap h.box 1⟩
theorem mP.call{w':World}(h:mP w0 w4 X F N nm vl hb v7 j kvs W)(hp:cJ w0 w' X G)(ho:ag (fun b=>b=X) W w')(hX:X<w4.heap.size)(hN:N≠X):mP w0 w4 X G N nm vl hb v7 j kvs w':=⟨hp,(ho.block _ (ak h.box) hN).trans h.box,bu h.own (fun g hg=>ho.block g (h.own.lt g hg).2 (fun e=>by have:=(h.own.lt g hg).1;omega)) (Nat.le_refl _),h.only.trans ho⟩
theorem mP.next{w6:World}{o:Obj}(h:mP w0 w4 X F N nm vl hb v7 j kvs W)(hg:(W.alloc o).grownBy w6 v7.ownBlock)(hX:X<w4.heap.size)(hN:some N≠v7.ownBlock)(h0:Below w0.heap.size w0 w4):cJ w0 w6 X F∧ag (fun b=>b=X) w4 w6∧w6.cell? ⟨N,0,none⟩=some (.string nm)∧w6.cell? ⟨N,1,none⟩=some (.string vl):=by
 have hk:∀k,v7.ownBlock=some k→w4.heap.size≤k:=fun k e=>(h.own.lt k e).1;have hz:=h0.size;have hl:=ak h.box;refine⟨(h.bq.ext (aj (Below.refl _ W) o)).turn (T:=fun b=>v7.ownBlock=some b) ((ag.refl _ (W.alloc o)).grown hg (fun k e _=>e)) (fun k e=>by have:=hk k e;exact⟨by omega,by omega⟩),(h.only.alloc o).grown hg (fun k e hl=>by have:=hk k e;omega),?_,?_⟩
 ·exact(hg.cell_far (a:=⟨N,0,none⟩) (by simp;omega) hN).trans (jA _ h.cells.1)
 ·exact(hg.cell_far (a:=⟨N,1,none⟩) (by simp;omega) hN).trans (jA _ h.cells.2)
end
def Vb(w0 w4:World)(X:Nat)(F:Fl)(items:List eI)(v k:Value)(wr:World):Prop:=∃(j:Nat)(kvs:List KV),k=.int .i64 j∧j≤items.length∧cJ w0 wr X (F.add ((items.take j).any fun i=>!aN i.value) false)∧ag (fun b=>b=X) w4 wr∧wr.ownsRow w4.heap.size 100 2 v j (kvs.flatMap iW)∧kvs.map (·.1)=(items.take j).map (·.name)∧eM (fun i:eI=>aJ i.value) (fun i=>aN i.value) (fun i=>aG i.value) (items.take j) (kvs.map (·.2))
theorem ag0(w0 w:World)(X:Nat)(f:Fl)(x:aZ)(vI:Value)(h:cJ w0 w X f)(he:gI w0)(hI:qS X w vI x.items)(hs:x.path.size≤1048576∧x.query.size≤1048576∧x.bw.size≤1048576)(hit:∀i∈x.items,i.name.size≤1048576∧i.value.size≤1048576)(hz:fQ x≤100000000000000)(hl:x.items.length≤1100000):Calls Tryz.prog 73 #[an X,.agg (aX x vI)] w (Bp w0 w X f (gD x) (di x) (fQ x) (!gD x&&!di x) (px x)):=by
 have HI:=Lib.hid hI;obtain⟨aI,cI,rfl,_⟩:=hI;obtain⟨nI,mQ⟩:∃n,x.items.length=n:=⟨_,rfl⟩;have iI:=Lib.hid mQ;rw[mQ]at hl HI⊢;have H:=Lib.hid h;have HE:=Lib.hid he;have HZ:=Lib.hid hz;have BO:=Lib.hid hit;have HS:=Lib.hid hs;have X1:=heap_alloc_new w (.cells (aX x (.slice aI nI cI)) 40);have B1:=aj (Below.refl _ w) (.cells (aX x (.slice aI nI cI)) 40);obtain⟨W1,aH⟩:∃W,w.alloc (.cells (aX x (.slice aI nI cI)) 40)=W:=⟨_,rfl⟩;rw[aH]at X1 B1
 have X2:=heap_alloc_new W1 (.cells #[.slice none 0 0] 101);have B2:=aj (Below.refl _ W1) (.cells #[.slice none 0 0] 101);obtain⟨W2,dq⟩:∃W,W1.alloc (.cells #[.slice none 0 0] 101)=W:=⟨_,rfl⟩;rw[dq]at X2 B2;have bW:W1.heap.size=w.heap.size+1:=by rw[←aH];simp
 have bA:W2.heap.size=w.heap.size+2:=by rw[←dq];simp[bW]
 obtain⟨R,hR⟩:∃R,w.heap.size=R:=⟨_,rfl⟩;obtain⟨L,hL⟩:∃L,W1.heap.size=L:=⟨_,rfl⟩;obtain⟨B,hB⟩:∃B,W2.heap.size=B:=⟨_,rfl⟩;have HD:=Lib.hid (show BG w X R L B from⟨H.out.lt,by omega,by omega,by omega⟩);rw[hR]at X1;rw[hL]at X2;have S0:=Lib.hid (show fx w0 w X f R x (.slice aI nI cI) L B (.slice none 0 0) [] W2 from⟨h.ext (aF B1 B2),ag.of (aF B1 B2),(B2.block _ (by rw[←hR,←aH];simp)).trans X1,X2,World.ownsRow_nil _ _ _ _⟩)
 have wh:Hid ((w.alloc (.cells #[.string x.path,.string x.query,.string x.bw,.bool x.bz,.bool x.cS,.bool x.bM,.slice aI nI cI,.bool x.cU,.bool x.fold,.bool x.dG] 40)).alloc (.cells #[.slice none 0 0] 101)=W2):=Lib.hid (by rw[←dq,←aH];rfl);have K_:=Lib.hid hR;have HWL:=Lib.hid (show w.heap.size+1=L by omega)
 have QU:=Lib.hid (fun(g:Fl)vl l(W:World)(b:Bool)(s:ByteArray)(hss:s.size≤1048576)(hW:fx w0 w X g R x (.slice aI nI cI) L B vl l W)=>(show Calls Tryz.prog 107 #[.pointer (some ⟨X,0,none⟩),.bool b,.string s] W fun e w'=>∃T,e=.returned (.string T)∧Tx (aJ s) (b&&aN s) (aG s) T∧fx w0 w X (g.add (b&&!aN s) false) R x (.slice aI nI cI) L B vl l w' from(agP w0 W X g b s hW.bq HE.out hss).mono (fun e w' hh=>by obtain⟨T,h1,h2,h3,h4⟩:=hh;exact⟨T,h1,h2,hW.call HD.out h3 h4⟩)))
 have AD:=Lib.hid (fun(g:Fl)vl(W:World)(b:Bool)(k v:ByteArray){l:List KV}(hW:fx w0 w X g R x (.slice aI nI cI) L B vl l W)(Gb:l.length≤1000)=>agQ b k v hW HD.out (by have:=ak hW.cell;omega) Gb);unfold an;simp only[aX];clear h he hz hit hs X1 B1 aH X2 B2 dq bW bA hR hL hB mQ;go_enter Tryz.func73,Tryz.ntmps73;go_wp2_with fail;rw[wh.out,HWL.out,K_.out];obtain⟨l0,mH⟩:∃q:List KV,[]=q:=⟨_,rfl⟩;rw[mH]at S0;have HL0:=Lib.hid mH
 have qT:=Lib.hid (show l0.length≤0 by rw[←mH];exact Nat.le_refl _);clear mH;refine wp_region_noPanic ?_;refine wp_region_held_drew (S:=fun W=>W.cell? ⟨R,5,none⟩=some (.bool x.bM)∧W.cell? ⟨R,2,none⟩=some (.string x.bw)) (by kernel_rfl) ⟨S0.out.at_ 5,S0.out.at_ 2⟩ (fun aB=>?_);refine wpAnyH_take (i:=0) (oi:=_) (v:=.func (.func 106) #[] #[.pointer (some ⟨L,0,none⟩)]) rfl (by kernel_rfl) (by kernel_rfl) (by kernel_rfl) (fun _ _ _ h=>h) (Or.inl ⟨by rfl,?_⟩) aB ?_
 ·intro w al;obtain⟨y0,y1⟩:=al;go_simp
 try simp only[Act.put,List.setIfInBounds_toArray,List.set_cons_zero,List.set_cons_succ,List.getElem_toArray,List.getElem_cons_zero]
 refine wpAnyH_take (i:=1) (oi:=_) (v:=.pointer (some ⟨R,5,none⟩)) rfl (by kernel_rfl) (by kernel_rfl) (by kernel_rfl) (fun _ _ _ h=>h) (Or.inl ⟨by rfl,?_⟩) aB ?_
 ·intro w al;obtain⟨y0,y1⟩:=al;go_simp
 try simp only[Act.put,List.setIfInBounds_toArray,List.set_cons_zero,List.set_cons_succ,List.getElem_toArray,List.getElem_cons_zero,List.getElem_cons_succ]
 refine wpAnyH_take (i:=2) (oi:=_) (v:=.bool x.bM) rfl (by kernel_rfl) (by kernel_rfl) (by kernel_rfl) (fun _ _ _ h=>h) (Or.inl ⟨by rfl,?_⟩) aB ?_
 ·intro w al;obtain⟨y0,y1⟩:=al;go_simp
 try simp only[Act.put,List.setIfInBounds_toArray,List.set_cons_zero,List.set_cons_succ,List.getElem_toArray,List.getElem_cons_zero,List.getElem_cons_succ]
 refine wpAnyH_take (i:=3) (oi:=_) (v:=.pointer (some ⟨X,0,none⟩)) rfl (by kernel_rfl) (by kernel_rfl) (by kernel_rfl) (fun _ _ _ h=>h) (Or.inl ⟨by rfl,?_⟩) aB ?_
 ·intro w al;obtain⟨y0,y1⟩:=al;go_simp
 try simp only[Act.put,List.setIfInBounds_toArray,List.set_cons_zero,List.set_cons_succ,List.getElem_toArray,List.getElem_cons_zero,List.getElem_cons_succ]
 refine wpAnyH_take (i:=4) (oi:=_) (v:=.pointer (some ⟨R,5,none⟩)) rfl (by kernel_rfl) (by kernel_rfl) (by kernel_rfl) (fun _ _ _ h=>h) (Or.inl ⟨by rfl,?_⟩) aB ?_
 ·intro w al;obtain⟨y0,y1⟩:=al;go_simp
 try simp only[Act.put,List.setIfInBounds_toArray,List.set_cons_zero,List.set_cons_succ,List.getElem_toArray,List.getElem_cons_zero,List.getElem_cons_succ]
 refine wpAnyH_take (i:=5) (oi:=_) (v:=.bool x.bM) rfl (by kernel_rfl) (by kernel_rfl) (by kernel_rfl) (fun _ _ _ h=>h) (Or.inl ⟨by rfl,?_⟩) aB ?_
 ·intro w al;obtain⟨y0,y1⟩:=al;go_simp
 try simp only[Act.put,List.setIfInBounds_toArray,List.set_cons_zero,List.set_cons_succ,List.getElem_toArray,List.getElem_cons_zero,List.getElem_cons_succ]
 refine wpAnyH_take (i:=6) (oi:=_) (v:=.pointer (some ⟨R,2,none⟩)) rfl (by kernel_rfl) (by kernel_rfl) (by kernel_rfl) (fun _ _ _ h=>h) (Or.inl ⟨by rfl,?_⟩) aB ?_
 ·intro w al;obtain⟨y0,y1⟩:=al;go_simp
 try simp only[Act.put,List.setIfInBounds_toArray,List.set_cons_zero,List.set_cons_succ,List.getElem_toArray,List.getElem_cons_zero,List.getElem_cons_succ]
 refine wpAnyH_take (i:=7) (oi:=_) (v:=.string x.bw) rfl (by kernel_rfl) (by kernel_rfl) (by kernel_rfl) (fun _ _ _ h=>h) (Or.inl ⟨by rfl,?_⟩) aB ?_
 ·intro w al;obtain⟨y0,y1⟩:=al;go_simp
 try simp only[Act.put,List.setIfInBounds_toArray,List.set_cons_zero,List.set_cons_succ,List.getElem_toArray,List.getElem_cons_zero,List.getElem_cons_succ]
 refine wpAnyH_ready (rs:=[8]) (by kernel_rfl) (by simp) ?_;refine AllReadyH.cons (o:=_) rfl (fun K hK=>?_) AllReadyH.nil;go_simp;refine((QU.out _ _ _ _ _ _ HS.out.2.2 S0.out.drew).mono ?_);intro e wq hq;obtain⟨T3,rfl,hT,hS⟩:=hq;have gL:=Lib.hid hT;have SQ:=Lib.hid hS;clear hT hS;go_wp2_with fail;refine hK.out _ _ ⟨SQ.out.at_ 5,SQ.out.at_ 2⟩ (fun aB=>?_);clear hK K;try simp only[Act.put,List.setIfInBounds_toArray,List.set_cons_zero,List.set_cons_succ,List.getElem_toArray,List.getElem_cons_zero,List.getElem_cons_succ]
 refine wpAnyH_ready (rs:=[9]) (by kernel_rfl) (by simp) ?_;refine AllReadyH.cons (o:=_) rfl (fun K hK=>?_) AllReadyH.nil;go_simp;refine(AD.out _ _ _ x.bM ee T3 SQ.out (Nat.le_trans qT.out (by decide))).mono ?_;intro e wa ha;obtain⟨rfl,⟨vl3,hS⟩,_⟩:=ha;obtain⟨l3,hl⟩:∃q,l0++aU x.bM ee T3=q:=⟨_,rfl⟩;rw[hl]at hS;have xO:=Lib.hid hl;have Vc:=Lib.hid (show l3.length≤1 by rw[←hl];exact yg qT.out);have S3:=Lib.hid hS;clear hS hl;go_wp2_with fail;refine hK.out _ _ ⟨S3.out.at_ 5,S3.out.at_ 2⟩ (fun aB=>?_)
 clear hK K;try simp only[Act.put,List.setIfInBounds_toArray,List.set_cons_zero,List.set_cons_succ,List.getElem_toArray,List.getElem_cons_zero,List.getElem_cons_succ]
 refine wpAnyH_done (by kernel_rfl) ?_ _;refine NoPanic.normal ?_;go_wp2_with fail;refine wp_region_noPanic ?_;refine wp_region_held_drew (S:=fun W=>W.cell? ⟨R,3,none⟩=some (.bool x.bz)∧W.cell? ⟨R,0,none⟩=some (.string x.path)) (by kernel_rfl) ⟨S3.out.at_ 3,S3.out.at_ 0⟩ (fun aB=>?_);refine wpAnyH_take (i:=0) (oi:=_) (v:=.func (.func 106) #[] #[.pointer (some ⟨L,0,none⟩)]) rfl (by kernel_rfl) (by kernel_rfl) (by kernel_rfl) (fun _ _ _ h=>h) (Or.inl ⟨by rfl,?_⟩) aB ?_
 ·intro w al;obtain⟨y0,y1⟩:=al;go_simp
 try simp only[Act.put,List.setIfInBounds_toArray,List.set_cons_zero,List.set_cons_succ,List.getElem_toArray,List.getElem_cons_zero]
 refine wpAnyH_take (i:=1) (oi:=_) (v:=.pointer (some ⟨R,3,none⟩)) rfl (by kernel_rfl) (by kernel_rfl) (by kernel_rfl) (fun _ _ _ h=>h) (Or.inl ⟨by rfl,?_⟩) aB ?_
 ·intro w al;obtain⟨y0,y1⟩:=al;go_simp
 try simp only[Act.put,List.setIfInBounds_toArray,List.set_cons_zero,List.set_cons_succ,List.getElem_toArray,List.getElem_cons_zero,List.getElem_cons_succ]
 refine wpAnyH_take (i:=2) (oi:=_) (v:=.bool x.bz) rfl (by kernel_rfl) (by kernel_rfl) (by kernel_rfl) (fun _ _ _ h=>h) (Or.inl ⟨by rfl,?_⟩) aB ?_
 ·intro w al;obtain⟨y0,y1⟩:=al;go_simp
 try simp only[Act.put,List.setIfInBounds_toArray,List.set_cons_zero,List.set_cons_succ,List.getElem_toArray,List.getElem_cons_zero,List.getElem_cons_succ]
 refine wpAnyH_take (i:=3) (oi:=_) (v:=.pointer (some ⟨X,0,none⟩)) rfl (by kernel_rfl) (by kernel_rfl) (by kernel_rfl) (fun _ _ _ h=>h) (Or.inl ⟨by rfl,?_⟩) aB ?_
 ·intro w al;obtain⟨y0,y1⟩:=al;go_simp
 try simp only[Act.put,List.setIfInBounds_toArray,List.set_cons_zero,List.set_cons_succ,List.getElem_toArray,List.getElem_cons_zero,List.getElem_cons_succ]
 refine wpAnyH_take (i:=4) (oi:=_) (v:=.pointer (some ⟨R,3,none⟩)) rfl (by kernel_rfl) (by kernel_rfl) (by kernel_rfl) (fun _ _ _ h=>h) (Or.inl ⟨by rfl,?_⟩) aB ?_
 ·intro w al;obtain⟨y0,y1⟩:=al;go_simp
 try simp only[Act.put,List.setIfInBounds_toArray,List.set_cons_zero,List.set_cons_succ,List.getElem_toArray,List.getElem_cons_zero,List.getElem_cons_succ]
 refine wpAnyH_take (i:=5) (oi:=_) (v:=.bool x.bz) rfl (by kernel_rfl) (by kernel_rfl) (by kernel_rfl) (fun _ _ _ h=>h) (Or.inl ⟨by rfl,?_⟩) aB ?_
 ·intro w al;obtain⟨y0,y1⟩:=al;go_simp
 try simp only[Act.put,List.setIfInBounds_toArray,List.set_cons_zero,List.set_cons_succ,List.getElem_toArray,List.getElem_cons_zero,List.getElem_cons_succ]
 refine wpAnyH_take (i:=6) (oi:=_) (v:=.pointer (some ⟨R,0,none⟩)) rfl (by kernel_rfl) (by kernel_rfl) (by kernel_rfl) (fun _ _ _ h=>h) (Or.inl ⟨by rfl,?_⟩) aB ?_
 ·intro w al;obtain⟨y0,y1⟩:=al;go_simp
 try simp only[Act.put,List.setIfInBounds_toArray,List.set_cons_zero,List.set_cons_succ,List.getElem_toArray,List.getElem_cons_zero,List.getElem_cons_succ]
 refine wpAnyH_take (i:=7) (oi:=_) (v:=.string x.path) rfl (by kernel_rfl) (by kernel_rfl) (by kernel_rfl) (fun _ _ _ h=>h) (Or.inl ⟨by rfl,?_⟩) aB ?_
 ·intro w al;obtain⟨y0,y1⟩:=al;go_simp
 try simp only[Act.put,List.setIfInBounds_toArray,List.set_cons_zero,List.set_cons_succ,List.getElem_toArray,List.getElem_cons_zero,List.getElem_cons_succ]
 refine wpAnyH_ready (rs:=[8]) (by kernel_rfl) (by simp) ?_;refine AllReadyH.cons (o:=_) rfl (fun K hK=>?_) AllReadyH.nil;go_simp;refine((QU.out _ _ _ _ _ _ HS.out.1 S3.out.drew).mono ?_);intro e wq hq;obtain⟨T4,rfl,hT,hS⟩:=hq;have La:=Lib.hid hT;have SQ:=Lib.hid hS;clear hT hS;go_wp2_with fail;refine hK.out _ _ ⟨SQ.out.at_ 3,SQ.out.at_ 0⟩ (fun aB=>?_);clear hK K;try simp only[Act.put,List.setIfInBounds_toArray,List.set_cons_zero,List.set_cons_succ,List.getElem_toArray,List.getElem_cons_zero,List.getElem_cons_succ]
 refine wpAnyH_ready (rs:=[9]) (by kernel_rfl) (by simp) ?_;refine AllReadyH.cons (o:=_) rfl (fun K hK=>?_) AllReadyH.nil;go_simp;refine(AD.out _ _ _ x.bz dH T4 SQ.out (Nat.le_trans Vc.out (by decide))).mono ?_;intro e wa ha;obtain⟨rfl,⟨Vd,hS⟩,_⟩:=ha;obtain⟨l4,hl⟩:∃q,l3++aU x.bz dH T4=q:=⟨_,rfl⟩;rw[hl]at hS;have HL4:=Lib.hid hl;have BP:=Lib.hid (show l4.length≤2 by rw[←hl];exact yg Vc.out);have S4:=Lib.hid hS;clear hS hl;go_wp2_with fail;refine hK.out _ _ ⟨S4.out.at_ 3,S4.out.at_ 0⟩ (fun aB=>?_)
 clear hK K;try simp only[Act.put,List.setIfInBounds_toArray,List.set_cons_zero,List.set_cons_succ,List.getElem_toArray,List.getElem_cons_zero,List.getElem_cons_succ]
 refine wpAnyH_done (by kernel_rfl) ?_ _;refine NoPanic.normal ?_;have c4:=S4.out.at_ 4;have c6:=S4.out.at_ 6;obtain⟨F4,Lb⟩:∃F,(f.add (x.bM&&!aN x.bw) false).add (x.bz&&!aN x.path) false=F:=⟨_,rfl⟩;have kT:=Lib.hid Lb;rw[Lb]at S4;clear Lb
 have ways:(x.cS=true)∨(x.cS=false∧0<nI)∨(x.cS=false∧nI=0):=by
  cases x.cS with
  |true=>exact .inl rfl
  |false=>
   rcases Nat.eq_zero_or_pos nI with h|h
   ·exact .inr (.inr ⟨rfl,h⟩)
   ·exact .inr (.inl ⟨rfl,h⟩)
 obtain⟨hq,Fp⟩:∃b,x.cS=b:=⟨_,rfl⟩;have sh:=Lib.hid Fp;rw[Fp]at ways;simp only[Fp]at c4⊢;clear Fp;rcases ways with rfl|⟨rfl,jx⟩|⟨rfl,jx⟩
 case' inl=>
  have c1:=S4.out.at_ 1;have TQ:=Lib.hid ((Br w0 wa X F4 x.query S4.out.bq HE.out HS.out.2.1).mono (R':=fun e w'=>∃T,e=.returned (.string T)∧Tx (aJ x.query) (aN x.query) (aG x.query) T∧fx w0 w X (F4.add (!aN x.query) false) R x (.slice aI nI cI) L B Vd l4 w') (fun e w' hh=>by obtain⟨T,h1,h2,h3,h4⟩:=hh;exact⟨T,h1,h2,S4.out.call HD.out h3 h4⟩));unfold an at TQ;go_wp2_with fail;clear c1 c4 c6;refine TQ.out.mono ?_;intro e wq rS;obtain⟨T5,rfl,hT,hS⟩:=rS;have uf:=Lib.hid hT;have SQ:=Lib.hid hS
  clear hT hS;go_wp2_with fail;refine(AD.out _ _ _ true gy T5 SQ.out (Nat.le_trans BP.out (by decide))).mono ?_;intro e wa ha;obtain⟨rfl,⟨BQ,hS⟩,_⟩:=ha;obtain⟨qs,lO⟩:∃q,aU true gy T5=q:=⟨_,rfl⟩;rw[lO]at hS
  have A3:=Lib.hid (show uh x qs from .inr ⟨.inl sh.out,T5,by rw[←lO];rfl,Nat.le_trans uf.out.size (by unfold lN;omega),fun ho=>by
   unfold ug;rw[if_pos sh.out];refine uf.out.eq ?_;unfold fg at ho;rw[if_pos sh.out]at ho
   cases hx:aN x.query with
   |true=>rfl
   |false=>rw[hx]at ho;simp at ho⟩)
  have S5:=Lib.hid (show fx w0 w X (F4.add (fg x) (di x)) R x (.slice aI nI cI) L B BQ (l4++qs) wa by(have e1:fg x=!aN x.query:=by unfold fg;rw[if_pos sh.out]);(have e2:di x=false:=by unfold di;rw[sh.out];rfl);rw[e1,e2];exact hS);have Fq:=Lib.hid (show(l4++qs).length≤3 by rw[←lO];exact yg BP.out);have c8:=S5.out.at_ 8;clear hS lO;go_wp2_with fail
 case' inr.inr=>
  have c0:decide ((0:Int)<(nI:Int))=false:=decide_eq_false (by omega);have wi:decide (0<nI)=false:=decide_eq_false (by omega);have si:x.items=[]:=List.eq_nil_of_length_eq_zero (by rw[iI.out];exact jx);obtain⟨qs,lO⟩:∃q:List KV,[]=q:=⟨_,rfl⟩;have A3:=Lib.hid (show uh x qs from .inl ⟨sh.out,si,lO.symm⟩);obtain⟨BQ,Ve⟩:∃v,Vd=v:=⟨_,rfl⟩
  have S5:=Lib.hid (show fx w0 w X (F4.add (fg x) (di x)) R x (.slice aI nI cI) L B BQ (l4++qs) wa by(have e1:fg x=false:=by unfold fg;rw[if_neg (by rw[sh.out];simp),si];rfl);(have e2:di x=false:=by unfold di;rw[si];simp[db]);rw[e1,e2,Fl.dO,←lO,List.append_nil,←Ve];exact S4.out);have Fq:=Lib.hid (show(l4++qs).length≤3 by rw[←lO,List.append_nil];exact Nat.le_trans BP.out (by decide));have c8:=S5.out.at_ 8;clear jx si lO Ve;go_wp2_with fail;clear c0 wi c4 c6
 case' inr.inl=>
  have c0:decide ((0:Int)<(nI:Int))=true:=decide_eq_true (by omega);have wi:decide (0<nI)=true:=decide_eq_true jx;go_wp2_with fail;clear c0 wi c4 c6;go_loopw[7,48](Vb w0 wa X F4 x.items)(fun _ i _=>nI-(intOf i).toNat);case atStart=>exact⟨0,[],rfl,Nat.zero_le _,by simpa[Fl.dO]using S4.out.bq,ag.refl _ _,World.ownsRow_nil _ _ _ _,rfl,eM.nil⟩
  case' round=>
   obtain⟨j,kvs,rfl,hj,hp,ho,az,kG,dy⟩:=hrel;rw[iI.out]at hj;obtain⟨ax,cx,rfl,_⟩:=aM az;have HP:=Lib.hid hp;have HO:=Lib.hid ho;have HW:=Lib.hid az;have HT:=Lib.hid dy;have BR:=Lib.hid kG;clear hp ho az dy kG;have Lc:X<wa.heap.size:=S4.out.bq.lt;by_cases hlt:j<nI
   case pos=>
    have t1:decide ((j:Int)<(nI:Int))=true:=decide_eq_true (by omega);have aT:decide (j<nI)=true:=decide_eq_true hlt;have q1:IntKind.i64.wrap ((j:Int)+1)=(j:Int)+1:=IntWalk.i64_in _ (by omega);obtain⟨it,qU⟩:=bN x.items j (by rw[iI.out];exact hlt);obtain⟨b,o,hb,rfl,_,_,d0,d1,d2⟩:=((HI.out.turn S4.out.only).turn HO.out).cell j it qU;have HJ:=Lib.hid qU;have hsz:=BO.out it (List.mem_of_getElem? qU)
    have F5:mP w0 wa X (F4.add ((x.items.take j).any fun i=>!aN i.value) false) wr.heap.size it.name it.value hb (.slice ax j cx) j kvs (wr.alloc (.cells #[.string it.name,.string it.value,.bool hb] 92)):=⟨HP.out.ext (aj (Below.refl _ wr) _),heap_alloc_new wr _,HW.out.alloc _,HO.out.trans (ag.of (aj (Below.refl _ wr) _))⟩;obtain⟨W4,dR⟩:∃W,wr.alloc (.cells #[.string it.name,.string it.value,.bool hb] 92)=W:=⟨_,rfl⟩;obtain⟨N,hN⟩:∃N,wr.heap.size=N:=⟨_,rfl⟩
    have yc:N≠X:=by have:=HO.out.size;omega
    rw[dR,hN]at F5;have kV:=Lib.hid F5;have kU:=Lib.hid (And.intro dR hN);have NE:Hid (some N≠Value.ownBlock (.slice ax j cx)):=Lib.hid (fun e=>by have h1:=(HW.out.lt N e.symm).2;omega);have FS:=Lib.hid (show(F4.add ((x.items.take j).any fun i=>!aN i.value) false).add (!aN it.value) false=F4.add ((x.items.take (j+1)).any fun i=>!aN i.value) false by rw[Fl.add_add,kf _ _ qU];rfl);obtain⟨nm,uj⟩:∃nm,it.name=nm:=⟨_,rfl⟩;obtain⟨qV,BS⟩:∃vl,it.value=vl:=⟨_,rfl⟩
    have TX:=Lib.hid (fun G W(hW:mP w0 wa X G N nm qV hb (.slice ax j cx) j kvs W)=>(show Calls Tryz.prog 75 #[.pointer (some ⟨X,0,none⟩),.string qV] W fun e w'=>∃T,e=.returned (.string T)∧Tx (aJ qV) (aN qV) (aG qV) T∧mP w0 wa X (G.add (!aN qV) false) N nm qV hb (.slice ax j cx) j kvs w' from(Br w0 W X _ qV hW.bq HE.out (by rw[←BS];exact hsz.2)).mono (fun e w' hh=>by obtain⟨T,h1,h2,h3,h4⟩:=hh;exact⟨T,h1,h2,hW.call h3 h4 Lc yc⟩)));rw[uj,BS]at kV kU;rw[uj]at d0
    rw[BS]at d1;have eP:=Lib.hid (And.intro uj BS);clear dR hN F5 qU uj BS hsz;go_wp2_with fail;rw[kU.out.1];simp only[kU.out.2];refine wp_region_noPanic ?_;refine wp_region_held_drew (S:=fun W=>W.cell? ⟨N,0,none⟩=some (.string nm)∧W.cell? ⟨N,1,none⟩=some (.string qV)) (by kernel_rfl) kV.out.cells (fun aB=>?_);refine wpAnyH_take (i:=0) (oi:=_) (v:=.slice ax j cx) rfl (by kernel_rfl) (by kernel_rfl) (by kernel_rfl) (fun _ _ _ h=>h) (Or.inl ⟨by rfl,?_⟩) aB ?_
    ·intro w al;obtain⟨y0,y1⟩:=al;go_simp
    try simp only[Act.put,List.setIfInBounds_toArray,List.set_cons_zero,List.set_cons_succ,List.getElem_toArray,List.getElem_cons_zero]
    refine wpAnyH_take (i:=1) (oi:=_) (v:=.pointer (some ⟨N,0,none⟩)) rfl (by kernel_rfl) (by kernel_rfl) (by kernel_rfl) (fun _ _ _ h=>h) (Or.inl ⟨by rfl,?_⟩) aB ?_
    ·intro w al;obtain⟨y0,y1⟩:=al;go_simp
    try simp only[Act.put,List.setIfInBounds_toArray,List.set_cons_zero,List.set_cons_succ,List.getElem_toArray,List.getElem_cons_zero,List.getElem_cons_succ]
    refine wpAnyH_take (i:=2) (oi:=_) (v:=.string nm) rfl (by kernel_rfl) (by kernel_rfl) (by kernel_rfl) (fun _ _ _ h=>h) (Or.inl ⟨by rfl,?_⟩) aB ?_
    ·intro w al;obtain⟨y0,y1⟩:=al;go_simp
    try simp only[Act.put,List.setIfInBounds_toArray,List.set_cons_zero,List.set_cons_succ,List.getElem_toArray,List.getElem_cons_zero,List.getElem_cons_succ]
    refine wpAnyH_take (i:=3) (oi:=_) (v:=.pointer (some ⟨X,0,none⟩)) rfl (by kernel_rfl) (by kernel_rfl) (by kernel_rfl) (fun _ _ _ h=>h) (Or.inl ⟨by rfl,?_⟩) aB ?_
    ·intro w al;obtain⟨y0,y1⟩:=al;go_simp
    try simp only[Act.put,List.setIfInBounds_toArray,List.set_cons_zero,List.set_cons_succ,List.getElem_toArray,List.getElem_cons_zero,List.getElem_cons_succ]
    refine wpAnyH_take (i:=4) (oi:=_) (v:=.pointer (some ⟨N,1,none⟩)) rfl (by kernel_rfl) (by kernel_rfl) (by kernel_rfl) (fun _ _ _ h=>h) (Or.inl ⟨by rfl,?_⟩) aB ?_
    ·intro w al;obtain⟨y0,y1⟩:=al;go_simp
    try simp only[Act.put,List.setIfInBounds_toArray,List.set_cons_zero,List.set_cons_succ,List.getElem_toArray,List.getElem_cons_zero,List.getElem_cons_succ]
    refine wpAnyH_take (i:=5) (oi:=_) (v:=.string qV) rfl (by kernel_rfl) (by kernel_rfl) (by kernel_rfl) (fun _ _ _ h=>h) (Or.inl ⟨by rfl,?_⟩) aB ?_
    ·intro w al;obtain⟨y0,y1⟩:=al;go_simp
    try simp only[Act.put,List.setIfInBounds_toArray,List.set_cons_zero,List.set_cons_succ,List.getElem_toArray,List.getElem_cons_zero,List.getElem_cons_succ]
    refine wpAnyH_ready (rs:=[6]) (by kernel_rfl) (by simp) ?_;refine AllReadyH.cons (o:=_) rfl (fun K hK=>?_) AllReadyH.nil;go_simp;refine(TX.out _ _ kV.out.drew).mono ?_;intro e w5 sg;obtain⟨T,rfl,hT,ue⟩:=sg;have uf:=Lib.hid hT;have pF:=Lib.hid ue;clear hT ue;go_wp2_with fail;refine hK.out _ _ pF.out.cells (fun aB=>?_);clear hK K;try simp only[Act.put,List.setIfInBounds_toArray,List.set_cons_zero,List.set_cons_succ,List.getElem_toArray,List.getElem_cons_zero,List.getElem_cons_succ]
    refine wpAnyH_take (i:=7) (oi:=_) (v:=.agg #[.string nm,.string T]) rfl (by kernel_rfl) (by kernel_rfl) (by kernel_rfl) (fun _ _ _ h=>h) (Or.inl ⟨by rfl,?_⟩) aB ?_
    ·intro w al;obtain⟨y0,y1⟩:=al;go_simp
    try simp only[Act.put,List.setIfInBounds_toArray,List.set_cons_zero,List.set_cons_succ,List.getElem_toArray,List.getElem_cons_zero,List.getElem_cons_succ]
    refine wpAnyH_ready (rs:=[8]) (by kernel_rfl) (by simp) ?_;refine AllReadyH.cons (o:=_) rfl (fun K hK=>?_) AllReadyH.nil;go_simp;refine hK.out _ _ ⟨jA _ pF.out.cells.1,jA _ pF.out.cells.2⟩ (fun aB=>?_);clear hK K;try simp only[Act.put,List.setIfInBounds_toArray,List.set_cons_zero,List.set_cons_succ,List.getElem_toArray,List.getElem_cons_zero,List.getElem_cons_succ]
    obtain⟨i0,dw,bT,bW,bA⟩:=info_parts Fj.hi;refine wpAnyH_ready (rs:=[9]) (by kernel_rfl) (by simp) ?_;refine AllReadyH.cons (o:=_) rfl (fun K hK=>?_) AllReadyH.nil
    refine step_append_lies _ (by rfl) _ _ _ (by rfl) wa.heap.size 100 i0 _ 2 32 Tryz.underlying101 dw bT bW bA rfl (by omega) (.slice ax j cx) j _ (by rfl) (pF.out.own.alloc _) ⟨w5.heap.size,0,none⟩ 1 1 [.string nm,.string T] (by rfl) (by rfl) (World.news_of_block (cs:=#[.string nm,.string T]) (t:=100) (fr:=(0,0)) (heap_alloc_new w5 _)) (by simp[Value.oneCell']) (by omega) (by unfold maxLen;omega) (by omega) (by have:=pF.out.only.size;simp;omega) (w5.heap.size+1) (by simp) ?_
    intro g' cap' w6 lq cZ cf we;have NX:=pF.out.next cZ Lc NE.out S4.out.bq.below;have oe:=NX.2.2
    have R':Vb w0 wa X F4 x.items (.slice (some ⟨g',0,none⟩) (j+1) cap') (.int .i64 ((j:Int)+1)) w6:=by
     refine⟨j+1,kvs++[(nm,T)],by go_num,by rw[iI.out];exact hlt,?_,NX.2.1,?_,?_,?_⟩
     ·rw[←FS.out,eP.out.2];exact NX.1
     ·rw[List.flatMap_append];exact lq
     ·rw[List.map_append,BR.out,List.take_add_one,HJ.out];simp[eP.out.1]
     ·rw[List.map_append];exact HT.out.snoc HJ.out (by rw[eP.out.2];exact uf.out)
    have br:=Lib.hid R';clear R' lq cZ cf we NX;refine hK.out _ _ oe (fun aB=>?_);clear hK K;try simp only[Act.put,List.setIfInBounds_toArray,List.set_cons_zero,List.set_cons_succ,List.getElem_toArray,List.getElem_cons_zero,List.getElem_cons_succ]
    refine wpAnyH_take (i:=10) (oi:=_) (v:=.slice (some ⟨g',0,none⟩) (j+1) cap') rfl (by kernel_rfl) (by kernel_rfl) (by kernel_rfl) (fun _ _ _ h=>h) (Or.inl ⟨by rfl,?_⟩) aB ?_
    ·intro w al;obtain⟨y0,y1⟩:=al;go_simp
    try simp only[Act.put,List.setIfInBounds_toArray,List.set_cons_zero,List.set_cons_succ,List.getElem_toArray,List.getElem_cons_zero,List.getElem_cons_succ]
    refine wpAnyH_done (by kernel_rfl) ?_ _;refine NoPanic.normal ?_;go_wp2;refine⟨?_,by simp[intOf];omega⟩;first|exact br.out|((repeat apply Exists.intro);exact⟨br.out,rfl⟩)
   case' neg=>
    have t1:decide ((j:Int)<(nI:Int))=false:=decide_eq_false (by omega);have aT:decide (j<nI)=false:=decide_eq_false hlt;have hE:x.items.take j=x.items:=kg (by rw[iI.out];exact hj) (by rw[iI.out];exact hlt);have hT:=HT.out;have hP:=HP.out;have hM:=BR.out;have hW:=HW.out;rw[hE]at hT hP hM;have hlen:kvs.length=j:=by have h1:=congrArg List.length hM;rw[List.length_map,List.length_map,iI.out]at h1;omega
    have IT:=agY x hM hT;rw[←hlen]at hW;have OB:=ya w0 wr X _ _ kvs wa.heap.size hP HE.out hW Lc (fun p hp=>by(have h1:p.1∈x.items.map (·.name):=by rw[←hM];exact List.mem_map.2 ⟨p,hp,rfl⟩);obtain⟨it,h2,h3⟩:=List.mem_map.1 h1;rw[←h3];exact(BO.out it h2).1) (Nat.le_trans IT.1 (by have:=HZ.out;unfold fQ at this;unfold lN;omega)) (by omega);rw[hlen]at OB;unfold an at OB;have OB:=Lib.hid OB;have Ld:=Lib.hid IT;have HM:=Lib.hid hM;clear hE hT hP hM hW hlen IT;go_wp2_with fail;refine OB.out.mono ?_
    intro e wq rS;obtain⟨T5,rfl,hT,BU,gW⟩:=rS
    have jO:ag (fun b=>b=X) wa wq:=⟨gW.os.trans HO.out.os,gW.tape.trans HO.out.tape,gW.output.trans HO.out.output,Nat.le_trans HO.out.size gW.size,fun k hk hn=>(gW.block k (Nat.lt_of_lt_of_le hk HO.out.size) (fun hh=>by
     rcases hh with h|h
     ·exact hn h
     ·have:=(HW.out.lt k h).1;omega)).trans (HO.out.block k hk hn)⟩
    have SQ:=Lib.hid (S4.out.call HD.out BU jO);have uf:=Lib.hid hT;clear hT BU gW jO;go_wp2_with fail;refine(AD.out _ _ _ true gy T5 SQ.out (Nat.le_trans BP.out (by decide))).mono ?_;intro e wa ha;obtain⟨rfl,⟨BQ,hS⟩,_⟩:=ha;obtain⟨qs,lO⟩:∃q,aU true gy T5=q:=⟨_,rfl⟩;rw[lO]at hS;have hne:x.items≠[]:=fun e=>by have:=iI.out;rw[e]at this;simp at this;omega
    have A3:=Lib.hid (show uh x qs from .inr ⟨.inr hne,T5,by rw[←lO];rfl,agZ x sh.out Ld.out uf.out HM.out⟩);have S5:=Lib.hid (show fx w0 w X (F4.add (fg x) (di x)) R x (.slice aI nI cI) L B BQ (l4++qs) wa by rw[←Va x sh.out HM.out F4];exact hS);have Fq:=Lib.hid (show(l4++qs).length≤3 by rw[←lO];exact yg BP.out);have c8:=S5.out.at_ 8;clear hS lO hne hlt t1 aT hj;go_wp2_with fail
 all_goals
  clear c8;refine(AD.out _ _ _ x.fold ew eo S5.out (Nat.le_trans Fq.out (by decide))).mono ?_;intro e wb ha;obtain⟨rfl,⟨vl6,hS⟩,_⟩:=ha;have S6:=Lib.hid hS;have Et:=Lib.hid (yg (b:=x.fold) (k:=ew) (v:=eo) Fq.out);have c7:=S6.out.at_ 7;clear hS;go_wp2_with fail;clear c7;refine(AD.out _ _ _ x.cU fY kc S6.out (Nat.le_trans Et.out (by decide))).mono ?_;intro e wc ha;obtain⟨rfl,⟨vl7,hS⟩,_⟩:=ha;have S7:=Lib.hid hS;have HN7:=Lib.hid (yg (b:=x.cU) (k:=fY) (v:=kc) Et.out);have c9:=S7.out.at_ 9;clear hS
  go_wp2_with fail;clear c9;refine(AD.out _ _ _ x.dG fe eo S7.out (Nat.le_trans HN7.out (by decide))).mono ?_;intro e wd ha;obtain⟨rfl,⟨vl8,hS⟩,_⟩:=ha;have RF:=U8 x gL.out La.out A3.out;rw[show qR x T3 T4 qs=l4++qs++aU x.fold ew eo++aU x.cU fY kc++aU x.dG fe eo by rw[←HL4.out,←xO.out,←HL0.out];rfl]at RF;obtain⟨l8,Vf⟩:∃q,l4++qs++aU x.fold ew eo++aU x.cU fY kc++aU x.dG fe eo=q:=⟨_,rfl⟩;rw[Vf]at RF hS;have UU:X<B:=by have h1:=HD.out.x;have h2:=HD.out.r;have h3:=HD.out.l;have h4:=HD.out.b;omega
  have hwB:w.heap.size≤B:=by have h2:=HD.out.r;have h3:=HD.out.l;have h4:=HD.out.b;omega
  have OB:=ya w0 wd X _ vl8 l8 B hS.bq HE.out hS.own UU RF.keys (Nat.le_trans RF.size HZ.out) (Nat.le_trans RF.len (by decide));rw[RF.bad,RF.dup,Fl.dO]at OB;unfold an at OB;have cL:=Lib.cell_of_heap hS.cell 0;have OB:=Lib.hid OB;have RF:=Lib.hid RF;have S8:=Lib.hid hS;clear hS Vf;go_wp2_with fail;refine OB.out.mono ?_;intro e wz bA;obtain⟨T,rfl,hT,hP,hO⟩:=bA
  have HT:=Lib.hid (show Tx (fQ x) (!gD x&&!di x) (px x) T from⟨Nat.le_trans hT.size RF.out.size,fun ho=>by rw[hT.eq rfl];rw[Bool.and_eq_true]at ho;exact RF.out.eq (by simpa using ho.1) (by simpa using ho.2)⟩);have yh:=Lib.hid (show cJ w0 wz X (f.add (gD x) (di x))by(have e:F4.add (fg x) (di x)=f.add (gD x) (di x):=by rw[←kT.out,Fl.add_add,Fl.add_add,show gD x=((x.bM&&!aN x.bw||x.bz&&!aN x.path)||fg x)from rfl,Bool.false_or,Bool.false_or,Bool.or_assoc]);rw[←e];exact hP)
  have yi:=Lib.hid (show ag (fun b=>b=X) w wz from⟨hO.os.trans S8.out.only.os,hO.tape.trans S8.out.only.tape,hO.output.trans S8.out.only.output,Nat.le_trans S8.out.only.size hO.size,fun k hk hn=>(hO.block k (Nat.lt_of_lt_of_le hk S8.out.only.size) (fun hh=>by
   rcases hh with h|h
   ·exact hn h
   ·have:=(S8.out.own.lt k h).1;omega)).trans (S8.out.only.block k hk hn)⟩)
  clear hT hP hO cL;go_wp2;go_ret;exact⟨_,rfl,HT.out,yh.out,yi.out⟩
end Go.Proofs.YtcaiibkgajhohaaGreatDoor
