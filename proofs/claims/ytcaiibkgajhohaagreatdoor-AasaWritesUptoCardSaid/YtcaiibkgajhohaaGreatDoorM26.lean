/- waybill: lemmas and walks, printed from longer texts. -/
import Derived.Test.YtcaiibkgajhohaaGreatDoorM25
set_option maxRecDepth 100000
set_option maxHeartbeats 16000000
namespace Go.Proofs.YtcaiibkgajhohaaGreatDoor
open Go.RowKit
def qB(i:eI):List Value:=[.string i.name,.string i.value,.bool true]
def aX(x:aZ)(vI:Value):Array Value:=#[.string x.path,.string x.query,.string x.bw,.bool x.bz,.bool x.cS,.bool x.bM,vI,.bool x.cU,.bool x.fold,.bool x.dG]
theorem adq:iq Tryz.prog 38 92 3 40 (.agg #[.string ⟨#[]⟩,.string ⟨#[]⟩,.bool false]):=⟨Tryz.underlying38,by kernel_rfl,rfl,by decide⟩
structure dh(W0 Wv:World)(vv:Value)(L D X:Nat)(st:ai)(x:aZ)(vI:Value)(wr:World):Prop where
 re:aC W0 Wv vv wr D st
 rule:wr.heap[X]?=some (.cells (aX x vI) 40 (0,0))
 row:wr.ownsRow L 92 3 vI x.items.length (x.items.flatMap qB)
 low:Wv.heap.size≤X
 hi:X<L
section
variable{W0 Wv wr w':World}{vv vI:Value}{L D X:Nat}{st ff:ai}{x:aZ}
theorem dh.call(h:dh W0 Wv vv L D X st x vI wr)(hp:bG W0 Wv vv wr D ff w'):dh W0 Wv vv L D X ff x vI w':=by have h0:=h.re.vars.lt;have h1:=h.low;have h2:=h.hi;exact⟨hp.re,bB hp.only h.rule (by omega),bu h.row (fun g hg=>hp.only.block g (h.row.lt g hg).2 (by have:=(h.row.lt g hg).1;omega)) (Nat.le_refl _),h.low,h.hi⟩
theorem dh.ext(h:dh W0 Wv vv L D X st x vI wr)(hb:Below wr.heap.size wr w'):dh W0 Wv vv L D X st x vI w':=h.call (bG.of h.re hb)
theorem dh.cell(h:dh W0 Wv vv L D X st x vI wr)(j:Nat):wr.cell? ⟨X,j,none⟩=(aX x vI)[j]?:=Lib.cell_of_heap h.rule j
theorem dh.fz(h:dh W0 Wv vv L D X st x vI wr)(j:Nat):wr.frozen? ⟨X,j,none⟩=false:=Go.Joins.unfrozen_of_block h.rule j
theorem dh.ne(h:dh W0 Wv vv L D X st x vI wr):W0.heap.size≠X:=by have:=h.re.vars.lt;have:=h.low;omega
theorem dh.put(h:dh W0 Wv vv L D X st x vI wr)(j:Nat)(u:Value){x':aZ}(hc:(aX x vI).setIfInBounds j u=aX x' vI)(hi:x'.items=x.items):dh W0 Wv vv L D X st x' vI (wr.setCell ⟨X,j,none⟩ u):=by
 have h2:=h.hi;refine⟨h.re.set h.low j u,?_,?_,h.low,h.hi⟩
 ·have:=Go.Joins.block_setCell h.rule (i:=j) u;rw[←hc];exact this
 ·rw[hi];exact bu h.row (fun g hg=>Below.heap_setCell wr ⟨X,j,none⟩ u g (by have:=(h.row.lt g hg).1;show g≠X;omega)) (Nat.le_refl _)
theorem dh.push(h:dh W0 Wv vv L D X st x vI wr)(it:eI){o:Obj}{v2:Value}{w2:World}(ho:w2.ownsRow L 92 3 v2 (x.items.length+1) (x.items.flatMap qB++qB it))(hg:(wr.alloc o).grownBy w2 vI.ownBlock):dh W0 Wv vv L D X st {x with items:=x.items++[it]} v2 (w2.setCell ⟨X,6,none⟩ v2)∧ag (fun b=>b=X∨L≤b) wr (w2.setCell ⟨X,6,none⟩ v2):=by
 have h0:=h.re.vars.lt;have h1:=h.low;have h2:=h.hi;have hoW:ag (fun b=>L≤b) (wr.alloc o) w2:=⟨hg.os,hg.tape,hg.output,hg.size,fun k hk hn=>hg.block k hk (fun e=>hn ((h.row.lt k e.symm).1))⟩;have Jp:ag (fun b=>L≤b) wr w2:=(ag.of (aj (Below.refl _ wr) o)).trans hoW;have hX:w2.heap[X]?=some (.cells (aX x vI) 40 (0,0)):=bB Jp h.rule (by omega);have ik:aC W0 Wv vv w2 D st:=h.re.turn Jp (fun k hk=>by omega)
 refine⟨⟨ik.set h.low 6 v2,?_,?_,h.low,h.hi⟩,(Jp.wide (fun k _ hk=>.inr hk)).set (p:=⟨X,6,none⟩) (fun _=>.inl rfl) v2⟩
 ·have:=Go.Joins.block_setCell hX (i:=6) v2;exact this
 ·have e:({x with items:=x.items++[it]}:aZ).items.flatMap qB=x.items.flatMap qB++qB it:=by simp
  have el:({x with items:=x.items++[it]}:aZ).items.length=x.items.length+1:=by simp
  rw[e,el];exact bu ho (fun g aL=>Below.heap_setCell w2 ⟨X,6,none⟩ v2 g (by have:=(ho.lt g aL).1;show g≠X;omega)) (Nat.le_refl _)
end
def RX(s:ByteArray)(f:UInt8→Bool)(R:Bool)(W0:World)(k:Value)(wr:World):Prop:=∃j:Nat,k=.int .i64 j∧j≤s.size∧wr=W0∧(s.data.toList.drop j).any f=R
theorem byte_at{s:ByteArray}{j:Nat}(h:j<s.size):∃c:UInt8,af s j=c.toNat∧s.data.toList.drop j=c::s.data.toList.drop (j+1):=by(have h':j<s.data.toList.length:=by simpa using h);refine⟨s.data.toList[j],?_,List.drop_eq_getElem_cons h'⟩;have h2:j<s.data.size:=h;unfold af;rw[Array.getElem?_eq_getElem h2];simp
theorem RY(s m:ByteArray)(w:World)(hs:s.size≤1100000):Calls Tryz.prog 98 #[.string s,.string m] w fun e w'=>e=.returned (.bool (rK s m.data.toList))∧Below w.heap.size w w':=by
 obtain⟨W0,cap,hcv,gY,dc,bT,hcell⟩:=yR s w;have IB:=Lib.hid (fun c:UInt8=>(show Calls Tryz.prog 81 #[.string m,.int .u8 (c.toNat:Nat)] W0 fun e w'=>e=.returned (.int .i64 (Go.Lib.indexByte m.data.toList c))∧w'=W0 from by have h:=Tryz.strings_IndexByte m ((c.toNat:Nat):Int) W0;rwa[show((((c.toNat:Nat):Int).toNat).toUInt8)=c by rw[Int.toNat_natCast];exact UInt8.ofNat_toNat]at h));unfold rK
 obtain⟨f,hf⟩:∃f:UInt8→Bool,(fun c=>decide (0≤Go.Lib.indexByte m.data.toList c))=f:=⟨_,rfl⟩;have RZ:∀c,decide (0≤Go.Lib.indexByte m.data.toList c)=f c:=fun c=>congrFun hf c;rw[hf];obtain⟨R,hR⟩:∃R,s.data.toList.any f=R:=⟨_,rfl⟩;rw[hR];have HR:=Lib.hid hR;have HF:=Lib.hid RZ;have HB:=Lib.hid dc;have HC:=Lib.hid hcell;obtain⟨n,hn⟩:∃n,s.size=n:=⟨_,rfl⟩;have HN:=Lib.hid hn;rw[hn]at hs hcv;clear hR hf RZ dc hcell hn gY;go_enter Tryz.func98,Tryz.ntmps98;go_wp2_with fail
 go_loopw[10](RX s f R W0)(fun k _=>n-(intOf k).toNat);case atStart=>exact⟨0,rfl,Nat.zero_le _,rfl,by rw[List.drop_zero];exact HR.out⟩
 case round=>
  obtain⟨j,rfl,hj,rfl,hr⟩:=hrel;rw[HN.out]at hj;by_cases hlt:j<n
  ·have t1:decide ((j:Int)<(n:Int))=true:=decide_eq_true (by omega);have aT:decide (j<n)=true:=decide_eq_true hlt;have q1:IntKind.i64.wrap ((j:Int)+1)=(j:Int)+1:=IntWalk.i64_in _ (by omega);obtain⟨c,hc,hd⟩:=byte_at (s:=s) (j:=j) (by rw[HN.out];exact hlt);have e0:=HC.out j (by rw[HN.out];exact hlt);rw[hc]at e0;rw[hd,List.any_cons,←HF.out c]at hr;have R3:=Lib.hid (IB.out c);obtain⟨i,hi⟩:∃i,Go.Lib.indexByte m.data.toList c=i:=⟨_,rfl⟩;rw[hi]at hr R3
   have aO:=Lib.hid hr;clear hr hc hd hi;go_wp2_with fail;go_at_call 81;refine R3.out.mono ?_;rintro e w1⟨rfl,rfl⟩;by_cases h0:0≤i
   ·have t2:decide ((0:Int)≤i)=true:=decide_eq_true h0;have hT:R=true:=by have:=aO.out;rw[t2]at this;exact this.symm
    subst hT;clear h0;go_wp2;go_ret;exact⟨rfl,HB.out⟩
   ·have t2:decide ((0:Int)≤i)=false:=decide_eq_false h0;have RL:=Lib.hid (show RX s f R w1 (.int .i64 ((j:Int)+1)) w1 from⟨j+1,by go_num,by rw[HN.out];omega,rfl,by have:=aO.out;rw[t2]at this;simpa using this⟩);clear h0;go_wp2;refine⟨?_,by simp[intOf];omega⟩;have R:=RL.out;first|exact R|((repeat apply Exists.intro);exact⟨R,rfl⟩)
  ·have t1:decide ((j:Int)<(n:Int))=false:=decide_eq_false (by omega);have aT:decide (j<n)=false:=decide_eq_false hlt;rw[List.drop_eq_nil_of_le (by(have:s.data.toList.length=s.size:=by simp);rw[this,HN.out];omega)]at hr;obtain rfl:R=false:=hr.symm;clear hr;go_wp2;go_ret;exact⟨rfl,HB.out⟩
def A1(t:ByteArray):Bool:=!rK t [36]&&o5 t
def R4(l:List ByteArray)(R:Bool)(w:World)(k:Value)(wr:World):Prop:=∃j:Nat,k=.int .i64 j∧j≤l.length∧Below w.heap.size w wr∧(l.drop j).all A1=R
theorem aej{α:Type}{l:List α}{j:Nat}{x:α}(h:l[j]?=some x):l.drop j=x::l.drop (j+1):=by obtain⟨hl,rfl⟩:=List.getElem?_eq_some_iff.1 h;exact List.drop_eq_getElem_cons hl
theorem aek(v:cW)(u:Value)(w:World)(hE:ij w)(h:Rd (Own w) w u (.list 1 (v.values.map .str)))(hn:v.name.size≤1100000)(xW:∀t∈v.values,t.size≤1100000)(hl:v.values.length≤1100000):Calls Tryz.prog 58 #[.agg #[.string v.name,u]] w (QL w (DU v)):=by
 obtain⟨ao,cap,rfl,_,_,dg⟩:=h.Cr;have cq:=heap_alloc_new w (.cells #[.string v.name,.slice ao v.values.length cap] 103);have aQ:=aj (Below.refl _ w) (.cells #[.string v.name,.slice ao v.values.length cap] 103);have e_:DU v=(decide (v.name≠fL)&&decide (v.name.size≤64)&&!o6 v.name&&!rK v.name [36,40,41]&&(tC v.name).isEmpty&&decide (v.values.length≤256)&&v.values.all A1):=rfl;rw[e_];have OW:=Lib.hid (fun W(hW:ij W)=>P_ v.name W hW.cl)
 have MK:=Lib.hid (fun W=>RY v.name ⟨#[36,40,41]⟩ W hn)
 have UV:=Lib.hid (fun W(hW:ij W)=>(show∃W0 cap,(convert 9 22 (.string v.name)).run Tryz.prog W=.ok (.slice (some ⟨W.heap.size,0,none⟩) v.name.size cap) W0∧Below W.heap.size W W0∧Calls Tryz.prog 64 #[.slice (some ⟨W.heap.size,0,none⟩) v.name.size cap] W0 (ID W0 (tC v.name))from by
  obtain⟨W0,cap,hcv,gY,dc,bT,hcell⟩:=yR v.name W;refine⟨W0,cap,hcv,dc,(IC _ v.name W0 (zq (S:=Own W0) (B:=v.name) (b:=W.heap.size) bT gY hcell) (hW.ut.ext dc) hn).mono (fun e w1 hp=>?_)⟩;unfold tC
  cases hR:dZ v.name 0 []with
  |ok l=>rw[hR]at hp;obtain⟨rfl,hb⟩:=hp;exact⟨hb,_,rfl,iS.nil⟩
  |no k p=>rw[hR]at hp;obtain⟨u,rfl,hf⟩:=hp;exact⟨hf.2,_,rfl,hf.1.wide (fun b hb=>hb.2)⟩))
 have VK:=Lib.hid (fun t(ht:t∈v.values)W=>RY t ⟨#[36]⟩ W (xW t ht));have VG:=Lib.hid (fun t(ht:t∈v.values)W(hW:ij W)=>IE t W hW.ut (xW t ht));have CL:=Lib.hid dg;obtain⟨Wa,bU⟩:∃Wa,w.alloc (.cells #[.string v.name,.slice ao v.values.length cap] 103)=Wa:=⟨_,rfl⟩;rw[bU]at cq aQ;obtain⟨b1,ar⟩:∃b,decide (v.name≠fL)=b:=⟨_,rfl⟩;obtain⟨b2,ah⟩:∃b,decide (v.name.size≤64)=b:=⟨_,rfl⟩;obtain⟨b3,aw⟩:∃b,o6 v.name=b:=⟨_,rfl⟩
 obtain⟨b4,aY⟩:∃b,rK v.name [36,40,41]=b:=⟨_,rfl⟩;obtain⟨b6,cG⟩:∃b,decide (v.values.length≤256)=b:=⟨_,rfl⟩
 have k1:(v.name.toList==[])=!b1:=by
  rw[←ar];by_cases e:v.name=fL
  ·rw[decide_eq_false (fun h=>h e),e,ByteArray.toList_eq];rfl
  ·rw[decide_eq_true e];have h:=mX (a:=v.name) (b:=fL) e;rwa[show fL.toList=[]by rw[ByteArray.toList_eq];rfl]at h
 have k2:decide ((64:Int)<(v.name.size:Int))=!b2:=by
  rw[←ah];by_cases e:v.name.size≤64
  ·rw[decide_eq_true e];exact decide_eq_false (by omega)
  ·rw[decide_eq_false e];exact decide_eq_true (by omega)
 have k2':decide (64<v.name.size)=!b2:=by rw[←k2];congr 1;simp;omega
 have k6:decide ((256:Int)<(v.values.length:Int))=!b6:=by
  rw[←cG];by_cases e:v.values.length≤256
  ·rw[decide_eq_true e];exact decide_eq_false (by omega)
  ·rw[decide_eq_false e];exact decide_eq_true (by omega)
 have AX:decide (256<v.values.length)=!b6:=by rw[←k6];congr 1;simp;omega
 rw[ar,ah,aw,aY,cG];have OW:=Lib.hid (show∀W,ij W→Calls Tryz.prog 97 #[.string v.name] W fun e w'=>e=.returned (.bool b3)∧Below W.heap.size W w' from by rw[←aw];exact OW.out);have MK:=Lib.hid (show∀W,Calls Tryz.prog 98 #[.string v.name,.string ⟨#[36,40,41]⟩] W fun e w'=>e=.returned (.bool b4)∧Below W.heap.size W w' from by rw[←aY];exact MK.out);obtain⟨q5,R5⟩:∃q,tC v.name=q:=⟨_,rfl⟩;rw[R5]at UV⊢;have HE:=Lib.hid (hE.ext aQ);have iz:=Lib.hid aQ;have ei:=cq
 have c0:=Lib.cell_of_heap ei 0;have c1:=Lib.cell_of_heap ei 1;have ei:=Lib.hid ei;have A2:=Lib.hid bU;obtain⟨nm,kG⟩:∃nm,v.name=nm:=⟨_,rfl⟩;obtain⟨vs,R6⟩:∃vs,v.values=vs:=⟨_,rfl⟩;rw[kG]at OW MK UV c0 k1 k2 k2' bU A2 ei⊢;rw[R6]at VK VG CL c1 k6 AX hl bU A2 ei⊢;rw[kG]at c1;obtain⟨n,hN⟩:∃n,vs.length=n:=⟨_,rfl⟩;have HN:=Lib.hid hN;rw[hN]at c1 k6 AX hl bU A2 ei⊢;obtain⟨R,hR⟩:∃R,vs.all A1=R:=⟨_,rfl⟩;rw[hR];have HR:=Lib.hid hR;clear hR;clear h dg hE hn xW cq aQ e_ ar ah aw aY cG R5 kG R6 hN
 cases b1;case' false=>go_enter Tryz.func58,Tryz.ntmps58;go_wp2_with fail
 case' true=>
  cases b2;case' false=>go_enter Tryz.func58,Tryz.ntmps58;go_wp2_with fail
  case' true=>
   go_enter Tryz.func58,Tryz.ntmps58;go_wp2_with fail;refine(OW.out Wa HE.out).mono ?_;rintro e wc⟨rfl,fJ⟩;have HE:=Lib.hid (HE.out.ext fJ);have iz:=Lib.hid (aF iz.out fJ);have ei:=(fJ.block _ (ak ei.out)).trans ei.out;have c0:=Lib.cell_of_heap ei 0;have c1:=Lib.cell_of_heap ei 1;have ei:=Lib.hid ei;clear fJ;cases b3;case' true=>go_wp2_with fail
   case' false=>
    go_wp2_with fail;refine(MK.out wc).mono ?_;rintro e wd⟨rfl,fJ⟩;have HE:=Lib.hid (HE.out.ext fJ);have iz:=Lib.hid (aF iz.out fJ);have ei:=(fJ.block _ (ak ei.out)).trans ei.out;have c0:=Lib.cell_of_heap ei 0;have c1:=Lib.cell_of_heap ei 1;have ei:=Lib.hid ei;clear fJ;cases b4;case' true=>go_wp2_with fail
    case' false=>
     obtain⟨W5,Eo,hcv,bg,R7⟩:=UV.out wd HE.out;have HU5:=Lib.hid R7;have HE:=Lib.hid (HE.out.ext bg);have iz:=Lib.hid (aF iz.out bg);have ei:=Lib.hid ((bg.block _ (ak ei.out)).trans ei.out);clear bg R7;go_wp2_with fail;refine HU5.out.mono ?_;rintro e w6⟨fJ,u6,rfl,JZ⟩;have HE:=Lib.hid (HE.out.ext fJ);have iz:=Lib.hid (aF iz.out fJ);have ei:=(fJ.block _ (ak ei.out)).trans ei.out;have c0:=Lib.cell_of_heap ei 0;have c1:=Lib.cell_of_heap ei 1;have ei:=Lib.hid ei;clear fJ;obtain⟨h5,rfl⟩|⟨h5,p5,rfl⟩:=lE JZ
     case' inr=>have A3:=Lib.hid h5;clear JZ h5;go_wp2_with fail
     case' inl=>
      subst h5;clear JZ;cases b6;case' false=>go_wp2_with fail
      case' true=>
       go_wp2_with fail;go_loopw[35](R4 vs R w6)(fun k _=>n-(intOf k).toNat);case atStart=>exact⟨0,rfl,Nat.zero_le _,Below.refl _ _,by rw[List.drop_zero];exact HR.out⟩
       case' round=>
        obtain⟨j,rfl,hj,hb,hr⟩:=hrel;rw[HN.out]at hj;by_cases hlt:j<n;case' neg=>have t1:decide ((j:Int)<(n:Int))=false:=decide_eq_false (by omega);have aT:decide (j<n)=false:=decide_eq_false hlt;rw[List.drop_eq_nil_of_le (by rw[HN.out];omega)]at hr;have kO:true=R:=hr;clear hr;subst kO;have HB:=Lib.hid (aF iz.out hb);clear hb;go_wp2;go_ret;exact⟨[],⟨HB.out,_,rfl,iS.nil⟩,by simp⟩
        case' pos=>
         have t1:decide ((j:Int)<(n:Int))=true:=decide_eq_true (by omega);have aT:decide (j<n)=true:=decide_eq_true hlt;have q1:IntKind.i64.wrap ((j:Int)+1)=(j:Int)+1:=IntWalk.i64_in _ (by omega);obtain⟨t,ht⟩:=bN vs j (by rw[HN.out];exact hlt);rw[aej ht,List.all_cons]at hr;have nJ:=List.mem_of_getElem? ht;obtain⟨b,off,rfl,A4,hcc⟩:=CL.out (by rw[HN.out];omega);have e0:=(aK (aF iz.out hb) A4 _).trans (hcc j t ht);have A5:=VK.out t nJ wr;have EB:=VG.out t nJ
         obtain⟨mk,dP⟩:∃mk,rK t [36]=mk:=⟨_,rfl⟩;obtain⟨ge,uI⟩:∃ge,jK t=ge:=⟨_,rfl⟩;rw[show A1 t=(!mk&&ge.isEmpty)by unfold A1 o5;rw[dP,uI]]at hr;change Calls Tryz.prog _ _ _ (fun e w'=>e=.returned (.bool (rK t [36]))∧_)at A5;rw[dP]at A5;rw[uI]at EB;have A5:=Lib.hid A5;have EB:=Lib.hid EB;have aO:=Lib.hid hr;have HB:=Lib.hid hb;clear hr hb ht nJ dP uI A4 hcc;go_wp2_with fail;refine A5.out.mono ?_;rintro e w7⟨rfl,ed⟩;have J0:=Lib.hid (aF HB.out ed);have HE:=Lib.hid (HE.out.ext J0.out)
         have iz:=Lib.hid (aF iz.out J0.out);clear ed;cases mk;case' true=>obtain rfl:false=R:=aO.out;go_wp2_with fail
         case' false=>
          go_wp2_with fail;refine(EB.out w7 HE.out).mono ?_;rintro e w8⟨oW,u8,rfl,tK⟩;have iz:=Lib.hid (aF iz.out oW);obtain⟨h5,rfl⟩|⟨h5,p5,rfl⟩:=lE tK;case' inl=>subst h5;have RL:=Lib.hid (show R4 vs R w6 (.int .i64 ((j:Int)+1)) w8 from⟨j+1,by go_num,by rw[HN.out];omega,aF J0.out oW,by have h:=aO.out;simpa using h⟩);clear tK oW;go_wp2;refine⟨?_,by simp[intOf];omega⟩;have R:=RL.out;first|exact R|((repeat apply Exists.intro);exact⟨R,rfl⟩)
          case' inr=>
           obtain rfl:false=R:=by
            have h:=aO.out
            cases ge with
            |nil=>exact absurd rfl h5
            |cons x q=>simpa using h
           have WR:=Lib.hid (wG 11 j _ ge w8 tK);have HER:=Lib.hid (Rd.fault (k:=11) (a:=j) tK);clear tK oW h5;go_wp2_with fail;refine WR.out.mono ?_;rintro e w9⟨rfl,rfl⟩;go_wp2;go_ret;exact⟨_,⟨aj iz.out _,_,rfl,HER.out⟩,by simp⟩
 all_goals(go_at_call 42;refine(ri _ _ _).mono ?_;rintro e w9⟨rfl,rfl⟩;go_wp2;go_ret;exact⟨_,⟨aj iz.out _,_,rfl,Rd.failed _ _ _⟩,by first|(simp;done)|(have h:=A3.out;simp[h])⟩)
end Go.Proofs.YtcaiibkgajhohaaGreatDoor
