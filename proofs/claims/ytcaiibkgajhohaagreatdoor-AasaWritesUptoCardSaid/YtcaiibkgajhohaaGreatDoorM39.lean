/- waybill: lemmas and walks, printed from longer texts. -/
import Derived.Test.YtcaiibkgajhohaaGreatDoorM38
set_option maxRecDepth 100000
set_option maxHeartbeats 16000000
namespace Go.Proofs.YtcaiibkgajhohaaGreatDoor
open Go.RowKit
theorem Ul(S:ByteArray)(i:Nat)(hi:i<S.size)(W:World):(Instr.index 9 (.string S) (.int .i64 (i:Int))).run Tryz.prog W=.ok (.int .u8 (af S i:Nat)) W:=by have hu:=run_underlying (P:=Tryz.prog) Tryz.underlying9;(have h2:(i:Int)<(S.size:Int):=by omega);rw[Xu S i hi];simp[Instr.index,asIntOf,hu,part,go_sem,hi]
def eU(l:List Nat):ByteArray:=⟨(l.map UInt8.ofNat).toArray⟩
def oS(s:ByteArray)(i:Nat):ByteArray:=⟨(qL s i).toArray⟩
theorem Um(l:List Nat):(eU l).size=l.length:=by show(l.map UInt8.ofNat).toArray.size=_;simp
theorem Un(l m:List Nat):eU l++eU m=eU (l++m):=by apply toList_inj;rw[ByteArray.toList_eq,ByteArray.toList_eq];simp[eU,ByteArray.data_append]
theorem af1{s:ByteArray}{i:Nat}(hi:i<s.size):oS s i++eU (cO (af s i))=oS s (i+1):=by apply toList_inj;rw[ByteArray.toList_eq,ByteArray.toList_eq];simp[oS,eU,ByteArray.data_append,T6 hi]
theorem af2(s:ByteArray)(i:Nat):(oS s i).size=fj s i:=by show(qL s i).toArray.size=_;rw[List.size_toArray,T7]
theorem af3(s:ByteArray):oS s s.size++⟨#[34]⟩=aG s:=by rw[←T_];apply toList_inj;rw[ByteArray.toList_eq,ByteArray.toList_eq];simp[oS,ByteArray.data_append]
def x7(c m:Nat):List Nat:=if(fF.take m).contains c then[92,pX[fF.idxOf c]?.getD 0]else[]
theorem af4:∀(m:Fin 7)(c:Fin 256),x7 c.val (m.val+1)=if(c.val==fF[m.val]?.getD 0)=true then[92,pX[m.val]?.getD 0]else x7 c.val m.val:=by decide+kernel
theorem af5(c:Nat):x7 c 7=if fF.contains c then cO c else[]:=by unfold x7 cO;rw[show fF.take 7=fF from rfl];split<;>rfl
theorem af6(s:ByteArray)(j:Nat)(hj:j<s.size):s.extract j (j+1)=eU [af s j]:=by
 have hd:j<s.data.size:=hj;apply toList_inj;rw[ByteArray.toList_eq,ByteArray.toList_eq];simp only[eU,af,ByteArray.data_extract,Array.toList_extract,List.map_cons,List.map_nil,Array.getElem?_eq_getElem hd,Option.getD_some,UInt8.ofNat_toNat];apply List.ext_getElem?;intro i;rw[List.extract_eq_take_drop,List.getElem?_take]
 cases i with
 |zero=>simp
 |succ i=>simp
def Uo(s:ByteArray)(w:World)(o i:Value)(wr:World):Prop:=∃j:Nat,i=.int .i64 j∧j≤s.size∧o=.string (oS s j)∧Below w.heap.size w wr
def KI(c:Nat)(w:World)(o k:Value)(wr:World):Prop:=∃m:Nat,k=.int .i64 m∧m≤7∧o=.string (eU (x7 c m))∧∃q,wr=w.drewN q
theorem af7(s:ByteArray)(w:World)(hm:s.size≤1048576):Calls Tryz.prog 115 #[.string s] w fun e w'=>e=.returned (.string (aG s))∧Below w.heap.size w w':=by
 obtain⟨V,hV⟩:∃V:ByteArray,(⟨#[34,92,8,12,10,13,9]⟩:ByteArray)=V:=⟨_,rfl⟩;obtain⟨N,hN⟩:∃N:ByteArray,(⟨#[34,92,98,102,110,114,116]⟩:ByteArray)=N:=⟨_,rfl⟩;have Up:∀m,m<7→af V m=fF[m]?.getD 0:=by intro m h;subst hV;(have hj:m=0∨m=1∨m=2∨m=3∨m=4∨m=5∨m=6:=by omega);rcases hj with rfl|rfl|rfl|rfl|rfl|rfl|rfl<;>rfl
 have Uq:∀m,m<7→N.extract m (m+1)=eU [pX[m]?.getD 0]:=by intro m h;subst hN;(have hj:m=0∨m=1∨m=2∨m=3∨m=4∨m=5∨m=6:=by omega);rcases hj with rfl|rfl|rfl|rfl|rfl|rfl|rfl<;>decide
 have Ur:V.size=7:=by rw[←hV];rfl
 have Us:N.size=7:=by rw[←hN];rfl
 have Ut:=Lib.hid Up;have HNx:=Lib.hid Uq;clear Up Uq;go_enter Tryz.func115,Tryz.ntmps115;go_wp2_with fail;rw[hV,hN];have HVz:=Lib.hid Ur;have HNz:=Lib.hid Us;clear hV hN Ur Us;go_loopw[3,6](Uo s w)(fun _ k _=>s.size-(intOf k).toNat);case atStart=>exact⟨0,rfl,Nat.zero_le _,by rfl,Below.refl _ _⟩
 case round=>
  obtain⟨j,rfl,hj,rfl,hB⟩:=hrel;have HB:=Lib.hid hB;clear hB;have hoz:(oS s j).size≤7000000:=by rw[af2];have:=Kx j hj;omega
  by_cases hlt:j<s.size
  ·have t1:decide ((j:Int)<(s.size:Int))=true:=decide_eq_true (by omega);have aT:decide (j<s.size)=true:=decide_eq_true hlt;obtain⟨c,hc⟩:∃c,af s j=c:=⟨_,rfl⟩;have Uu:c<256:=by rw[←hc];exact dm s j
   have Uv:=Lib.hid (af1 hlt);have IX:=Ul s j hlt;have Uw:=Lib.hid (Ff .i64 s j (by omega) _ rfl);rw[hc]at Uv IX;have HC:=Lib.hid hc;clear hc;go_wp2_with fail;go_loopw[7,8](KI c wr)(fun _ k _=>7-(intOf k).toNat);case atStart=>exact⟨0,rfl,by decide,rfl,0,rfl⟩
   case round=>
    obtain⟨m,rfl,hm7,rfl,q,rfl⟩:=hrel;by_cases hm:m<7
    ·have hst:=af4 ⟨m,hm⟩ ⟨c,Uu⟩;simp only at hst;have cM:=Lib.hid hst;have IV:=Ul V m (by have:=HVz.out;omega);rw[Ut.out m hm]at IV;have SN:=Ff .i64 N m (by have:=HNz.out;omega) _ (HNx.out m hm);have al9:fF[m]?.getD 0<256:=by rw[←Ut.out m hm];exact dm _ _
     have Gq:(eU [pX[m]?.getD 0]).size=1:=Um _;have fS:eU [92,pX[m]?.getD 0]=(⟨#[92]⟩:ByteArray)++eU [pX[m]?.getD 0]:=(Un [92] _).symm;generalize fF[m]?.getD 0=v at*;generalize pX[m]?.getD 0=x at*;have q2:IntKind.i64.wrap ((m:Int)+1)=(m:Int)+1:=IntWalk.i64_in _ (by omega);have t2:decide ((m:Int)<7)=true:=decide_eq_true (by omega);have dM:decide (m<7)=true:=decide_eq_true hm;have xR:=Lib.hid fS;clear hst fS;by_cases hcv:c=v
     ·have tq:((c:Int)==(v:Int))=true:=beq_iff_eq.2 (by omega);have R:∀q,KI c wr (.string ((⟨#[92]⟩:ByteArray)++eU [x])) (.int .i64 ((m:Int)+1)) (wr.drewN q):=fun q=>by have e:=cM.out;rw[if_pos (beq_iff_eq.2 hcv)]at e;exact⟨m+1,by go_num,hm,by rw[e,xR.out],q,rfl⟩
      have HR:=Lib.hid R;have z1:(⟨#[92]⟩:ByteArray).size=1:=rfl;clear R hcv cM xR;go_wp2;go_quiet(fail);go_wp2;refine⟨?_,by simp[intOf];omega⟩;have R:=HR.out;simpa using R _
     ·have tq:((c:Int)==(v:Int))=false:=beq_eq_false_iff_ne.2 (by omega);have R:∀q,KI c wr (.string (eU (x7 c m))) (.int .i64 ((m:Int)+1)) (wr.drewN q):=fun q=>by have e:=cM.out;rw[if_neg (by simpa using hcv)]at e;exact⟨m+1,by go_num,hm,by rw[e],q,rfl⟩
      have HR:=Lib.hid R;clear R hcv cM xR;go_wp2;go_quiet(fail);go_wp2;refine⟨?_,by simp[intOf];omega⟩;have R:=HR.out;simpa using R _
    ·obtain rfl:m=7:=by omega
     have aP:=Lib.hid (eW q HB.out);generalize wr.drewN q=wr at*;rw[af5];have KJ:=(C5 c).2;have KK:=(C5 c).1;have Bt:=Um (cO c);have z0:((oS s j).size:Int)≤8388608:=by omega
     have z1:((eU (cO c)).size:Int)≤8388608:=by omega
     have hR:∀W,Below w.heap.size w W→Uo s w (.string (oS s j++eU (cO c))) (.int .i64 ((j:Int)+1)) W:=fun W h=>⟨j+1,by go_num,hlt,by rw[Uv.out],h⟩;have HR:=Lib.hid hR;have q2:IntKind.i64.wrap ((j:Int)+1)=(j:Int)+1:=IntWalk.i64_in _ (by omega);clear hR
     cases kR:fF.contains c with
     |true=>rw[if_pos rfl];have hne:((eU (cO c)).toList==(⟨#[]⟩:ByteArray).toList)=false:=mX (fun e=>by have:=congrArg ByteArray.size e;rw[Bt]at this;have h0:(⟨#[]⟩:ByteArray).size=0:=rfl;omega);have N8:(eU (cO c)).toList.isEmpty=false:=Gd (by omega);clear kR KJ KK Bt;generalize eU (cO c)=E at*;go_wp2;refine⟨?_,by simp[intOf];omega⟩;have R:=HR.out _ aP.out;first|exact R|((repeat apply Exists.intro);exact⟨R,rfl⟩)
     |false=>
      rw[if_neg (by decide)];rw[show eU []=⟨#[]⟩from rfl];by_cases lT:c<32
      ·have Bu:cO c=[92,117,48,48,c_ (c/16),c_ (c%16)]:=by unfold cO;rw[kR,if_neg (by decide),if_pos lT]
       have hE:eU (cO c)=(⟨#[92,117,48,48]⟩:ByteArray)++vZ c:=by rw[Bu];exact(Un [92,117,48,48] [c_ (c/16),c_ (c%16)]).symm
       have WR:=Lib.hid (afV c wr Uu);have t3:decide ((c:Int)<32)=true:=decide_eq_true (by omega);have gS:decide (c<32)=true:=decide_eq_true lT;have q3:IntKind.u64.wrap (c:Int)=(c:Int):=IntWalk.u64_in _ (by omega);have hne:((eU (cO c)).toList==(⟨#[]⟩:ByteArray).toList)=false:=mX (fun e=>by have:=congrArg ByteArray.size e;rw[Bt]at this;have h0:(⟨#[]⟩:ByteArray).size=0:=rfl;omega);have N8:(eU (cO c)).toList.isEmpty=false:=Gd (by omega)
       have z4:(⟨#[92,117,48,48]⟩:ByteArray).size=4:=rfl;have z5:(vZ c).size=2:=rfl;clear kR KJ KK Bt lT Bu;generalize eU (cO c)=E at*;generalize vZ c=D at*;have hE':=hE.symm;clear hE;go_wp2_with fail;refine WR.out.mono ?_;rintro e w2⟨rfl,ah⟩;have cF:=Lib.hid (aF aP.out ah);clear ah;go_wp2;refine⟨?_,by simp[intOf];omega⟩;have R:=HR.out _ cF.out;first|exact R|((repeat apply Exists.intro);exact⟨R,rfl⟩)
      ·have Bu:cO c=[c]:=by unfold cO;rw[kR,if_neg (by decide),if_neg lT]
       have hE:s.extract j (j+1)=eU (cO c):=by rw[Bu,af6 s j hlt,HC.out]
       have SX:=Uw.out;rw[hE]at SX;have t3:decide ((c:Int)<32)=false:=decide_eq_false (by omega);have gS:decide (c<32)=false:=decide_eq_false lT;clear kR KJ KK Bt lT Bu hE Uw;generalize eU (cO c)=E at*;go_wp2;refine⟨?_,by simp[intOf];omega⟩;have R:=HR.out _ aP.out;first|exact R|((repeat apply Exists.intro);exact⟨R,rfl⟩)
  ·have t1:decide ((j:Int)<(s.size:Int))=false:=decide_eq_false (by omega);have aT:decide (j<s.size)=false:=decide_eq_false hlt;obtain rfl:j=s.size:=by omega
   have z0:((oS s s.size).size:Int)≤8388608:=by omega
   have z1:(⟨#[34]⟩:ByteArray).size=1:=rfl;have HF:=Lib.hid (af3 s);clear hoz;go_wp2;go_ret;exact⟨by rw[←HF.out];rfl,HB.out⟩
theorem agP(w0 w:World)(X:Nat)(f:Fl)(b:Bool)(s:ByteArray)(h:cJ w0 w X f)(he:gI w0)(hs:s.size≤1048576):Calls Tryz.prog 107 #[an X,.bool b,.string s] w (Bp w0 w X f (b&&!aN s) false (aJ s) (b&&aN s) (aG s)):=by
 have TX:=Lib.hid (Br w0 w X f s h he hs);have H:=Lib.hid h;unfold an at TX⊢;clear h he hs
 cases b with
 |false=>go_enter Tryz.func107,Tryz.ntmps107;go_wp2;go_ret;exact⟨_,rfl,⟨Nat.zero_le _,fun h=>by cases h⟩,by rw[Bool.false_and,Fl.dO];exact H.out,ag.refl _ _⟩
 |true=>go_enter Tryz.func107,Tryz.ntmps107;go_wp2_with fail;refine TX.out.mono ?_;intro e w2 hp;obtain⟨T,rfl,h1,h2,h3⟩:=hp;have H1:=Lib.hid h1;have H2:=Lib.hid h2;have H3:=Lib.hid h3;clear h1 h2 h3;go_wp2;go_ret;exact⟨_,rfl,H1.out,H2.out,H3.out⟩
structure fx(w0 w:World)(X:Nat)(f:Fl)(R:Nat)(x:aZ)(vI:Value)(L B:Nat)(vl:Value)(l:List KV)(W:World):Prop where
 bq:cJ w0 W X f
 only:ag (fun b=>b=X) w W
 box:W.heap[R]?=some (.cells (aX x vI) 40 (0,0))
 cell:W.heap[L]?=some (.cells #[vl] 101 (0,0))
 own:W.ownsRow B 100 2 vl l.length (l.flatMap iW)
section
variable{w0 w:World}{X R L B:Nat}{f g:Fl}{x:aZ}{vI vl:Value}{l:List KV}{W W':World}
structure BG(w:World)(X R L B:Nat):Prop where
 x:X<w.heap.size
 r:w.heap.size≤R
 l:R<L
 b:L<B
theorem fx.call(h:fx w0 w X f R x vI L B vl l W)(hd:BG w X R L B)(hp:cJ w0 W' X g)(ho:ag (fun b=>b=X) W W'):fx w0 w X g R x vI L B vl l W':=by have h1:=hd.x;have h2:=hd.r;have h3:=hd.l;have h4:=hd.b;exact⟨hp,h.only.trans ho,(ho.block _ (ak h.box) (by omega)).trans h.box,(ho.block _ (ak h.cell) (by omega)).trans h.cell,bu h.own (fun k hk=>ho.block k (h.own.lt k hk).2 (fun e=>by have:=(h.own.lt k hk).1;omega)) (Nat.le_refl _)⟩
theorem fx.ext(h:fx w0 w X f R x vI L B vl l W)(hd:BG w X R L B)(hb:Below W.heap.size W W'):fx w0 w X f R x vI L B vl l W':=h.call hd (h.bq.ext hb) (ag.of hb)
theorem fx.drew(h:fx w0 w X f R x vI L B vl l W):fx w0 w X f R x vI L B vl l W.drew:=⟨⟨h.bq.below.drew,h.bq.le,h.bq.dJ⟩,⟨h.only.os,h.only.tape,h.only.output,h.only.size,h.only.block⟩,h.box,h.cell,h.own⟩
theorem fx.grown{W2:World}{o:Obj}{v2:Value}{p:KV}(h:fx w0 w X f R x vI L B vl l W)(hd:BG w X R L B)(hg:(W.alloc o).grownBy W2 vl.ownBlock)(ho:W2.ownsRow B 100 2 v2 (l.length+1) (l.flatMap iW++iW p)):W2.heap[L]?=some (.cells #[vl] 101 (0,0))∧fx w0 w X f R x vI L B v2 (l++[p]) (W2.setCell ⟨L,0,none⟩ v2):=by
 have h1:=hd.x;have h2:=hd.r;have h3:=hd.l;have h4:=hd.b;have hz:=h.bq.below.size;have hzo:=h.only.size;have hx:=h.bq.le;have hk:∀k,vl.ownBlock=some k→B≤k:=fun k e=>(h.own.lt k e).1;have hE:ag (fun b=>vl.ownBlock=some b) W W2:=((ag.refl _ W).alloc o).grown hg (fun k e _=>e);have GX:=(hE.block R (ak h.box) (fun e=>by have:=hk _ e;omega)).trans h.box;have hcell:=(hE.block L (ak h.cell) (fun e=>by have:=hk _ e;omega)).trans h.cell
 have fO:=h.bq.turn hE (fun k e=>by have:=hk k e;exact⟨by omega,by omega⟩);have gW:ag (fun b=>b=X) w W2:=(h.only.alloc o).grown hg (fun k e hlt=>by have:=hk k e;omega);refine⟨hcell,⟨fO.turn (T:=fun b=>b=L) ((ag.refl (fun b=>b=L) W2).set (p:=⟨L,0,none⟩) (fun _=>rfl) v2) (fun k e=>by subst e;exact⟨by omega,by omega⟩),?_,?_,?_,?_⟩⟩
 ·exact⟨gW.os,gW.tape,gW.output,by simpa using gW.size,fun k lf hn=>(Below.heap_setCell _ _ _ k (fun e=>by have e:k=L:=e;omega)).trans (gW.block k lf hn)⟩
 ·exact(Below.heap_setCell _ _ _ R (fun e=>by have e:R=L:=e;omega)).trans GX
 ·exact Go.Joins.block_setCell hcell (i:=0) _
 ·rw[List.length_append,List.flatMap_append];exact bu (by simpa using ho) (fun g aL=>Below.heap_setCell _ _ _ g (fun e=>by have:=(ho.lt g aL).1;have e:g=L:=e;omega)) (Nat.le_refl _)
theorem agQ(b:Bool)(k v:ByteArray)(h:fx w0 w X f R x vI L B vl l W)(hd:BG w X R L B)(hB:B≤W.heap.size)(hl:l.length≤1000):Calls Tryz.prog 106 #[.bool b,.string k,.string v,.pointer (some ⟨L,0,none⟩)] W fun e W'=>e=.returned (.tuple #[])∧(∃vl',fx w0 w X f R x vI L B vl' (l++aU b k v) W')∧W.heap.size≤W'.heap.size:=by
 have H:=Lib.hid h;have c0:=Lib.cell_of_heap h.cell 0;have fr:=Go.Joins.unfrozen_of_block h.cell 0;have HD:=Lib.hid hd
 cases b with
 |false=>clear h hd;go_enter Tryz.func106,Tryz.ntmps106;go_wp2;go_end0;exact⟨rfl,⟨vl,by simpa[aU]using H.out⟩,Nat.le_refl _⟩
 |true=>
  obtain⟨n,hn⟩:∃n,l.length=n:=⟨_,rfl⟩;have az:=h.own;rw[hn]at az hl;obtain⟨ao,cp,rfl,_⟩:=aM az;have HW:=Lib.hid az;have HN:=Lib.hid hn;have HB:=Lib.hid hB;clear h hd az hn hB;go_enter Tryz.func106,Tryz.ntmps106;go_wp2_with(at_builtin;refine iY W #[.string k,.string v] 100 rfl _ _ 101 rfl B Fj _ _ _ rfl HW.out rfl rfl ?c1 ?c2 ?c3 ?c4 ?_);case c1=>exact⟨rfl,rfl⟩
  case c2=>unfold maxLen;omega
  case c3=>omega
  case c4=>exact HB.out
  intro v2 W2 aE aL;have hr:=HN.out;have G:=H.out.grown (p:=(k,v)) HD.out aL (by rw[hr];exact aE);obtain⟨g1,g2⟩:=G;obtain⟨a2,c2,rfl,_⟩:=aM aE;have c1:=Lib.cell_of_heap g1 0;have fr2:=Go.Joins.unfrozen_of_block g1 0;have HG:=Lib.hid g2;have HZ:=Lib.hid aL.size;clear aE aL g1 g2 hr c0 fr;go_wp2;go_end0;refine⟨rfl,⟨_,by simpa[aU]using HG.out⟩,?_⟩;have:=HZ.out;simp at this⊢;omega
end
end Go.Proofs.YtcaiibkgajhohaaGreatDoor
