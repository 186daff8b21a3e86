/- waybill: lemmas and walks, printed from longer texts. -/
import Derived.Test.YtcaiibkgajhohaaGreatDoorM13
import Derived.Deep.CutBlock
set_option maxRecDepth 100000
set_option maxHeartbeats 16000000
namespace Go.Proofs.YtcaiibkgajhohaaGreatDoor
open Go.RowKit
theorem aas{B:ByteArray}{f g j:Nat}(h:f+j<g):af (B.extract f g) j=af B (f+j):=by
 unfold af;rw[ByteArray.data_extract,Array.getElem?_extract];split
 ·rfl
 ·rw[Array.getElem?_eq_none (by omega)]
structure fH(w0 w:World)(P D T:Nat)(bv:Value)(m:Bd)(s:PS)(tv sv:Value)(os:List Nat)(ns:List aW)(X N:Nat)(t:Tok)(nd:JN)(W:World):Prop where
 pat:bQ W w0.heap.size P D T bv m s tv sv os ns
 bl:Below w0.heap.size w W
 tok:W.heap[X]?=some (.cells #[.int .i64 t.kind,.int .i64 t.fr,.int .i64 t.cK] 128 (0,0))
 node:W.heap[N]?=some (.cells #[.int .i64 nd.kind,.string nd.key,.string nd.text,.int .i64 nd.at_] 117 (0,0))
 fI:w0.heap.size≤N
 low:w0.heap.size≤W.heap.size
 wY:bK w W
section
variable{w0 w W W':World}{P D T X N:Nat}{bv tv sv:Value}{m:Bd}{s:PS}{os:List Nat}{ns:List aW}{t:Tok}{nd s7:JN}
theorem fH.below(h:fH w0 w P D T bv m s tv sv os ns X N t nd W)(hb:Below W.heap.size W W'):fH w0 w P D T bv m s tv sv os ns X N t nd W':=⟨h.pat.below hb,h.bl.trans (hb.mono h.low),by rw[hb.block X (ak h.tok)];exact h.tok,by rw[hb.block N (ak h.node)];exact h.node,h.fI,Nat.le_trans h.low hb.size,h.wY.trans (.of hb)⟩
theorem fH.put(h:fH w0 w P D T bv m s tv sv os ns X N t nd W)(j:Nat)(u:Value)(hc:(#[.int .i64 s7.kind,.string s7.key,.string s7.text,.int .i64 s7.at_]:Array Value)=(#[.int .i64 nd.kind,.string nd.key,.string nd.text,.int .i64 nd.at_]:Array Value).setIfInBounds j u):fH w0 w P D T bv m s tv sv os ns X N t s7 (W.setCell ⟨N,j,none⟩ u):=by
 have hk:∀k,k≠N→(W.setCell ⟨N,j,none⟩ u).heap[k]?=W.heap[k]?:=fun k hk=>Below.heap_setCell _ _ _ _ hk;have hN:=h.node;have p:=h.pat;refine⟨⟨?_,?_,p.G_ hN hk (by decide) (by decide),p.de,p.wf,p.vals,p.Ha hN hk (by decide),p.len,fun i c q ln hq=>?_,p.nd,p.qa,p.qc,p.mf,p.h_,p.wX⟩,h.bl.setCell (p:=⟨N,j,none⟩) h.fI u,?_,?_,h.fI,by simpa using h.low,h.wY.set (p:=⟨N,j,none⟩) hN (by decide) u⟩
 ·rw[hk P (fp p.box hN (by decide))];exact p.box
 ·rw[hk D (fp p.doc hN (by decide))];exact p.doc
 ·have ho:=p.ops i c q ln hq;unfold gr at*;rw[hk c (fp ho hN (by decide))];exact ho
 ·rw[hk X (fp h.tok hN (by decide))];exact h.tok
 ·have:=Go.Joins.block_setCell hN (i:=j) u;rw[hc];simpa using this
theorem fH.pc{B:ByteArray}(h:fH w0 w P D T bv m s tv sv os ns X N t nd W)(hc:PC w0 w bv B):PC w0 W bv B:=hc.step h.bl
theorem fH.tk(h:fH w0 w P D T bv m s tv sv os ns X N t nd W)(j:Nat):W.cell? ⟨X,j,none⟩=(#[.int .i64 t.kind,.int .i64 t.fr,.int .i64 t.cK]:Array Value)[j]?:=by simp[World.cell?,h.tok]
theorem fH.nk(h:fH w0 w P D T bv m s tv sv os ns X N t nd W)(j:Nat):W.cell? ⟨N,j,none⟩=(#[.int .i64 nd.kind,.string nd.key,.string nd.text,.int .i64 nd.at_]:Array Value)[j]?:=by simp[World.cell?,h.node]
theorem fH.nf(h:fH w0 w P D T bv m s tv sv os ns X N t nd W)(j:Nat):W.frozen? ⟨N,j,none⟩=false:=Go.Joins.unfrozen_of_block h.node j
end
theorem aat{B:ByteArray}{o:Op}{f g:Nat}:gZ B o 3 ⟨8,f,g⟩=⟨3,if o.obj then o.key else⟨#[]⟩,B.extract f g,f⟩:=by simp[gZ,sQ]
theorem Ob:iq Tryz.prog 120 123 1 8 (.pointer none):=⟨Tryz.underlying120,by kernel_rfl,rfl,by decide⟩
section
variable{w0 w W:World}{P D T X N:Nat}{bv tv sv:Value}{m:Bd}{s:PS}{os:List Nat}{ns:List aW}{t:Tok}{nd:JN}
theorem bQ.Oc{w:World}{base:Nat}(h:bQ w base P D T bv m s tv sv os ns):ns.length=s.js.length:=by have:=congrArg List.length h.vals;simpa using this
theorem fH.many(h:fH w0 w P D T bv m s tv sv os ns X N t nd W){u:Int}(hu:0≤u∧u<s.js.length∨u=-1∧s.js=[])(hm:m.nodes≤s.js.length):Calls Tryz.prog 123 #[.pointer (some ⟨T,0,none⟩),.int .i64 u,.agg #[.int .i64 nd.kind,.string nd.key,.string nd.text,.int .i64 nd.at_]] W (Oa W):=by
 have hl:=h.pat.Oc;refine aaq T tv ns m.nodes u nd W h.pat.tree ?_ (by omega);rcases hu with h1|⟨h1,h2⟩
 ·exact .inl (by omega)
 ·refine .inr ⟨h1,?_⟩;rw[h2]at hl;exact List.length_eq_zero_iff.1 hl
theorem fH.added{oU:Value}{oV:List aW}{w':World}{js:List JN}{aa:List Nat}(h:fH w0 w P D T bv m s tv sv os ns X N t nd W)(ht:bJ w' T oU oV m.nodes)(ho:ag (TB T tv) W w')(hg:p4 oV aa)(hw:dL aa)(hv:oV.map aW.val=js.map JN.val)(hne:js≠[]):fH w0 w P D T bv m ⟨js,aa,s.stack⟩ oU sv os oV X N t nd w':=by
 have hb:Below w0.heap.size W w':=ho.below h.low (fun k hk=>by
  rcases hk with rfl|hk
  ·exact h.pat.mf
  ·have:=(h.pat.tree.own.lt k hk).1;have:=h.pat.mf;omega)
 exact⟨h.pat.new ht ho hg hw hv hne,h.bl.trans hb,He h.pat ho h.tok (by decide) (by decide),He h.pat ho h.node (by decide) (by decide),h.fI,Nat.le_trans h.low hb.size,h.wY.trans (fun k cs f hk=>He h.pat ho hk (by decide) (by decide))⟩
theorem fH.add(h:fH w0 w P D T bv m s tv sv os ns X N t nd W){u:Int}(hu:0≤u∧u<s.js.length∨u=-1∧s.js=[])(hm:¬m.nodes≤s.js.length)(hj:s.js.length≤1100000):Calls Tryz.prog 123 #[.pointer (some ⟨T,0,none⟩),.int .i64 u,.agg #[.int .i64 nd.kind,.string nd.key,.string nd.text,.int .i64 nd.at_]] W fun e w'=>∃oU oV,e=.returned (.tuple #[.int .i64 s.js.length,.nilIface])∧fH w0 w P D T bv m ⟨s.js++[nd],s.aa++[u.toNat],s.stack⟩ oU sv os oV X N t nd w':=by
 have hl:=h.pat.Oc;have s8:=h.pat.de.len;rcases hu with⟨h0,h1⟩|⟨rfl,h2⟩
 ·obtain⟨k,rfl⟩:∃k:Nat,u=k:=⟨u.toNat,by omega⟩;refine(Zu T tv ns s.aa m.nodes k nd W h.pat.tree h.pat.de h.pat.wf (by omega) (by omega) (by omega)).mono ?_;rintro e w'⟨oU,rfl,ht,ho,_⟩;refine⟨oU,_,by rw[hl],h.added ht ho (by simpa using Zm nd.val h.pat.wf h.pat.de (by omega)) (by simpa using N9 h.pat.wf (by omega)) ?_ (by simp)⟩;rw[aao (by omega),h.pat.vals,List.map_append];rfl
 ·have hn:ns=[]:=List.length_eq_zero_iff.1 (by rw[hl,h2];rfl);have pQ:s.aa=[]:=List.length_eq_zero_iff.1 (by rw[←s8,hn];rfl);have hT:=h.pat.tree;rw[hn]at hT;obtain rfl:=h.pat.wX h2;refine(Zz T m.nodes nd W hT (by rw[h2]at hm;simp at hm;omega)).mono ?_;rintro e w'⟨oU,rfl,ht,ho,_⟩;refine⟨oU,_,by rw[h2];rfl,h.added ht ho (by rw[pQ];exact Ze _) (by rw[pQ];intro i x hi hx;cases i<;>simp at hi hx) ?_ (by simp)⟩;rw[h2];rfl
end
theorem aau(w0 w:World)(P D T:Nat)(bv:Value)(B:ByteArray)(m:Bd)(s:PS)(o:Op)(r:List Op)(t:Tok)(h:PA w w0.heap.size P D T bv m s)(hc:PC w0 w bv B)(hs:s.stack=o::r)(hl:s.stack.length≤1100000)(hz:B.size≤1100000)(hj:s.js.length≤1100000)(ht:∃i,b_ B i=.ok t)(hid:0≤o.id∧o.id<s.js.length∨o.id=-1∧s.js=[]):Calls Tryz.prog 88 #[an P,.agg #[.int .i64 t.kind,.int .i64 t.fr,.int .i64 t.cK]] w (qd w0 w P D T bv m (fc B m s o r t)):=by
 obtain⟨W1,aH⟩:∃W,w.alloc (.cells #[.int .i64 t.kind,.int .i64 t.fr,.int .i64 t.cK] 128)=W:=⟨_,rfl⟩;have b1:Below w.heap.size w W1:=by rw[←aH];exact aj (Below.refl _ _) _
 have j1:=hc.bl.size;have mg:Below w0.heap.size w W1:=b1.mono j1;have bx:W1.heap[w.heap.size]?=some (.cells #[.int .i64 t.kind,.int .i64 t.fr,.int .i64 t.cK] 128 (0,0)):=by rw[←aH];exact heap_alloc_new w _
 have cx:∀j,W1.cell? ⟨w.heap.size,j,none⟩=(#[.int .i64 t.kind,.int .i64 t.fr,.int .i64 t.cK]:Array Value)[j]?:=fun j=>by rw[←aH];simp
 have z1:w.heap.size<W1.heap.size:=by rw[←aH];simp
 have KD:=aag t W1;have H1:=Lib.hid (h.below b1);have HS:=Lib.hid hs;have HC:=Lib.hid hc;have aQ:=Lib.hid mg;have Hf:=Lib.hid bx;have ia:=Lib.hid (bK.of b1);have j2:=hl;unfold fc
 cases hk:jE t.kind with
 |none=>
  obtain⟨k,hw⟩:=Hd (α:=PS) t;rw[hk]at KD;simp only;rw[hw];have HK:=Lib.hid hw;have KD:=Lib.hid KD;obtain⟨tk,tf,tt⟩:=t;simp only at cx aH HK;clear h hs hc b1 mg hk bx hw ht hid;go_enter Tryz.func88,Tryz.ntmps88;go_wp2_with fail;clear aH;refine KD.out.mono ?_;rintro e w2⟨rfl,ah⟩;have kD:=fun j=>(aK ah z1 j).trans (cx j);have WR:=Dm (P:=P) (D:=D) (T:=T) (bv:=bv) (m:=m) ⟨tk,tf,tt⟩ ((HC.out.bl.trans aQ.out).trans (ah.mono (by omega)));rw[HK.out]at WR;have WR:=Lib.hid WR;clear ah
  simp only[Option.getD_none,Option.isSome_none];go_wp2_with fail;refine WR.out.mono ?_;rintro e w4⟨u,rfl,hf⟩;have HF:=Lib.hid hf;clear hf;go_wp2;go_ret;exact⟨u,rfl,HF.out⟩
 |some k=>
  rw[hk]at KD;simp only;obtain⟨R,hR⟩:∃R,(if m.nodes≤(s.js.length:Int)then(.no 15 t.fr:Sc PS)else if k<5 then .ok (eE B s o k t (jc (o::r)))else if m.deep<((o::r).length:Nat)then .no 13 t.fr else .ok (eE B s o k t (⟨s.js.length,k==6,0,⟨#[]⟩⟩::o::r)))=R:=⟨_,rfl⟩;rw[hR];have HR:=Lib.hid hR;clear hR;have KD:=Lib.hid KD;have HK:=Lib.hid hk;have HT:=Lib.hid ht;obtain⟨tk,tf,tt⟩:=t;simp only at cx aH Hf HK;clear h hs hc b1 mg hk bx ht;go_enter Tryz.func88,Tryz.ntmps88;go_wp2_with fail
  clear aH;refine KD.out.mono ?_;rintro e w2⟨rfl,ah⟩;have Od:Hid (w2.heap[w.heap.size]?=some (.cells #[.int .i64 tk,.int .i64 tf,.int .i64 tt] 128 (0,0))):=Lib.hid ((ah.block _ z1).trans Hf.out);have TP:=Lib.hid (Dn (H1.out.below ah) HS.out j2);have aP:=Lib.hid (aQ.out.trans (ah.mono (by omega)));have ec:=Lib.hid (ia.out.trans (bK.of ah));have z2:w.heap.size<w2.heap.size:=Nat.lt_of_lt_of_le z1 ah.size;have kD:=fun j=>(aK ah z1 j).trans (cx j);clear ah;simp only[Option.getD_some,Option.isSome_some]
  go_wp2_with fail;refine TP.out.mono ?_;rintro e w3⟨b,tv,sv,q,ns,rfl,hp,aw⟩;have s4:=fun j=>(aK aw z2 j).trans (kD j);have z3:w.heap.size<w3.heap.size:=Nat.lt_of_lt_of_le z2 aw.size;have Oe:Hid (w3.heap[w.heap.size]?=some (.cells #[.int .i64 tk,.int .i64 tf,.int .i64 tt] 128 (0,0))):=Lib.hid ((aw.block _ z2).trans Od.out);have cF:=Lib.hid (aP.out.trans (aw.mono (by omega)));have gL:=Lib.hid (ec.out.trans (bK.of aw));obtain⟨N,hN⟩:∃N,w3.heap.size=N:=⟨_,rfl⟩
  obtain⟨W4,dR⟩:∃W,w3.alloc (.cells #[.int .i64 k,.string ⟨#[]⟩,.string ⟨#[]⟩,.int .i64 tf] 117)=W:=⟨_,rfl⟩;have b4:Below w3.heap.size w3 W4:=by rw[←dR];exact aj (Below.refl _ _) _
  have s9:fH w0 w P D T bv m s tv sv (b::q) ns w.heap.size N ⟨tk,tf,tt⟩ ⟨k,⟨#[]⟩,⟨#[]⟩,tf⟩ W4:=⟨hp.below b4,cF.out.trans (b4.mono (by omega)),by rw[b4.block _ z3];exact Oe.out,by rw[←dR,←hN];exact heap_alloc_new w3 _,by omega,by have:=b4.size;omega,gL.out.trans (bK.of b4)⟩;have Hg:=Lib.hid s9;have s_:=s9.pat.ops 0 b o rfl (by rw[HS.out];rfl);have nG:=Lib.hid s_;have e1:=s_.c1;have e3:=s_.c3;have eb:=ak s_;have n1:=s9.nk 1;have f1:=s9.nf 1;have Of:=s9.tk;have eN:=ak s9.node;have eX:=ak s9.tok
  clear aw hp b4 s9 s_ Hf Od Oe aP H1 KD TP aQ;simp only at Of n1;go_upto_if 29 with(fail);go_cut[](fun wx=>fH w0 w P D T bv m s tv sv (b::q) ns w.heap.size N ⟨tk,tf,tt⟩ ⟨k,if o.obj then o.key else⟨#[]⟩,⟨#[]⟩,tf⟩ wx)
  case first=>
   have Og:=Hg.out.put (s7:=⟨k,o.key,⟨#[]⟩,tf⟩) 1 (.string o.key) rfl;have mh:=Lib.hid Og;clear Og
   cases ho:o.obj with
   |true=>rw[ho]at e1;go_wp2;go_meet;rw[ho,if_pos rfl];exact mh.out
   |false=>rw[ho]at e1;go_wp2;go_meet;rw[ho,if_neg (by decide)];exact Hg.out
  case rest=>
   have mh:=Lib.hid hcut;clear hcut e1 e3 n1 f1 eb cx kD s4 Of Hg nG eN eX;obtain⟨a,c,rz,_,gY,fJ⟩:=HC.out.rd.eY;have Hh:=Lib.hid rz;have iz:=Lib.hid fJ;clear rz fJ;go_upto_block 0 with(fail);go_cut[](fun wx=>fH w0 w P D T bv m s tv sv (b::q) ns w.heap.size N ⟨tk,tf,tt⟩ (gZ B o k ⟨tk,tf,tt⟩) wx)
   case first=>
    generalize jH:(if o.obj=true then o.key else(⟨#[]⟩:ByteArray))=ky at mh;have Hi:=Lib.hid jH;clear jH;have hv:=mh.out;have Oh:=hv.tk;have n2:=hv.nk 2;have f2:=hv.nf 2;have cP:=hv.pat.c0;have zP:=ak hv.pat.box;have zX:=ak hv.tok;have zN:=ak hv.node;have ajJ:N≠w.heap.size:=fun e=>fp hv.node (e▸hv.tok) (by decide) rfl;simp only at Oh n2;by_cases k4:k=4
    ·subst k4;have h7:tk=7:=by have:=HK.out;unfold jE at this;(repeat' split at this);all_goals first|assumption|(cases this)
     subst h7;obtain⟨i,hi⟩:=HT.out;obtain⟨x,hx⟩:=NG hi rfl;have TX:=Lib.hid (fun n=>by have:=((hv.pc HC.out).step (j0 _ n)).text hz ⟨7,tf,tt⟩;rw[hx]at this;exact this);have HX:=Lib.hid hx;clear hi hx hv;go_wp2_with fail;go_region_with(go_at_call 122;refine(TX.out _).mono ?_;rintro e w4⟨rfl,aY⟩;have k1:=(aK aY zP 0).trans cP;have k2:=fun j=>(aK aY zX j).trans (Oh j);have k3:=(aK aY zN 2).trans n2;have k4:=(oC aY zN 2).trans f2;have dx:=Lib.hid aY;clear aY)
     all_goals have uZ:=((mh.out.below (j0 _ _)).below dx.out).put (s7:=⟨4,ky,x,tf⟩) 2 (.string x) rfl;have rA:=Lib.hid uZ;clear uZ dx;go_wp2;go_meet;have:=rA.out.below (j0 _ 1);unfold gZ sQ;rw[if_pos rfl,HX.out,Hi.out];first|exact rA.out|exact this
    ·by_cases k3:k=3
     ·subst k3;have h8:tk=8:=by have:=HK.out;unfold jE at this;(repeat' split at this);all_goals first|assumption|(cases this)
      subst h8;obtain⟨i,hi⟩:=HT.out;obtain⟨_,_,zx,hsz,_,Ct⟩:=rq hi
      have Hj:tf<tt:=by
       rcases Ct with⟨h,_⟩|⟨_,h⟩
       ·cases h
       ·exact h
      have kY:0≤tf:=by have:=rq hi;simp only at this;omega
      simp only at hsz;obtain⟨f,rfl⟩:∃f:Nat,tf=f:=⟨tf.toNat,by omega⟩;obtain⟨g,rfl⟩:∃g:Nat,tt=g:=⟨tt.toNat,by omega⟩;have hfg:f<g:=by omega
      have hgB:g≤B.size:=by omega
      have gm:=(hv.pc HC.out).rd;have b9:=(hv.pc HC.out).bl;obtain⟨bb,off,ha,aav,uG⟩:=iz.out (by omega);have Dp:=Hh.out;rw[ha]at Dp;have hcv:=fun W(hW:∀j,W.cell? ⟨bb,j,none⟩=wc.cell? ⟨bb,j,none⟩)=>sM W bb (off+f) (g-f) (c-f) (B.extract f g) (by rw[ByteArray.size_extract];omega) (fun j hj=>by rw[hW,aK b9 aav,show off+f+j=off+(f+j)by omega,uG (f+j) (by omega)];rw[aas (by omega)]);have HCV:=Lib.hid hcv;have q0:¬c=f:=by omega
      have q1:(f:Int)≤(g:Int):=by omega
      have q2:(g:Int)≤(c:Int):=by omega
      have uZ:=mh.out.put (s7:=⟨3,ky,B.extract f g,f⟩) 2 (.string (B.extract f g)) rfl;have rA:=Lib.hid uZ;rw[Dp]at cP;clear Dp;have cvx:=hcv wc (fun _=>rfl);have ajO:∀n,(convert 22 9 (.slice (some ⟨bb,off+f,none⟩) (g-f) (c-f))).run Tryz.prog (wc.drewN n)=.ok (.string (B.extract f g)) (wc.drewN n):=fun n=>hcv (wc.drewN n) (fun _=>rfl);have ajP:=hcv wc.drew (fun _=>rfl);have ajQ:=hcv wc.drew.drew (fun _=>rfl);clear hi hv uZ hcv uG b9 gm zx hsz Ct Hj;go_wp2_with fail;go_region
      all_goals go_wp2;go_meet;rw[aat,Hi.out];exact rA.out.below (j0 _ 1)
     ·have e4:(k==4)=false:=beq_eq_false_iff_ne.2 k4;have e3:(k==3)=false:=beq_eq_false_iff_ne.2 k3;clear hv;go_wp2;go_meet;unfold gZ sQ;rw[if_neg k4,if_neg k3,Hi.out];exact mh.out
   case rest=>
    have rA:=Lib.hid hcut;generalize jf:gZ B o k ⟨tk,tf,tt⟩=nd at rA;have jg:=Lib.hid jf;clear hcut jf KD;have hv:=rA.out;have nk:=hv.nk;have Oi:=hv.tk;have c4:=hv.pat.c4;have cD:=hv.pat.cD;have zP:=ak hv.pat.box;have zD:=ak hv.pat.doc;have zX:=ak hv.tok;have zN:=ak hv.node;have dz:=hv.pat.ops 0 b o rfl (by rw[HS.out];rfl);have zb:=ak dz;have c0:=dz.c0;have gM:0≤k∧k≤6:=by have:=HK.out;unfold jE at this;(repeat' split at this);all_goals first|(cases this;decide)|(cases this)
    by_cases hm:m.nodes≤s.js.length
    ·have AD:=Lib.hid (fun n=>(hv.below (j0 _ n)).many hid hm);have hR:=HR.out;rw[if_pos hm]at hR;have jX:=Lib.hid hR;clear hv dz hid hm gM HR hR;go_wp2_with fail
     go_region_held3(fun W=>W.cell? ⟨P,4,none⟩=some (an D)∧W.cell? ⟨D,0,none⟩=some (an T)∧W.cell? ⟨b,0,none⟩=some (.int .i64 o.id)∧∀j,W.cell? ⟨N,j,none⟩=(#[.int .i64 nd.kind,.string nd.key,.string nd.text,.int .i64 nd.at_]:Array Value)[j]?)(first|assumption|exact⟨c4,cD,c0,nk⟩)(first|(go_at_call 123;refine(AD.out _).mono ?_;rintro e w7⟨p7,rfl,ed⟩;have gM:w7.cell? ⟨P,4,none⟩=some (an D)∧w7.cell? ⟨D,0,none⟩=some (an T)∧w7.cell? ⟨b,0,none⟩=some (.int .i64 o.id)∧∀j,w7.cell? ⟨N,j,none⟩=(#[.int .i64 nd.kind,.string nd.key,.string nd.text,.int .i64 nd.at_]:Array Value)[j]?:=⟨(aK ed zP 4).trans c4,(aK ed zD 0).trans cD,(aK ed zb 0).trans c0,fun j=>(aK ed zN j).trans (nk j)⟩))
     rename_i aB;have k1:=fun j=>(aK ed zX j).trans (Oi j);have mi:=(rA.out.below (j0 _ _)).below ed;have FL:=Lib.hid (N7 (P:=P) (D:=D) (T:=T) (bv:=bv) (m:=m) (k:=15) (i:=tf) (HC.out.bl.trans mi.bl));clear aB gM ed mi;go_wp2_with fail;refine FL.out.mono ?_;rintro e w8⟨u,rfl,hf⟩;have HF:=Lib.hid hf;clear hf;go_wp2;go_ret;rw[←jX.out];exact⟨u,rfl,HF.out⟩
    ·have AD:=Lib.hid (fun n=>(hv.below (j0 _ n)).add hid hm hj);have hR:=HR.out;rw[if_neg hm]at hR;have jX:=Lib.hid hR;have Dq:=Lib.hid gM;clear hv dz hid hm gM HR hR;go_wp2_with fail
     go_region_held3(fun W=>W.cell? ⟨P,4,none⟩=some (an D)∧W.cell? ⟨D,0,none⟩=some (an T)∧W.cell? ⟨b,0,none⟩=some (.int .i64 o.id)∧∀j,W.cell? ⟨N,j,none⟩=(#[.int .i64 nd.kind,.string nd.key,.string nd.text,.int .i64 nd.at_]:Array Value)[j]?)(first|assumption|exact⟨c4,cD,c0,nk⟩)(first|(go_at_call 123;refine(AD.out _).mono ?_;rintro e w7⟨tv7,ns7,rfl,mi⟩;have gM:w7.cell? ⟨P,4,none⟩=some (an D)∧w7.cell? ⟨D,0,none⟩=some (an T)∧w7.cell? ⟨b,0,none⟩=some (.int .i64 o.id)∧∀j,w7.cell? ⟨N,j,none⟩=(#[.int .i64 nd.kind,.string nd.key,.string nd.text,.int .i64 nd.at_]:Array Value)[j]?:=⟨mi.pat.c4,mi.pat.cD,(mi.pat.ops 0 b o rfl (by show s.stack[0]?=_;rw[HS.out];rfl)).c0,mi.nk⟩))
     rename_i aB;clear aB gM nk Oi c4 cD zP zD zX zN zb c0 AD;have k1:=mi.tk;have iA:=Lib.hid mi;obtain⟨wZ,lX⟩:∃j,s.js++[nd]=j:=⟨_,rfl⟩;obtain⟨w_,uP⟩:∃j,s.aa++[o.id.toNat]=j:=⟨_,rfl⟩;have Cu:∀st,eE B s o k ⟨tk,tf,tt⟩ st=⟨wZ,w_,st⟩:=fun st=>by unfold eE;rw[jg.out,lX,uP]
     rw[lX,uP]at iA;have Oj:=Lib.hid Cu;clear mi lX uP Cu jg rA;by_cases k5:k<5
     ·have hR:=jX.out;rw[if_pos k5,Oj.out]at hR;have xa:=Lib.hid hR;have t5:(k !=5)=true:=bne_iff_ne.2 (by omega);have t6:(k !=6)=true:=bne_iff_ne.2 (by omega);have AF:=N5 w7 w0.heap.size P D T bv m ⟨wZ,w_,s.stack⟩ o r ⟨_,_,_,_,iA.out.pat⟩ HS.out j2;rw[show(⟨wZ,w_,s.stack⟩:PS).stack=o::r from HS.out]at AF;have AF:=Lib.hid AF;clear hR k5 jX k1;go_wp2_with fail;refine AF.out.mono ?_;rintro e w8⟨rfl,Ol,oW,Om⟩;have HT8:=Lib.hid (iA.out.wY.trans Om);have HP8:=Lib.hid Ol
      have HB8:=Lib.hid (iA.out.bl.trans oW);clear Ol oW Om;go_wp2;go_ret;rw[←xa.out];exact⟨rfl,HP8.out,HB8.out,HT8.out⟩
     ·have hR:=jX.out;rw[if_neg k5]at hR;have xa:=Lib.hid hR;obtain⟨g,cap,Hk,_,_,_⟩:=iA.out.pat.slice;have c5:=iA.out.pat.c5;have c2:=iA.out.pat.c2;rw[Hk]at c5;have Hl:q.length+1=(o::r).length:=by have:=iA.out.pat.len;rw[show(⟨wZ,w_,s.stack⟩:PS).stack=o::r from HS.out]at this;simpa using this
      have On:k=5∨k=6:=by have:=Dq.out;omega
      have Hm:=Lib.hid Hk;have Oo:=Lib.hid Hl;have ajT:q.length≤1100000:=by rw[HS.out]at j2;omega
      clear hR jX k5 Hk Hl;by_cases hd:m.deep<((o::r).length:Nat)
      ·have hR:=xa.out;rw[if_pos hd]at hR;have Dr:=Lib.hid hR;have t9:decide (m.deep<(q.length:Int)+1)=true:=decide_eq_true (by rw[←Oo.out]at hd;omega);have FL:=Lib.hid (fun n=>N7 (w:=w7.drewN n) (P:=P) (D:=D) (T:=T) (bv:=bv) (m:=m) (k:=13) (i:=tf) (HC.out.bl.trans (iA.out.bl.trans (j0 _ n))));have k2:∀n j,(w7.drewN n).cell? ⟨w.heap.size,j,none⟩=(#[.int .i64 tk,.int .i64 tf,.int .i64 tt]:Array Value)[j]?:=fun n j=>k1 j;clear hR xa hd;rcases On with rfl|rfl
       all_goals go_wp2;go_quiet(fail);go_wp2_with fail;refine(FL.out _).mono ?_;rintro e w8⟨u,rfl,hf⟩;have HF:=Lib.hid hf;clear hf;go_wp2;go_ret;rw[←Dr.out];exact⟨u,rfl,HF.out⟩
      ·have hR:=xa.out;rw[if_neg hd,Oj.out]at hR;have Dr:=Lib.hid hR;have t9:decide (m.deep<(q.length:Int)+1)=false:=decide_eq_false (by rw[←Oo.out]at hd;omega);clear hR xa hd;have ll:=iA.out.pat.row;rw[Hm.out]at ll;have xb:∀n ob,((w7.drewN n).alloc ob).heap.size=w7.heap.size+1:=fun n ob=>by show(w7.heap.push ob).size=_;simp
       have th:Hid (∀n ob jI,(((w7.drewN n).alloc ob).alloc jI).ownsRow w0.heap.size 123 1 (.slice (some ⟨g,0,none⟩) (q.length+1) cap) (q.length+1) ((List.map an (b::q)).reverse)):=Lib.hid (fun n ob jI=>bu ll (fun k hk=>by have:=(ll.lt k hk).2;rw[Below.heap_alloc _ jI k (by rw[xb];omega)];exact Below.heap_alloc (w7.drewN n) ob k this) (Nat.le_refl _))
       have Oq:Hid (∀n ob j u,[an w7.heap.size][j]?=some u→(((w7.drewN n).alloc ob).alloc (.cells #[an w7.heap.size] 123)).cell? ⟨w7.heap.size+1,0+j,none⟩=some u):=Lib.hid (fun n ob j u hu=>by have:=FP ((w7.drewN n).alloc ob) #[an w7.heap.size] 123 j u hu;rwa[xb]at this);have Ot:Hid (∀u∈[an w7.heap.size],u.oneCell'=true):=Lib.hid (by intro u hu;simp at hu;subst hu;rfl);have Ou:Hid (q.length+1+1≤maxLen):=Lib.hid (by simp[maxLen];omega)
       have wM:Hid ((q.length+1+1)*8≤140737488355328):=Lib.hid (by omega);have Ds:=iA.out.low;have HZN:=Lib.hid xb;have sK:Hid (∀n ob jI,w0.heap.size≤(((w7.drewN n).alloc ob).alloc jI).heap.size):=Lib.hid (fun n ob jI=>by show _≤(((w7.drewN n).alloc ob).heap.push jI).size;rw[Array.size_push,xb];omega);have qf:=Lib.hid iA.out.pat.box
       have Ov:Hid (∀n ob jI,(((w7.drewN n).alloc ob).alloc jI).heap[w7.heap.size]?=some ob):=Lib.hid (fun n ob jI=>(Below.heap_alloc ((w7.drewN n).alloc ob) jI w7.heap.size (by rw[xb];omega)).trans (heap_alloc_new (w7.drewN n) ob));clear ll xb;rcases On with rfl|rfl
       ·go_wp2;go_quiet(fail);go_wp2_with(at_builtin;refine Cv _ rfl _ _ 120 rfl w0.heap.size Ob _ _ _ rfl (th.out _ _ _) _ 1 1 [an w7.heap.size] rfl rfl nofun (fun _=>⟨_,_,rfl,Oq.out _ _⟩) Ot.out Ou.out wM.out (sK.out _ _ _) ?_);intro v8 w8 fK gw;obtain⟨a8,mj,rfl,_⟩:=aM fK;have fq:∀n ob jI,Below w7.heap.size w7 (((w7.drewN n).alloc ob).alloc jI):=fun n ob jI=>aj (aj (j0 _ _) _) _
        have zy:=bQ.push (o:=⟨s.js.length,false,0,⟨#[]⟩⟩) (bn:=w7.heap.size) iA.out.pat (fq _ _ _) (Ov.out _ _ _) (Nat.le_refl _) Ds (by rw[Hm.out];exact gw) (by simpa using fK)
        have dp:∃cs,w8.heap[P]?=some (.cells cs 122 (0,0))∧cs.size=6:=by refine⟨_,(gw.block P (Nat.lt_of_lt_of_le (ak qf.out) (fq _ _ _).size) (fun e=>?_)).trans (((fq _ _ _).block P (ak qf.out)).trans qf.out),rfl⟩;obtain⟨cur,hc⟩:=nE (th.out 0 (.cells #[] 0) (.cells #[] 0)) e.symm;rw[(fq 0 (.cells #[] 0) (.cells #[] 0)).block P (ak qf.out)]at hc;exact fp qf.out hc (by decide) rfl
        obtain⟨cs,dp,hcs⟩:=dp;have d5:∃u,w8.cell? ⟨P,5,none⟩=some u:=⟨cs[5],by simp[World.cell?,dp]⟩;obtain⟨u5,d5⟩:=d5;have f5:w8.frozen? ⟨P,5,none⟩=false:=Go.Joins.unfrozen_of_block dp 5;have zA:Below w0.heap.size w7 w8:=((fq _ _ _).mono Ds).grown gw (sK.out _ _ _) (fun k hk=>((th.out 0 (.cells #[] 0) (.cells #[] 0)).lt k hk).1);have HF:=Lib.hid ((iA.out.bl.trans zA).setCell (p:=⟨P,5,none⟩) iA.out.pat.qa (.slice a8 (q.length+1+1) mj))
        have eQ:bK w w8:=(iA.out.wY.trans (.of (fq _ _ _))).trans (fun k cs f hk=>by rw[gw.block k (ak hk) (fun e=>?_)];exact hk;obtain⟨cur,hc⟩:=nE (th.out _ _ _) e.symm;exact fp hk hc (by decide) rfl);have jG:=Lib.hid (eQ.set (p:=⟨P,5,none⟩) dp (by decide) (.slice a8 (q.length+1+1) mj));clear eQ;have Hn:=Lib.hid (show PA _ w0.heap.size P D T bv m _ from⟨_,_,_,_,zy⟩);clear zy zA dp hcs gw fK fq c5 c2;go_wp2;go_ret;rw[←Dr.out];refine⟨rfl,?_,HF.out,jG.out⟩;have:=Hn.out
        rw[show(⟨wZ,w_,s.stack⟩:PS).stack=o::r from HS.out]at this;exact this
       ·go_wp2;go_quiet(fail);go_wp2_with(at_builtin;refine Cv _ rfl _ _ 120 rfl w0.heap.size Ob _ _ _ rfl (th.out _ _ _) _ 1 1 [an w7.heap.size] rfl rfl nofun (fun _=>⟨_,_,rfl,Oq.out _ _⟩) Ot.out Ou.out wM.out (sK.out _ _ _) ?_);intro v8 w8 fK gw;obtain⟨a8,mj,rfl,_⟩:=aM fK;have fq:∀n ob jI,Below w7.heap.size w7 (((w7.drewN n).alloc ob).alloc jI):=fun n ob jI=>aj (aj (j0 _ _) _) _
        have zy:=bQ.push (o:=⟨s.js.length,true,0,⟨#[]⟩⟩) (bn:=w7.heap.size) iA.out.pat (fq _ _ _) (Ov.out _ _ _) (Nat.le_refl _) Ds (by rw[Hm.out];exact gw) (by simpa using fK)
        have dp:∃cs,w8.heap[P]?=some (.cells cs 122 (0,0))∧cs.size=6:=by refine⟨_,(gw.block P (Nat.lt_of_lt_of_le (ak qf.out) (fq _ _ _).size) (fun e=>?_)).trans (((fq _ _ _).block P (ak qf.out)).trans qf.out),rfl⟩;obtain⟨cur,hc⟩:=nE (th.out 0 (.cells #[] 0) (.cells #[] 0)) e.symm;rw[(fq 0 (.cells #[] 0) (.cells #[] 0)).block P (ak qf.out)]at hc;exact fp qf.out hc (by decide) rfl
        obtain⟨cs,dp,hcs⟩:=dp;have d5:∃u,w8.cell? ⟨P,5,none⟩=some u:=⟨cs[5],by simp[World.cell?,dp]⟩;obtain⟨u5,d5⟩:=d5;have f5:w8.frozen? ⟨P,5,none⟩=false:=Go.Joins.unfrozen_of_block dp 5;have zA:Below w0.heap.size w7 w8:=((fq _ _ _).mono Ds).grown gw (sK.out _ _ _) (fun k hk=>((th.out 0 (.cells #[] 0) (.cells #[] 0)).lt k hk).1);have HF:=Lib.hid ((iA.out.bl.trans zA).setCell (p:=⟨P,5,none⟩) iA.out.pat.qa (.slice a8 (q.length+1+1) mj))
        have eQ:bK w w8:=(iA.out.wY.trans (.of (fq _ _ _))).trans (fun k cs f hk=>by rw[gw.block k (ak hk) (fun e=>?_)];exact hk;obtain⟨cur,hc⟩:=nE (th.out _ _ _) e.symm;exact fp hk hc (by decide) rfl);have jG:=Lib.hid (eQ.set (p:=⟨P,5,none⟩) dp (by decide) (.slice a8 (q.length+1+1) mj));clear eQ;have Hn:=Lib.hid (show PA _ w0.heap.size P D T bv m _ from⟨_,_,_,_,zy⟩);clear zy zA dp hcs gw fK fq c5 c2;go_wp2;go_ret;rw[←Dr.out];refine⟨rfl,?_,HF.out,jG.out⟩;have:=Hn.out
        rw[show(⟨wZ,w_,s.stack⟩:PS).stack=o::r from HS.out]at this;exact this
end Go.Proofs.YtcaiibkgajhohaaGreatDoor
