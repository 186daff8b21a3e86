/- waybill: lemmas and walks, printed from longer texts. -/
import Derived.Test.YtcaiibkgajhohaaGreatDoorM15
set_option maxRecDepth 100000
set_option maxHeartbeats 16000000
namespace Go.Proofs.YtcaiibkgajhohaaGreatDoor
open Go.RowKit
theorem aaB{w w':World}{k:Nat}{i:Int}{u:Value}(h:dK w k i u w')(o:Obj):dK w k i u (w'.alloc o):=⟨(h.1.alloc (fun b hb=>hb.2) o).wide (fun b hb=>⟨hb.1,by have:=hb.2;simp;omega⟩),aj h.2 o⟩
structure gx(w:World)(base D:Nat)(s:PS)(nodes:Int)(T:Nat)(tv:Value)(ns:List aW):Prop where
 doc:w.heap[D]?=some (.cells #[an T] 119 (0,0))
 tree:bJ w T tv ns nodes
 de:p4 ns s.aa
 wf:dL s.aa
 vals:ns.map aW.val=s.js.map JN.val
 qc:base≤D
 mf:base≤T
theorem bQ.aaC{w:World}{base P D T:Nat}{bv tv sv:Value}{m:Bd}{s:PS}{os:List Nat}{ns:List aW}(h:bQ w base P D T bv m s tv sv os ns):gx w base D s m.nodes T tv ns:=⟨h.doc,h.tree,h.de,h.wf,h.vals,h.qc,h.mf⟩
theorem Ht{A:Array Obj}{n:Nat}(h:A.size=n+1){x y z:Obj}:(((A.push x).push y).push z)[n+1]?=some x∧(((A.push x).push y).push z)[n+2]?=some y∧(((A.push x).push y).push z)[n+3]?=some z:=by
 refine⟨?_,?_,?_⟩
 ·rw[Array.getElem?_push,if_neg (by simp;omega),Array.getElem?_push,if_neg (by simp;omega),Array.getElem?_push,if_pos h.symm]
 ·rw[Array.getElem?_push,if_neg (by simp;omega),Array.getElem?_push,if_pos (by simp;omega)]
 ·rw[Array.getElem?_push,if_pos (by simp;omega)]
theorem aaD{A:Array Obj}{n:Nat}(h:A.size=n+1){x y z:Obj}:(((A.push x).push y).push z).size=n+4:=by simp;omega
theorem PA.start{wc:World}{n:Nat}{bv:Value}{m:Bd}(hz:wc.heap.size=n+4)(hT:wc.heap[n+1]?=some (.cells #[.slice none 0 0,.int .i64 m.nodes] 172 (0,0)))(hD:wc.heap[n+2]?=some (.cells #[an (n+1)] 119 (0,0)))(hP:wc.heap[n+3]?=some (.cells #[bv,.int .i64 m.bytes,.int .i64 m.deep,.int .i64 m.nodes,an (n+2),.slice (some ⟨n+5,0,none⟩) 1 1] 122 (0,0))):PA ((wc.alloc (.cells #[.int .i64 (-1),.bool false,.int .i64 1,.string ⟨#[]⟩] 126)).alloc (.cells #[an (n+4)] 123)) n (n+3) (n+2) (n+1) bv m fG:=by
 have e1:∀k,k<n+4→((wc.alloc (.cells #[.int .i64 (-1),.bool false,.int .i64 1,.string ⟨#[]⟩] 126)).alloc (.cells #[an (n+4)] 123)).heap[k]?=wc.heap[k]?:=fun k hk=>by rw[Below.heap_alloc _ _ k (by simp;omega),Below.heap_alloc _ _ k (by omega)]
 have e2:((wc.alloc (.cells #[.int .i64 (-1),.bool false,.int .i64 1,.string ⟨#[]⟩] 126)).alloc (.cells #[an (n+4)] 123)).heap[n+4]?=some (.cells #[.int .i64 (-1),.bool false,.int .i64 1,.string ⟨#[]⟩] 126 (0,0)):=by rw[Below.heap_alloc _ _ _ (by simp;omega),←hz];exact heap_alloc_new wc _
 have e3:((wc.alloc (.cells #[.int .i64 (-1),.bool false,.int .i64 1,.string ⟨#[]⟩] 126)).alloc (.cells #[an (n+4)] 123)).heap[n+5]?=some (.cells #[an (n+4)] 123 (0,0)):=by have:=heap_alloc_new (wc.alloc (.cells #[.int .i64 (-1),.bool false,.int .i64 1,.string ⟨#[]⟩] 126)) (.cells #[an (n+4)] 123);rw[show(wc.alloc (.cells #[.int .i64 (-1),.bool false,.int .i64 1,.string ⟨#[]⟩] 126)).heap.size=n+5 by simp;omega]at this;exact this
 generalize(wc.alloc (.cells #[.int .i64 (-1),.bool false,.int .i64 1,.string ⟨#[]⟩] 126)).alloc (.cells #[an (n+4)] 123)=W at*;refine⟨.slice none 0 0,.slice (some ⟨n+5,0,none⟩) 1 1,[n+4],[],⟨?_,?_,⟨?_,World.ownsRow_nil _ _ _ _⟩,⟨rfl,?_,?_,?_,?_,?_,?_,?_,?_⟩,?_,rfl,?_,rfl,?_,by simp,by omega,by omega,by omega,?_,fun _=>rfl⟩⟩
 ·rw[e1 _ (by omega)];exact hP
 ·rw[e1 _ (by omega)];exact hD
 ·rw[e1 _ (by omega)];exact hT
 ·intro i a h;simp at h
 ·intro i a h;simp at h
 ·intro i a h;simp at h
 ·intro i a h;simp at h
 ·intro i u a _ h;simp[fG]at h
 ·intro a h;simp at h
 ·intro a h;simp at h
 ·intro i u a b _ h;simp[fG]at h
 ·intro i u _ h;simp[fG]at h
 ·refine⟨rfl,.inr ⟨n+5,1,#[an (n+4)],rfl,by omega,e3,Nat.le_refl _,by simp[maxLen],rfl,rfl⟩⟩
 ·intro i b o hb ho
  cases i with
  |zero=>simp[fG]at hb ho;subst hb;subst ho;exact e2
  |succ i=>simp at hb
 ·intro b hb;simp at hb;omega
def aaE(w:World)(nodes:Int)(r:Sc PS)(e:Ending)(w':World):Prop:=match r with
  |.ok s=>∃D T tv ns,e=.returned (.tuple #[an D,.nilIface])∧gx w' w.heap.size D s nodes T tv ns∧Below w.heap.size w w'
  |.no k i=>∃u,e=.returned (.tuple #[.pointer none,.iface 85 (.pointer (some u))])∧dK w k i (.iface 85 (.pointer (some u))) w'
def Hu(B:ByteArray)(m:Bd)(R:Sc PS)(w:World)(P D T:Nat)(bv k:Value)(wr:World):Prop:=∃(i:Nat)(s:PS),k=.int .i64 i∧i≤B.size∧PA wr w.heap.size P D T bv m s∧Below w.heap.size w wr∧PI s∧s.js.length≤i∧s.stack.length≤i+1∧dQ B m i s=R
theorem aaF(w:World)(bv:Value)(B:ByteArray)(m:Bd)(h:Rd (Own w) w bv (dF B))(he:gI w)(hz:B.size≤200000):Calls Tryz.prog 24 #[bv,.agg #[.int .i64 m.bytes,.int .i64 m.deep,.int .i64 m.nodes]] w (aaE w m.nodes (fU B m)):=by
 obtain⟨W1,aH⟩:∃W,w.alloc (.cells #[.int .i64 m.bytes,.int .i64 m.deep,.int .i64 m.nodes] 65)=W:=⟨_,rfl⟩;have b1:Below w.heap.size w W1:=by rw[←aH];exact aj (Below.refl _ _) _
 have cx:∀j,W1.cell? ⟨w.heap.size,j,none⟩=(#[.int .i64 m.bytes,.int .i64 m.deep,.int .i64 m.nodes]:Array Value)[j]?:=fun j=>by rw[←aH];simp
 have z1:W1.heap.size=w.heap.size+1:=by rw[←aH];simp
 have HH:=Lib.hid h;have HE:=Lib.hid he;have aQ:=Lib.hid b1;obtain⟨a,c,rz,_,gY,_⟩:=h.eY;have Hh:=Lib.hid rz;unfold fU;by_cases hb:m.bytes<B.size
 ·rw[if_pos hb];have t1:decide (m.bytes<(B.size:Int))=true:=decide_eq_true hb;have FL:=Lib.hid (fun k=>fails 14 k W1);obtain⟨mb,md,mn⟩:=m;simp only at cx aH t1;clear h he b1 hb;subst rz;go_enter Tryz.func24,Tryz.ntmps24;go_wp2_with fail;refine(FL.out (max mb 0)).mono ?_;rintro e w2⟨u,rfl,hf⟩;obtain⟨p,rfl⟩:=hf.form;have HF:=Lib.hid (hf.after aQ.out);clear hf;go_wp2;go_ret2;exact⟨p,rfl,HF.out⟩
 ·rw[if_neg hb];have t1:decide (m.bytes<(B.size:Int))=false:=decide_eq_false hb;obtain⟨R,hR⟩:∃R,dQ B m 0 fG=R:=⟨_,rfl⟩;rw[hR];have HR:=Lib.hid hR;have NW:=Lib.hid (fun n=>Zy m.nodes (W1.drewN n));obtain⟨mb,md,mn⟩:=m;simp only at cx aH t1 NW;clear h he b1 hb hR;have eO:∃bs,bs=(B.size:Int):=⟨_,rfl⟩;subst rz;go_enter Tryz.func24,Tryz.ntmps24;go_upto_region 3 with(fail);clear aH
  go_cut[6](fun s6 wx=>s6=an (w.heap.size+3)∧wx.heap.size=w.heap.size+4∧Below w.heap.size w wx∧wx.heap[w.heap.size+1]?=some (.cells #[.slice none 0 0,.int .i64 mn] 172 (0,0))∧wx.heap[w.heap.size+2]?=some (.cells #[an (w.heap.size+1)] 119 (0,0))∧wx.heap[w.heap.size+3]?=some (.cells #[.slice a B.size c,.int .i64 mb,.int .i64 md,.int .i64 mn,an (w.heap.size+2),.slice none 0 0] 122 (0,0)))
  case first=>
   have b9:∀(W:World)(o1 o2 o3:Obj),W.heap=W1.heap→W.os=W1.os→W.tape=W1.tape→W.output=W1.output→Below w.heap.size w (((W.alloc o1).alloc o2).alloc o3):=fun W o1 o2 o3 h1 h2 h3 h4=>by have:Below w.heap.size w W:=⟨h2.trans aQ.out.os,h3.trans aQ.out.tape,h4.trans aQ.out.output,by rw[h1];exact aQ.out.size,fun k hk=>by rw[h1];exact aQ.out.block k hk⟩;exact aj (aj (aj this _) _) _
   have Hv:=Lib.hid b9;clear b9;go_region_with(go_at_call 48;refine(NW.out _).mono ?_;rintro e w2⟨rfl,rfl⟩);all_goals go_wp2;go_meet;exact⟨rfl,aaD z1,Hv.out _ _ _ _ rfl rfl rfl rfl,(Ht z1).1,(Ht z1).2.1,(Ht z1).2.2⟩
  case rest=>
   obtain⟨rfl,hsz,fJ,hT,hD,hP⟩:=hcut;have OC:=Go.Joins.block_setCell hP (i:=5) (.slice (some ⟨w.heap.size+5,0,none⟩) 1 1);have OD:=PA.start (m:=⟨mb,md,mn⟩) (wc:=wc.setCell ⟨w.heap.size+3,5,none⟩ (.slice (some ⟨w.heap.size+5,0,none⟩) 1 1)) (by simpa using hsz) (by rw[Below.heap_setCell _ _ _ _ (by simp)];exact hT) (by rw[Below.heap_setCell _ _ _ _ (by simp)];exact hD) (by simpa using OC)
   have R0:Hu B ⟨mb,md,mn⟩ R w (w.heap.size+3) (w.heap.size+2) (w.heap.size+1) (.slice a B.size c) (.int .i64 0) _:=⟨0,fG,rfl,Nat.zero_le _,OD,aj (aj (fJ.setCell (p:=⟨w.heap.size+3,5,none⟩) (by simp) _) _) _,Ox,by simp[fG],by simp[fG],HR.out⟩;have eF:=Lib.hid R0;have k5:wc.cell? ⟨w.heap.size+3,5,none⟩=some (.slice none 0 0):=by simp[World.cell?,hP]
   have Hw:wc.frozen? ⟨w.heap.size+3,5,none⟩=false:=Go.Joins.unfrozen_of_block hP 5;clear OD R0 hT hD hP fJ cx OC;go_wp2_with fail;go_loopw[7](Hu B ⟨mb,md,mn⟩ R w (w.heap.size+3) (w.heap.size+2) (w.heap.size+1) (.slice a B.size c))(fun k _=>B.size+1-(intOf k).toNat);case atStart=>have:=eF.out;simpa[hsz]using this
   case round=>
    obtain⟨i,s,rfl,hi,hp,dE,kF,ix,oK,hr⟩:=hrel;have Dp:=Hh.out;have HPC:Hid (PC w wr (.slice a B.size c) B):=Lib.hid ⟨HE.out,HH.out,dE⟩;have NX:=N0 _ B i wr (HH.out.ext dE) (HE.out.ext dE) (by omega);rw[wV]at hr;have HP:=Lib.hid hp;have HB:=Lib.hid dE;have OE:=Lib.hid kF;have j1:=dE.size;clear hp dE kF k5 Hw eF hsz
    cases hx:b_ B i with
    |no k p=>rw[hx]at NX hr;have NX:=Lib.hid NX;have aO:=Lib.hid (show(.no k p:Sc PS)=R from hr);clear hr hx;go_wp2_with fail;refine NX.out.mono ?_;rintro e w2⟨u,rfl,hf⟩;have HF:=Lib.hid (hf.after HB.out);clear hf;go_wp2;go_ret2;rw[←aO.out];exact⟨u,rfl,aaB HF.out _⟩
    |ok t=>
     rw[hx]at NX hr;have iB:=rq hx;have HX:=Lib.hid hx;simp only[Sc.fA]at hr;clear hx;obtain⟨tk,tf,tt⟩:=t;have OG:Calls Tryz.prog 49 #[.slice a B.size c,.int .i64 (i:Nat)] wr fun e w'=>e=.returned (.tuple #[.agg #[.int .i64 tk,.int .i64 tf,.int .i64 tt],.nilIface])∧Below wr.heap.size wr w':=NX;have NX:=Lib.hid OG;clear OG
     have TK:=Lib.hid (fun W(hW:Below wr.heap.size wr W)=>aaz w W (w.heap.size+3) (w.heap.size+2) (w.heap.size+1) (.slice a B.size c) B ⟨mb,md,mn⟩ s ⟨tk,tf,tt⟩ (HP.out.below hW) (HPC.out.step (hW.mono j1)) OE.out (by omega) (by omega) (by omega) ⟨_,HX.out⟩);generalize wQ:ca B ⟨mb,md,mn⟩ s ⟨tk,tf,tt⟩=ty at hr TK;have HTY:=Lib.hid wQ;clear wQ;simp only at iB
     cases ty with
     |no k p=>have aO:=Lib.hid (show(.no k p:Sc PS)=R from hr);clear hr;go_wp2_with fail;refine NX.out.mono ?_;rintro e w2⟨rfl,ah⟩;have Hx:=Lib.hid (fun ob=>TK.out _ (aj ah ob));clear ah;go_wp2_with fail;refine(Hx.out _).mono ?_;rintro e w3⟨u,rfl,hf⟩;have HF:=Lib.hid hf;clear hf;go_wp2;go_ret2;rw[←aO.out];exact⟨u,rfl,HF.out⟩
     |ok s'=>
      simp only[Sc.fA]at hr;obtain⟨Hy,sU,vc,_⟩:=Ow OE.out HTY.out;go_wp2_with fail;refine NX.out.mono ?_;rintro e w2⟨rfl,ah⟩;have Hx:=Lib.hid (fun ob=>TK.out _ (aj ah ob));have aP:=Lib.hid (fun ob=>HB.out.trans ((aj ah ob).mono j1));have ve:=Lib.hid (heap_alloc_new w2 (.cells #[.int .i64 tk,.int .i64 tf,.int .i64 tt] 128));clear ah;go_wp2_with fail;refine(Hx.out _).mono ?_;rintro e w3⟨rfl,fV,aw,ti⟩;have hX:=ti _ _ _ ve.out
      have cb:∀j,w3.cell? ⟨w2.heap.size,j,none⟩=(#[.int .i64 tk,.int .i64 tf,.int .i64 tt]:Array Value)[j]?:=fun j=>by simp[World.cell?,hX]
      have Du:=(aP.out _).trans aw;have cF:=Lib.hid Du;have kC:=Lib.hid fV;by_cases h0:tk=0
      ·have t0:(tk==0)=true:=beq_iff_eq.2 h0;rw[if_pos h0]at hr;have aO:=Lib.hid (show(.ok s':Sc PS)=R from hr);obtain⟨tv,sv,os,ns,Hz⟩:=fV;have c4:=Hz.c4;have HDA:=Lib.hid Hz.aaC;clear hr Hz aw ti hX Du h0 iB hi ix oK sU vc Hy;go_wp2;go_ret2;rw[←aO.out];exact⟨_,_,tv,ns,rfl,HDA.out,cF.out⟩
      ·have t0:(tk==0)=false:=beq_eq_false_iff_ne.2 h0;rw[if_neg h0]at hr;have Hj:tf<tt:=by omega
       obtain⟨n,rfl⟩:∃n:Nat,tt=n:=⟨tt.toNat,by omega⟩;have R1:Hu B ⟨mb,md,mn⟩ R w (w.heap.size+3) (w.heap.size+2) (w.heap.size+1) (.slice a B.size c) (.int .i64 n) w3:=⟨n,s',rfl,by omega,fV,Du,Hy,by omega,by omega,hr⟩;have vf:=Lib.hid R1;have H_:i<n:=by omega
       have hnB:n≤B.size:=by omega
       clear hr aw ti hX Du h0 iB hi ix oK sU vc Hy R1 fV Hj;go_wp2;refine⟨?_,by simp[intOf];omega⟩;have R:=vf.out;first|exact R|((repeat apply Exists.intro);exact⟨R,rfl⟩)
section
variable{w w':World}{base D T:Nat}{s:PS}{nodes:Int}{tv:Value}{ns:List aW}
theorem gx.below(h:gx w base D s nodes T tv ns)(hb:Below w.heap.size w w'):gx w' base D s nodes T tv ns:=⟨by rw[hb.block D (ak h.doc)];exact h.doc,h.tree.below hb,h.de,h.wf,h.vals,h.qc,h.mf⟩
theorem gx.len(h:gx w base D s nodes T tv ns):ns.length=s.js.length:=by have:=congrArg List.length h.vals;simpa using this
theorem gx.cD(h:gx w base D s nodes T tv ns):w.cell? ⟨D,0,none⟩=some (an T):=by simp[World.cell?,h.doc]
theorem gx.node{g cap i:Nat}{x:JN}(h:gx w base D s nodes T (.slice (some ⟨g,0,none⟩) ns.length cap) ns)(hx:s.js[i]?=some x):w.cell? ⟨g,i*10,none⟩=some (.int .i64 x.kind)∧w.cell? ⟨g,i*10+1,none⟩=some (.string x.key)∧w.cell? ⟨g,i*10+2,none⟩=some (.string x.text)∧w.cell? ⟨g,i*10+3,none⟩=some (.int .i64 x.at_):=by
 have hl:=h.len;have hi:=(List.getElem?_eq_some_iff.1 hx).1;obtain⟨a,ha⟩:=bN ns i (by omega);have hv:a.val=x.val:=by have:=congrArg (fun l=>l[i]?) h.vals;simp only[List.getElem?_map,ha,hx,Option.map_some,Option.some.injEq]at this;exact this
 have hc:jd a=[.int .i64 x.kind,.string x.key,.string x.text,.int .i64 x.at_]++[.int .i64 a.up,.int .i64 a.first,.int .i64 a.last,.int .i64 a.next,.int .i64 a.deep,.int .i64 a.count]:=by unfold jd;rw[hv];rfl
 have hn:=fun j hj=>h.tree.node ha j hj;rw[hc]at hn;exact⟨hn 0 (by decide),hn 1 (by decide),hn 2 (by decide),hn 3 (by decide)⟩
end
theorem Dv{w w1:World}(h:Below w.heap.size w w1)(a b c d:Value):Below w.heap.size w ((((w1.setCell ⟨w.heap.size,0,none⟩ a).setCell ⟨w.heap.size,1,none⟩ b).setCell ⟨w.heap.size,2,none⟩ c).setCell ⟨w.heap.size,3,none⟩ d):=(((h.setCell (Nat.le_refl _) a).setCell (Nat.le_refl _) b).setCell (Nat.le_refl _) c).setCell (Nat.le_refl _) d
def jz:JN:=⟨0,⟨#[]⟩,⟨#[]⟩,0⟩
def Dw(w:World)(js:List JN)(id:Int)(e:Ending)(w':World):Prop:=(∃(i:Nat)(x:JN),id=i∧js[i]?=some x∧e=.returned (.tuple #[.agg #[.int .i64 x.kind,.string x.key,.string x.text,.int .i64 x.at_],.bool true])∧Below w.heap.size w w')∨(¬(0≤id∧id<js.length)∧e=.returned (.tuple #[.agg #[.int .i64 0,.string ⟨#[]⟩,.string ⟨#[]⟩,.int .i64 0],.bool false])∧Below w.heap.size w w')
theorem Ia(w:World)(base D T:Nat)(s:PS)(nodes:Int)(tv:Value)(ns:List aW)(id:Int)(h:gx w base D s nodes T tv ns)(hj:s.js.length≤1100000):Calls Tryz.prog 124 #[an T,.int .i64 id] w (Dw w s.js id):=by
 have hl:=h.len;have HAS:=Lib.hid (fun ob=>zg T tv ns nodes id (w.alloc ob) ((h.below (aj (Below.refl _ _) ob)).tree));have HB:=Lib.hid (fun ob:Obj=>aj (Below.refl _ w) ob);by_cases hid:0≤id∧id<s.js.length
 ·obtain⟨i,rfl⟩:∃i:Nat,id=i:=⟨id.toNat,by omega⟩;obtain⟨x,hx⟩:=bN s.js i (by omega);obtain⟨g,cap,rfl,hTg,NJ⟩:=h.tree.GR (by omega);obtain⟨n0,n1,n2,n3⟩:=h.node hx;have c0:=h.tree.cell0;have hTw:=h.tree.lt;have e:decide (0≤(i:Int)∧(i:Int)<(ns.length:Int))=true:=decide_eq_true (by omega);rw[e]at HAS;have H_:i<ns.length:=by omega
  have HX:=Lib.hid hx;have HL:=Lib.hid hl;have HV:Hid (∀w',Below w.heap.size w w'→Dw w s.js i (.returned (.tuple #[.agg #[.int .i64 x.kind,.string x.key,.string x.text,.int .i64 x.at_],.bool true])) w'):=Lib.hid (fun w' hb=>.inl ⟨i,x,rfl,hx,rfl,hb⟩);clear h hl hid e hx;go_enter Tryz.func124,Tryz.ntmps124;go_wp2_with fail;refine(HAS.out _).mono ?_;rintro e w1⟨rfl,rfl⟩;go_wp2
  refine bodyPost_ret (v:=.tuple #[.agg #[.int .i64 x.kind,.string x.key,.string x.text,.int .i64 x.at_],.bool true]) (by simp[results,Tryz.results124,go_sem]) rfl (HV.out _ (HB.out _))
 ·have e:decide (0≤id∧id<(ns.length:Int))=false:=decide_eq_false (by omega);rw[e]at HAS;have HV:Hid (∀w',Below w.heap.size w w'→Dw w s.js id (.returned (.tuple #[.agg #[.int .i64 0,.string ⟨#[]⟩,.string ⟨#[]⟩,.int .i64 0],.bool false])) w'):=Lib.hid (fun w' hb=>.inr ⟨hid,rfl,hb⟩);clear h hl hid e;go_enter Tryz.func124,Tryz.ntmps124;go_wp2_with fail;refine(HAS.out _).mono ?_;rintro e w1⟨rfl,rfl⟩;go_wp2
  refine bodyPost_ret (v:=.tuple #[.agg #[.int .i64 0,.string ⟨#[]⟩,.string ⟨#[]⟩,.int .i64 0],.bool false]) (by simp[results,Tryz.results124,go_sem]) rfl (HV.out _ (HB.out _))
theorem aaJ(w:World)(base D T:Nat)(s:PS)(nodes:Int)(tv:Value)(ns:List aW)(id:Int)(h:gx w base D s nodes T tv ns)(hj:s.js.length≤1100000):Calls Tryz.prog 90 #[an D,.int .i64 id] w (Dw w s.js id):=by
 have cD:=h.cD;have oX:=ak h.doc;have VL:=Lib.hid (fun ob=>Ia (w.alloc ob) base D T s nodes tv ns id (h.below (aj (Below.refl _ _) ob)) hj);have HB:=Lib.hid (fun ob:Obj=>aj (Below.refl _ w) ob);clear h;go_enter Tryz.func90,Tryz.ntmps90;go_wp2_with fail;refine(VL.out _).mono ?_;intro e w2 hp;rcases hp with⟨i,x,rfl,hx,rfl,hb⟩|⟨hn,rfl,hb⟩
 ·have er:=aK hb (b:=w.heap.size) (by simp);have bA:w.heap.size<w2.heap.size:=by have:=hb.size;simp at this;omega
  have OH:=oC hb (b:=w.heap.size) (by simp);have HF:=Lib.hid (aF (HB.out _) hb);have HX:=Lib.hid hx;clear hb hx;go_wp2;refine bodyPost_ret (v:=.tuple #[.agg #[.int .i64 x.kind,.string x.key,.string x.text,.int .i64 x.at_],.bool true]) (by simp[results,Tryz.results90,go_sem,er]) rfl (.inl ⟨i,x,rfl,HX.out,rfl,Dv HF.out _ _ _ _⟩)
 ·have er:=aK hb (b:=w.heap.size) (by simp);have bA:w.heap.size<w2.heap.size:=by have:=hb.size;simp at this;omega
  have OH:=oC hb (b:=w.heap.size) (by simp);have HF:=Lib.hid (aF (HB.out _) hb);have HN:=Lib.hid hn;clear hb hn;go_wp2;refine bodyPost_ret (v:=.tuple #[.agg #[.int .i64 0,.string ⟨#[]⟩,.string ⟨#[]⟩,.int .i64 0],.bool false]) (by simp[results,Tryz.results90,go_sem,er]) rfl (.inr ⟨HN.out,rfl,?_⟩);first|exact Dv HF.out _ _ _ _|exact HF.out
def bh(js:List JN)(k:Nat):ByteArray:=match js[k]? with
  |some x=>x.key
  |none=>⟨#[]⟩
theorem OI(w:World)(base D T:Nat)(s:PS)(nodes:Int)(tv:Value)(ns:List aW)(k:Nat)(h:gx w base D s nodes T tv ns)(hj:s.js.length≤1100000):Calls Tryz.prog 93 #[an D,.int .i64 k] w fun e w'=>e=.returned (.string (bh s.js k))∧Below w.heap.size w w':=by
 have cD:=h.cD;have VL:=Lib.hid (Ia w base D T s nodes tv ns k h hj);clear h;go_enter Tryz.func93,Tryz.ntmps93;go_wp2_with fail;refine VL.out.mono ?_;intro e w2 hp;rcases hp with⟨i,x,hi,hx,rfl,hb⟩|⟨hn,rfl,hb⟩
 ·obtain rfl:k=i:=by omega
  have hk:bh s.js k=x.key:=by unfold bh;rw[hx]
  have HK:=Lib.hid hk;have HF:=Lib.hid (fun ob=>aj hb ob);clear hb hx hk hi;go_wp2;go_ret;exact⟨by rw[HK.out];rfl,HF.out _⟩
 ·have hk:bh s.js k=⟨#[]⟩:=by unfold bh;rw[List.getElem?_eq_none (by omega)]
  have HK:=Lib.hid hk;have HF:=Lib.hid (fun ob=>aj hb ob);clear hb hn hk;go_wp2;go_ret;exact⟨by rw[HK.out];rfl,HF.out _⟩
theorem OJ{w a b:World}{k:Nat}{i:Int}{u:Value}(hb:Below w.heap.size w a)(h:dK a k i u b)(h2:w.heap.size<a.heap.size)(c0 c1 c2 c3:Value):dK w k i u ((((b.setCell ⟨w.heap.size,0,none⟩ c0).setCell ⟨w.heap.size,1,none⟩ c1).setCell ⟨w.heap.size,2,none⟩ c2).setCell ⟨w.heap.size,3,none⟩ c3):=by refine⟨?_,Dv (hb.trans (h.2.mono hb.size)) _ _ _ _⟩;refine Rd.wide (S:=fun c=>a.heap.size≤c∧c<b.heap.size) ?_ (fun c hc=>⟨by have:=hb.size;omega,by simpa using hc.2⟩);(have hne:∀c,(a.heap.size≤c∧c<b.heap.size)→c≠w.heap.size:=fun c hc=>by omega);exact(((h.1.set (p:=⟨w.heap.size,0,none⟩) hne c0).set (p:=⟨w.heap.size,1,none⟩) hne c1).set (p:=⟨w.heap.size,2,none⟩) hne c2).set (p:=⟨w.heap.size,3,none⟩) hne c3
def OK(w:World)(js:List JN)(id:Int)(ks:List Int)(e:Ending)(w':World):Prop:=(∃(i:Nat)(x:JN),id=i∧js[i]?=some x∧(x.kind∈ks∧e=.returned (.tuple #[.agg #[.int .i64 x.kind,.string x.key,.string x.text,.int .i64 x.at_],.nilIface])∧Below w.heap.size w w'∨x.kind∉ks∧∃u,e=.returned (.tuple #[.agg #[.int .i64 0,.string ⟨#[]⟩,.string ⟨#[]⟩,.int .i64 0],.iface 85 (.pointer (some u))])∧dK w 32 x.at_ (.iface 85 (.pointer (some u))) w'))∨(¬(0≤id∧id<js.length)∧∃u,e=.returned (.tuple #[.agg #[.int .i64 0,.string ⟨#[]⟩,.string ⟨#[]⟩,.int .i64 0],.iface 85 (.pointer (some u))])∧dK w 30 id (.iface 85 (.pointer (some u))) w')
def OL(ks:List Int)(kd:Int)(W:World)(k:Value)(wr:World):Prop:=wr=W∧∃j:Nat,k=.int .i64 j∧j≤ks.length∧∀m,m<j→ks[m]?≠some kd
theorem vg(w:World)(base D T:Nat)(s:PS)(nodes:Int)(tv:Value)(ns:List aW)(id:Int)(kv:Value)(ks:List Int)(h:gx w base D s nodes T tv ns)(hj:s.js.length≤1100000)(hk:Rd (Own w) w kv (.list 1 (ks.map (.int .i64))))(fm:ks.length≤1000):Calls Tryz.prog 91 #[an D,.int .i64 id,kv] w (OK w s.js id ks):=by
 have cD:=h.cD;have oX:=ak h.doc;have VL:=Lib.hid (fun ob=>Ia (w.alloc ob) base D T s nodes tv ns id (h.below (aj (Below.refl _ _) ob)) hj);have HB:=Lib.hid (fun ob:Obj=>aj (Below.refl _ w) ob);obtain⟨a,c,rfl,_,_,uG⟩:=hk.Wp;have oY:=Lib.hid uG;clear h hk uG;go_enter Tryz.func91,Tryz.ntmps91;go_wp2_with fail;refine(VL.out _).mono ?_;intro e w2 hp;rcases hp with⟨i,x,rfl,hx,rfl,hb⟩|⟨hn,rfl,hb⟩
 ·have er:=aK hb (b:=w.heap.size) (by simp);have bA:w.heap.size<w2.heap.size:=by have:=hb.size;simp at this;omega
  have hblk:w2.heap[w.heap.size]?=some (.cells #[.int .i64 0,.string ⟨#[]⟩,.string ⟨#[]⟩,.int .i64 0] 117 (0,0)):=(hb.block _ (by simp)).trans (heap_alloc_new w _);have OH:=oC hb (b:=w.heap.size) (by simp);have HF:=Lib.hid (aF (HB.out _) hb);have HX:=Lib.hid hx;clear hb hx;obtain⟨W3,bY⟩:∃W,w2.alloc (.cells #[.int .i64 x.kind,.string x.key,.string x.text,.int .i64 x.at_] 117)=W:=⟨_,rfl⟩
  have cn:∀j,W3.cell? ⟨w2.heap.size,j,none⟩=(#[.int .i64 x.kind,.string x.key,.string x.text,.int .i64 x.at_]:Array Value)[j]?:=fun j=>by rw[←bY];simp
  have h3:Below w.heap.size w W3:=by rw[←bY];exact aj HF.out _
  have Dx:∀j,W3.cell? ⟨w.heap.size,j,none⟩=(w.alloc (.cells #[.int .i64 0,.string ⟨#[]⟩,.string ⟨#[]⟩,.int .i64 0] 117)).cell? ⟨w.heap.size,j,none⟩:=fun j=>by rw[←bY,kl (Below.heap_alloc w2 _ _ bA)];exact er j
  have lk:w.heap.size<W3.heap.size:=by rw[←bY];simp;omega
  have vh:W3.heap[w.heap.size]?=some (.cells #[.int .i64 0,.string ⟨#[]⟩,.string ⟨#[]⟩,.int .i64 0] 117 (0,0)):=by rw[←bY,Below.heap_alloc w2 _ _ bA];exact hblk
  have fz3:∀j,W3.frozen? ⟨w.heap.size,j,none⟩=false:=fun j=>Go.Joins.unfrozen_of_block vh j;have Ib:=Lib.hid vh;clear hblk vh;have aj1:w2.heap.size<W3.heap.size:=by rw[←bY];simp
  have aj2:∀W:World,W.heap.size=w2.heap.size→True:=fun _ _=>trivial;have tj:=Lib.hid h3;have OM:∀(j:Nat)(hj:j<ks.length),∃b off,a=some ⟨b,off,none⟩∧W3.cell? ⟨b,off+j,none⟩=some (.int .i64 ks[j]):=fun j hj=>by obtain⟨b,off,ON,hS,hc⟩:=oY.out (by omega);exact⟨b,off,ON,(aK h3 hS _).trans (hc j _ (List.getElem?_eq_getElem hj))⟩
  have HCA:=Lib.hid OM;clear h3 OM er;go_wp2_with fail;clear bY;go_loopw[28](OL ks x.kind W3)(fun k _=>ks.length-(intOf k).toNat);case atStart=>exact⟨rfl,0,rfl,Nat.zero_le _,fun m hm=>by omega⟩
  case round=>
   obtain⟨rfl,j,rfl,ix,hno⟩:=hrel;have zB:=Lib.hid hno;clear hno;by_cases hlt:j<ks.length
   ·obtain⟨b,off,rfl,hc⟩:=HCA.out j hlt;have t1:decide ((j:Int)<(ks.length:Int))=true:=decide_eq_true (by omega);have aT:decide (j<ks.length)=true:=decide_eq_true hlt;have q1:IntKind.i64.wrap ((j:Int)+1)=(j:Int)+1:=IntWalk.i64_in _ (by omega);have hg:ks[j]?=some ks[j]:=List.getElem?_eq_getElem hlt;generalize ks[j]=y at*;have HG:=Lib.hid hg;clear hg;by_cases hy:x.kind=y
    ·have t2:(x.kind==y)=true:=beq_iff_eq.2 hy;have nJ:x.kind∈ks:=by rw[hy];exact List.mem_of_getElem? HG.out
     have HM:=Lib.hid nJ;clear hy nJ;go_wp2;(try simp only[Exit.inBlock,Exit.then]);refine bodyPost_ret (v:=.tuple #[.agg #[.int .i64 x.kind,.string x.key,.string x.text,.int .i64 x.at_],.nilIface]) (by simp[results,Tryz.results91,go_sem,Dx]) rfl (.inl ⟨i,x,rfl,HX.out,.inl ⟨HM.out,rfl,Dv tj.out _ _ _ _⟩⟩)
    ·have t2:(x.kind==y)=false:=beq_eq_false_iff_ne.2 hy
     have R:OL ks x.kind wr (.int .i64 ((j:Int)+1)) wr:=⟨rfl,j+1,by go_num,hlt,fun m hm=>by
      by_cases e:m=j
      ·subst e;rw[HG.out];exact fun h=>hy (Option.some.inj h).symm
      ·exact zB.out m (by omega)⟩
     have HR:=Lib.hid R;clear R hy;go_wp2;refine⟨?_,by simp[intOf];omega⟩;have R:=HR.out;first|exact R|((repeat apply Exists.intro);exact⟨R,rfl⟩)
   ·have t1:decide ((j:Int)<(ks.length:Int))=false:=decide_eq_false (by omega);have aT:decide (j<ks.length)=false:=decide_eq_false hlt;have kG:x.kind∉ks:=fun hm=>by obtain⟨m,xc⟩:=List.mem_iff_getElem?.1 hm;exact zB.out m (by have:=(List.getElem?_eq_some_iff.1 xc).1;omega) xc
    have FL:=Lib.hid (fails 32 x.at_ wr);have HM:=Lib.hid kG;clear kG hlt;go_wp2_with fail;refine FL.out.mono ?_;rintro e w5⟨u,rfl,hf⟩;obtain⟨p,rfl⟩:=hf.form;have zC:=fun j=>(aK hf.2 lk j).trans (Dx j);have hf5:=hf.2.size;have Hw:∀j,w5.frozen? ⟨w.heap.size,j,none⟩=false:=fun j=>Go.Joins.unfrozen_of_block ((hf.2.block _ lk).trans Ib.out) j;have zE:=Lib.hid hf;clear hf;go_wp2;(try simp only[Exit.inBlock,Exit.then])
    refine bodyPost_ret (v:=.tuple #[.agg #[.int .i64 0,.string ⟨#[]⟩,.string ⟨#[]⟩,.int .i64 0],.iface 85 (.pointer (some p))]) (by simp[results,Tryz.results91,go_sem,zC]) rfl (.inl ⟨i,x,rfl,HX.out,.inr ⟨HM.out,p,rfl,?_⟩⟩);first|exact OJ tj.out zE.out lk _ _ _ _|exact zE.out.after tj.out
 ·have er:=aK hb (b:=w.heap.size) (by simp);have bA:w.heap.size<w2.heap.size:=by have:=hb.size;simp at this;omega
  have hblk:w2.heap[w.heap.size]?=some (.cells #[.int .i64 0,.string ⟨#[]⟩,.string ⟨#[]⟩,.int .i64 0] 117 (0,0)):=(hb.block _ (by simp)).trans (heap_alloc_new w _);have HF:=Lib.hid (aF (HB.out _) hb);have HN:=Lib.hid hn;obtain⟨W3,bY⟩:∃W,w2.alloc (.cells #[.int .i64 0,.string ⟨#[]⟩,.string ⟨#[]⟩,.int .i64 0] 117)=W:=⟨_,rfl⟩;have h3:Below w.heap.size w W3:=by rw[←bY];exact aj HF.out _
  have Dx:∀j,W3.cell? ⟨w.heap.size,j,none⟩=(w.alloc (.cells #[.int .i64 0,.string ⟨#[]⟩,.string ⟨#[]⟩,.int .i64 0] 117)).cell? ⟨w.heap.size,j,none⟩:=fun j=>by rw[←bY,kl (Below.heap_alloc w2 _ _ bA)];exact er j
  have lk:w.heap.size<W3.heap.size:=by rw[←bY];simp;omega
  have vh:W3.heap[w.heap.size]?=some (.cells #[.int .i64 0,.string ⟨#[]⟩,.string ⟨#[]⟩,.int .i64 0] 117 (0,0)):=by rw[←bY,Below.heap_alloc w2 _ _ bA];exact hblk
  have fz3:∀j,W3.frozen? ⟨w.heap.size,j,none⟩=false:=fun j=>Go.Joins.unfrozen_of_block vh j;have Ib:=Lib.hid vh;clear hblk vh;have tj:=Lib.hid h3;have FL:=Lib.hid (fails 30 id W3);have Dk:=Lib.hid bY;clear hb hn er h3 bY;go_wp2_with fail;rw[Dk.out];refine FL.out.mono ?_;rintro e w5⟨u,rfl,hf⟩;obtain⟨p,rfl⟩:=hf.form;have zC:=fun j=>(aK hf.2 lk j).trans (Dx j);have hf5:=hf.2.size;have Hw:∀j,w5.frozen? ⟨w.heap.size,j,none⟩=false:=fun j=>Go.Joins.unfrozen_of_block ((hf.2.block _ lk).trans Ib.out) j
  have zE:=Lib.hid hf;clear hf;go_wp2;(try simp only[Exit.inBlock,Exit.then]);refine bodyPost_ret (v:=.tuple #[.agg #[.int .i64 0,.string ⟨#[]⟩,.string ⟨#[]⟩,.int .i64 0],.iface 85 (.pointer (some p))]) (by simp[results,Tryz.results91,go_sem,zC]) rfl (.inr ⟨HN.out,p,rfl,?_⟩);first|exact OJ tj.out zE.out lk _ _ _ _|exact zE.out.after tj.out
end Go.Proofs.YtcaiibkgajhohaaGreatDoor
