/- waybill: lemmas and walks, printed from longer texts. -/
import Derived.Test.YtcaiibkgajhohaaGreatDoorM08
import Derived.Test.YtcaiibkgajhohaaGreatDoorM09
import Derived.Deep.RegionWith
set_option maxRecDepth 100000
set_option maxHeartbeats 16000000
namespace Go.Proofs.YtcaiibkgajhohaaGreatDoor
open Go.RowKit
section
variable{w:World}{B g n cap:Nat}{ns:List aW}{most:Int}
theorem bJ.set(h:bJ w B (.slice (some ⟨g,0,none⟩) n cap) ns most)(hn:ns.length=n){i j:Nat}{a b:aW}{x:Value}(hi:ns[i]?=some a)(hj:j<10)(he:jd b=(jd a).set j x):bJ (w.setCell ⟨g,i*10+j,none⟩ x) B (.slice (some ⟨g,0,none⟩) n cap) (ns.set i b) most:=by subst hn;have hl:=h.own.lt g rfl;refine⟨by rw[Below.heap_setCell _ _ _ _ (show B≠g by omega)];exact h.box,?_⟩;rw[List.length_set];exact YV NH h.own hi hj he
theorem bJ.nd(h:bJ w B (.slice (some ⟨g,0,none⟩) n cap) ns most)(hn:ns.length=n){i:Nat}{a:aW}(hi:ns[i]?=some a)(j:Nat)(hj:j<10):w.cell? ⟨g,i*10+j,none⟩=(jd a)[j]?:=by subst hn;exact h.node hi j hj
theorem bJ.frozen(h:bJ w B (.slice (some ⟨g,0,none⟩) n cap) ns most)(hn:ns.length=n)(j:Nat):w.frozen? ⟨g,j,none⟩=false:=by subst hn;exact h.own.frozenAt j
theorem bJ.GS{v:Value}(h:bJ w B v ns most)(j:Nat):w.frozen? ⟨B,j,none⟩=false:=frozen_of_row w B j _ _ h.box
end
theorem NI{ns:List aW}{aa:List Nat}(hg:p4 ns aa)(hw:dL aa):∀(i:Nat)(a:aW),ns[i]?=some a→0≤a.deep∧a.deep≤i
 |0,a,h=>by rw[hg.Nt a h];simp
 |i+1,a,h=>by(have hi:i+1<aa.length:=by rw[←hg.len];exact(List.getElem?_eq_some_iff.1 h).1);obtain⟨u,hu⟩:=bN aa (i+1) hi;have hlt:=hw (i+1) u (by omega) hu;obtain⟨b,hb⟩:=bN ns u (by rw[hg.len];omega);have:=NI hg hw u b hb;rw[hg.deep (i+1) u a b (by omega) hu h hb];omega termination_by i=>i
theorem zh(aa:List Nat)(i:Nat):(kids aa i).length≤aa.length:=by have:=List.length_filter_le (fun j=>decide (aa[j]?=some i)) (List.range' 1 (aa.length-1));unfold kids;simp at this⊢;omega
theorem Zr{aa:List Nat}(hw:dL aa)(u:Nat):nB (kids aa u)=-1∨∃l:Nat,nB (kids aa u)=l∧l<aa.length∧u<l:=by
 by_cases h:kids aa u=[]
 ·left;rw[h];rfl
 ·right;obtain⟨A,k,hk⟩:=C_ h;refine⟨k,by rw[hk,zc],?_⟩;have hm:k∈kids aa u:=by rw[hk];simp
  exact⟨(fk.1 hm).2.1,l9 hw hm⟩
theorem GU{α:Type}(l:List α)(i:Nat)(f:α→α)(a:α)(h:l[i]?=some a):l.modify i f=l.set i (f a):=by
 apply List.ext_getElem?;intro j;rw[List.getElem?_modify];by_cases e:i=j
 ·subst e;rw[h,List.getElem?_set_self (List.getElem?_eq_some_iff.1 h).1];simp
 ·rw[List.getElem?_set_ne e];simp[e]
theorem Zs{ns:List aW}{u:Nat}{v:Value}{a:aW}(ha:ns[u]?=some a)(hl:a.last=-1):addN ns u v=((((ns.set u {a with first:=ns.length}).set u {a with first:=ns.length,last:=ns.length}).set u {a with first:=ns.length,last:=ns.length,count:=a.count+1})++[⟨v,u,-1,-1,-1,a.deep+1,0⟩]):=by have hu:=(List.getElem?_eq_some_iff.1 ha).1;simp only[addN,ha];rw[if_pos hl,GU _ u _ {a with first:=ns.length} (List.getElem?_set_self hu)];simp
theorem Zt{ns:List aW}{u l:Nat}{v:Value}{a b:aW}(ha:ns[u]?=some a)(hl:a.last=l)(hb:ns[l]?=some b)(hne:u≠l):addN ns u v=((((ns.set l {b with next:=ns.length}).set u {a with last:=ns.length}).set u {a with last:=ns.length,count:=a.count+1})++[⟨v,u,-1,-1,-1,a.deep+1,0⟩]):=by simp only[addN,ha,hl];rw[if_neg (by omega),Int.toNat_natCast,GU _ l _ b hb,GU _ u _ a (by rw[List.getElem?_set_ne (fun e=>hne e.symm)];exact ha)];simp
theorem NL(B:ByteArray)(a k:Nat)(h1:1≤k)(h4:k≤4):gN B a k (k-1)=k9 (af B a) (af B (a+1)) (af B (a+2)) (af B (a+3)) k:=by
 have hk:k=1∨k=2∨k=3∨k=4:=by omega
 rcases hk with rfl|rfl|rfl|rfl
 ·show(af B a:Int)-0=_;rw[yS];omega
 ·rfl
 ·rfl
 ·rfl
def oR(n:Nat):ByteArray:=⟨((bm n).map UInt8.ofNat).toArray⟩
theorem NM{n:Nat}(h:n<1114112):(oR n).data.toList.map (·.toNat)=bm n:=by unfold oR;rw[List.toList_toArray,List.map_map];(conv=>rhs;rw[←List.map_id (bm n)]);apply List.map_congr_left;intro x hx;have:=CW h x hx;simp;omega
theorem NN(n:Nat):(oR n).size=(bm n).length:=by show((bm n).map UInt8.ofNat).toArray.size=_;simp
theorem ZM(B:ByteArray)(a k:Nat)(h4:k≤4)(h:a+k≤B.size):(gH B a k).data.toList.map (·.toNat)=[af B a,af B (a+1),af B (a+2),af B (a+3)].take k:=by
 have hz:B.data.size=B.size:=rfl;apply List.ext_getElem?;intro j;by_cases hj:j<k
 ·have hb:=oM B a k j hj;have hsz:=pV B a k h;have hl:j<(gH B a k).data.size:=by show j<(gH B a k).size;omega
  rw[List.getElem?_map,Array.getElem?_toList,Array.getElem?_eq_getElem hl,Option.map_some,List.getElem?_take,if_pos hj];have e:(gH B a k).data[j].toNat=af B (a+j):=by rw[←hb];unfold af;rw[Array.getElem?_eq_getElem hl];rfl
  rw[e];have hj':j=0∨j=1∨j=2∨j=3:=by omega
  rcases hj' with rfl|rfl|rfl|rfl<;>rfl
 ·have hsz:=pV B a k h;have hl:¬j<(gH B a k).data.size:=by show¬j<(gH B a k).size;omega
  rw[List.getElem?_map,Array.getElem?_toList,Array.getElem?_eq_none (by omega),List.getElem?_take,if_neg hj];rfl
theorem NO:∀{x y:List UInt8},x.map (·.toNat)=y.map (·.toNat)→x=y
 |[],[],_=>rfl
 |[],_::_,h=>by simp at h
 |_::_,[],h=>by simp at h
 |a::x,b::y,h=>by simp only[List.map_cons,List.cons.injEq]at h;rw[UInt8.toNat.inj h.1,NO h.2]
theorem ZN{n:Nat}(hn:n<1114112)(B:ByteArray)(a k:Nat)(h4:k≤4)(h:a+k≤B.size):((oR n).toList==(gH B a k).toList)=(bm n==[af B a,af B (a+1),af B (a+2),af B (a+3)].take k):=by
 have h1:=NM hn;have h2:=ZM B a k h4 h;by_cases he:oR n=gH B a k
 ·rw[iL he,←h1,he,h2];exact(beq_self_eq_true _).symm
 ·rw[mX he];symm;apply beq_eq_false_iff_ne.2;intro hx;rw[←h1,←h2]at hx;apply he;have:=NO hx
  cases hp:oR n with
  |mk d1=>
   cases hs:gH B a k with
   |mk d2=>rw[hp,hs]at this;have:d1=d2:=Array.toList_inj.1 this;rw[this]
theorem ZO{n:Nat}(hn:n<1114112)(W:World):∀j,j<(bm n).length→(W.alloc (.cells (nC n) 5)).cell? ⟨W.heap.size,0+j,none⟩=some (.int .u8 (af (oR n) j)):=by intro j hj;apply FP;have hl:=NM hn;(have hd:j<(oR n).data.size:=by show j<(oR n).size;rw[NN];exact hj);(have e:(bm n)[j]?=some (af (oR n) j):=by rw[←hl,List.getElem?_map,Array.getElem?_toList,Array.getElem?_eq_getElem hd];unfold af;rw[Array.getElem?_eq_getElem hd];rfl);unfold nC;rw[List.toList_toArray,List.getElem?_map,e];rfl
def ma(B:ByteArray)(a:Nat):Nat×Nat:=if bR B a=(65533,1)then(0,0)else bR B a
abbrev uR(B:ByteArray)(a k:Nat):Bool:=fT (af B a) (af B (a+1)) (af B (a+2)) (af B (a+3)) k
theorem ZP{B:ByteArray}{a k n:Nat}(ha:a<B.size)(h1:1≤k)(h4:k≤4)(hk:a+k≤B.size)(hh:uR B a k=true)(hn:gN B a k (k-1)=(n:Int)):ma B a=(n,k):=by obtain⟨e1,e2⟩:=MQ (dm B a) (dm B (a+1)) (dm B (a+2)) (B.size-a) (by omega) k h1 h4 (by omega) hh;rw[NL B a k h1 h4]at hn;rw[hn,Int.toNat_natCast]at e1 e2;unfold ma bR;rw[e1,if_neg e2]
theorem NP{B:ByteArray}{a:Nat}(ha:a<B.size)(h:∀k,1≤k→k≤4→a+k≤B.size→uR B a k=false):ma B a=(0,0):=by have:=MR (dm B a) (dm B (a+1)) (dm B (a+2)) (B.size-a) (by omega) (fun k h1 h4 hk=>h k h1 h4 (by omega));unfold ma bR;rw[if_pos this]
def NQ(B:ByteArray)(a:Nat)(w:World)(i:Value)(wr:World):Prop:=∃k:Nat,i=.int .i64 k∧1≤k∧k≤5∧(∀m,1≤m→m<k→a+m≤B.size→uR B a m=false)∧Below w.heap.size w wr
theorem ZQ(v:Value)(B:ByteArray)(a:Nat)(w:World)(hB:Rd (Own w) w v (dF B))(hz:B.size≤1100000)(ha:a<B.size):Calls Tryz.prog 103 #[v,.int .i64 a] w fun e w'=>e=.returned (.tuple #[.int .i64 (ma B a).1,.int .i64 (ma B a).2])∧Below w.heap.size w w':=by
 have HB:=Lib.hid (fun W(hO:Below w.heap.size w W)=>hB.ext hO);obtain⟨av,c,rfl,_,fh,hcc⟩:=hB.eY;obtain⟨b,off,rfl,pN,hx⟩:=hcc (by omega);have HX:=Lib.hid hx;have ajE:b<w.heap.size:=pN;clear hB hcc hx;go_enter Tryz.func103,Tryz.ntmps103;go_wp2_with fail;go_loopw[6](NQ B a w)(fun i _=>5-(intOf i).toNat);case atStart=>exact⟨1,rfl,by decide,by decide,fun m h1 h2=>by omega,Below.refl _ _⟩
 case round=>
  obtain⟨k,rfl,jD,G2,hn,hb⟩:=hrel;have HN:=Lib.hid hn;have gK:=Lib.hid hb;have Dd:=hb.size;clear hn hb;by_cases sL:k≤4
  ·have t1:decide (k≤4)=true:=decide_eq_true sL;have aT:decide ((k:Int)≤4)=true:=decide_eq_true (by omega);have q1:IntKind.i64.wrap ((a:Int)+(k:Int))=(a:Int)+(k:Int):=IntWalk.i64_in _ (by omega);by_cases hk:a+k≤B.size
   ·have t2:decide ((a:Int)+(k:Int)≤(B.size:Int))=true:=decide_eq_true (by omega);have HG:=ZL _ _ B a k wr (HB.out wr gK.out) hz ⟨jD,sL⟩ hk;have hg:=zm B a (k) (k-1) (by omega);have hh:uR B a k=(dv (gN B a k (k-1))&&(bm (gN B a k (k-1)).toNat==[af B a,af B (a+1),af B (a+2),af B (a+3)].take k)):=by rw[NL B a k jD sL];rfl
    have G3:∀n:Nat,gN B a k (k-1)=(n:Int)→uR B a k=true→ma B a=(n,k):=fun n h1 h2=>ZP ha jD sL hk h2 h1
    have step:uR B a k=false→∀W,Below w.heap.size w W→NQ B a w (.int .i64 (k+1)) W:=fun hf W hW=>⟨k+1,by go_num,by omega,by omega,fun m h1 h2 h3=>by
     by_cases e:m=k
     ·subst e;exact hf
     ·exact HN.out m h1 (by omega) h3,hW⟩
    generalize gN B a k (k-1)=g at*;have NR:=Lib.hid HG;clear HG;have De:=Lib.hid (fun W=>ZF g W)
    cases hr:dv g with
    |false=>rw[hr,Bool.false_and]at hh;have cM:=Lib.hid (step hh);rw[hr]at De;clear hh G3 step hr hg;go_wp2_with fail;refine NR.out.mono ?_;rintro e w1⟨rfl,rfl⟩;go_wp2;go_quiet((go_at_call 133;exact Wo (De.out _)));go_wp2;refine⟨?_,by simp[intOf]<;>omega⟩;have R:=fun m=>cM.out (wr.drewN m) (eW m gK.out);first|exact R _|((repeat apply Exists.intro);exact⟨R _,rfl⟩)
    |true=>
     rw[hr,Bool.true_and]at hh;obtain⟨n,rfl,hn⟩:∃n:Nat,g=(n:Int)∧n<1114112:=by have:=(k_ g).1 hr;exact⟨g.toNat,by omega,by omega⟩
     rw[Int.toNat_natCast]at hh;have kA:=ZN hn B a k sL hk;rw[←hh]at kA;rw[hr]at De;have HP:=fun W=>ZK n hn W;obtain⟨C,hC⟩:∃C,C=Obj.cells (nC n) 5 (0,0):=⟨_,rfl⟩;have Df:=ZO hn wr;have zo:=NN n;rw[←hC]at Df;have G4:∀W,Calls Tryz.prog 134 #[.int .i64 n] W fun e w'=>e=.returned (.slice (some ⟨W.heap.size,0,none⟩) (bm n).length (bm n).length)∧w'=W.alloc C:=by rw[hC];exact HP
     generalize(bm n).length=L at Df zo G4;generalize oR n=P1 at*;have cvA:=sM (wr.alloc C).drew wr.heap.size 0 L L P1 zo (fun j hj=>Df j hj);obtain⟨a',c',e1,_,_,hc⟩:=(HB.out wr gK.out).eY;cases e1;obtain⟨b',wE,e2,_,x0⟩:=hc (by omega);cases e2;have NS:=sM wr.drew b (off+a) k (c-a) (gH B a k) (pV B a k hk) (fun j hj=>by rw[oM B a k j hj,Nat.add_assoc];exact x0 (a+j) (by omega))
     have NT:=sM (wr.alloc C).drew b (off+a) k (c-a) (gH B a k) (pV B a k hk) (fun j hj=>by rw[oM B a k j hj,Nat.add_assoc];exact jA C (x0 (a+j) (by omega)));generalize gH B a k=P2 at*;have uS:=Lib.hid G4;have mc:=Lib.hid (fun hf=>step hf (wr.alloc C).drew (eW 1 (aj gK.out C)));have ZR:=Lib.hid (G3 n rfl);have q5:(a:Int)+(k:Int)≤(c:Int):=by omega
     have q6:a+k≤c:=by omega
     have q7:(a:Int)≤(a:Int)+(k:Int):=by omega
     have q8:((a:Int)+(k:Int)).toNat=a+k:=by omega
     clear hh G3 step hr hg HP hC Df zo G4 hc x0 hn;have fo:Below w.heap.size w (wr.alloc C).drew:=eW 1 (aj gK.out C);have zp:=Lib.hid fo;clear fo;have q9:¬c=a:=by omega
     obtain⟨hv,G5⟩:∃x,uR B a k=x:=⟨_,rfl⟩;rw[G5]at kA;have NU:=Lib.hid G5;clear G5;go_wp2_with fail;refine NR.out.mono ?_;rintro e w1⟨rfl,rfl⟩;go_wp2_with fail;refine wp_region_noPanic ?_;refine wp_region_held_drew (S:=fun W=>(convert 22 9 (.slice (some ⟨b,off+a,none⟩) k (c-a))).run Tryz.prog W=.ok (.string P2) W) (by kernel_rfl) NS (fun aB=>?_)
     refine wpAnyH_take (i:=0) (oi:=_) (v:=.int .i64 n) rfl (by kernel_rfl) (by kernel_rfl) (by kernel_rfl) (fun _ _ _ h=>h) (Or.inl ⟨by rfl,?_⟩) aB ?_
     ·intro w al;go_simp
     try simp only[Act.put,List.setIfInBounds_toArray,List.set_cons_zero,List.set_cons_succ,List.getElem_toArray,List.getElem_cons_zero]
     refine wpAnyH_ready (rs:=[1]) (by kernel_rfl) (by simp) ?_;refine AllReadyH.cons (o:=_) rfl (fun K hK=>?_) AllReadyH.nil;go_simp;refine(De.out _).mono ?_;rintro e w'⟨rfl,rfl⟩;go_wp2_with fail;refine hK.out _ _ NS (fun aB=>?_);clear hK K;try simp only[Act.put,List.setIfInBounds_toArray,List.set_cons_zero,List.set_cons_succ,List.getElem_toArray,List.getElem_cons_zero,List.getElem_cons_succ]
     refine wpAnyH_take (i:=2) (oi:=_) (v:=.bool true) rfl (by kernel_rfl) (by kernel_rfl) (by kernel_rfl) (fun _ _ _ h=>h) (Or.inl ⟨by rfl,?_⟩) aB ?_
     ·intro w al;go_simp
     try simp only[Act.put,List.setIfInBounds_toArray,List.set_cons_zero,List.set_cons_succ,List.getElem_toArray,List.getElem_cons_zero,List.getElem_cons_succ]
     refine wpAnyH_take (i:=3) (oi:=_) (v:=.int .i64 n) rfl (by kernel_rfl) (by kernel_rfl) (by kernel_rfl) (fun _ _ _ h=>h) (Or.inl ⟨by rfl,?_⟩) aB ?_
     ·intro w al;go_simp
     try simp only[Act.put,List.setIfInBounds_toArray,List.set_cons_zero,List.set_cons_succ,List.getElem_toArray,List.getElem_cons_zero,List.getElem_cons_succ]
     refine wpAnyH_take (i:=6) (oi:=_) (v:=.slice (some ⟨b,off,none⟩) B.size c) rfl (by kernel_rfl) (by kernel_rfl) (by kernel_rfl) (fun _ _ _ h=>h) (Or.inl ⟨by rfl,?_⟩) aB ?_
     ·intro w al;go_simp
     try simp only[Act.put,List.setIfInBounds_toArray,List.set_cons_zero,List.set_cons_succ,List.getElem_toArray,List.getElem_cons_zero,List.getElem_cons_succ]
     refine wpAnyH_take (i:=7) (oi:=_) (v:=.int .i64 a) rfl (by kernel_rfl) (by kernel_rfl) (by kernel_rfl) (fun _ _ _ h=>h) (Or.inl ⟨by rfl,?_⟩) aB ?_
     ·intro w al;go_simp
     try simp only[Act.put,List.setIfInBounds_toArray,List.set_cons_zero,List.set_cons_succ,List.getElem_toArray,List.getElem_cons_zero,List.getElem_cons_succ]
     refine wpAnyH_take (i:=8) (oi:=_) (v:=.int .i64 a) rfl (by kernel_rfl) (by kernel_rfl) (by kernel_rfl) (fun _ _ _ h=>h) (Or.inl ⟨by rfl,?_⟩) aB ?_
     ·intro w al;go_simp
     try simp only[Act.put,List.setIfInBounds_toArray,List.set_cons_zero,List.set_cons_succ,List.getElem_toArray,List.getElem_cons_zero,List.getElem_cons_succ]
     refine wpAnyH_take (i:=9) (oi:=_) (v:=.int .i64 k) rfl (by kernel_rfl) (by kernel_rfl) (by kernel_rfl) (fun _ _ _ h=>h) (Or.inl ⟨by rfl,?_⟩) aB ?_
     ·intro w al;go_simp
     try simp only[Act.put,List.setIfInBounds_toArray,List.set_cons_zero,List.set_cons_succ,List.getElem_toArray,List.getElem_cons_zero,List.getElem_cons_succ]
     refine wpAnyH_take (i:=10) (oi:=_) (v:=.int .i64 ((a:Int)+(k:Int))) rfl (by kernel_rfl) (by kernel_rfl) (by kernel_rfl) (fun _ _ _ h=>h) (Or.inl ⟨by rfl,?_⟩) aB ?_
     ·intro w al;go_simp
     try simp only[Act.put,List.setIfInBounds_toArray,List.set_cons_zero,List.set_cons_succ,List.getElem_toArray,List.getElem_cons_zero,List.getElem_cons_succ]
     refine wpAnyH_take (i:=11) (oi:=_) (v:=.slice (some ⟨b,off+a,none⟩) k (c-a)) rfl (by kernel_rfl) (by kernel_rfl) (by kernel_rfl) (fun _ _ _ h=>h) (Or.inl ⟨by rfl,?_⟩) aB ?_
     ·intro w al;go_simp
     try simp only[Act.put,List.setIfInBounds_toArray,List.set_cons_zero,List.set_cons_succ,List.getElem_toArray,List.getElem_cons_zero,List.getElem_cons_succ]
     refine wpAnyH_take (i:=12) (oi:=_) (v:=.string P2) rfl (by kernel_rfl) (by kernel_rfl) (by kernel_rfl) (fun _ _ _ h=>h) (Or.inl ⟨by rfl,?_⟩) aB ?_
     ·intro w al;go_simp
     try simp only[Act.put,List.setIfInBounds_toArray,List.set_cons_zero,List.set_cons_succ,List.getElem_toArray,List.getElem_cons_zero,List.getElem_cons_succ]
     refine wpAnyH_ready (rs:=[4]) (by kernel_rfl) (by simp) ?_;refine AllReadyH.cons (o:=_) rfl (fun K hK=>?_) AllReadyH.nil;go_simp;refine(uS.out _).mono ?_;rintro e w'⟨rfl,rfl⟩;go_wp2_with fail;refine hK.out _ _ NT (fun aB=>?_);clear hK K;try simp only[Act.put,List.setIfInBounds_toArray,List.set_cons_zero,List.set_cons_succ,List.getElem_toArray,List.getElem_cons_zero,List.getElem_cons_succ]
     refine wpAnyH_ready (rs:=[5]) (by kernel_rfl) (by simp) ?_;refine AllReadyH.cons (o:=_) rfl (fun K hK=>?_) AllReadyH.nil;go_simp;refine hK.out _ _ NT (fun aB=>?_);clear hK K;try simp only[Act.put,List.setIfInBounds_toArray,List.set_cons_zero,List.set_cons_succ,List.getElem_toArray,List.getElem_cons_zero,List.getElem_cons_succ]
     refine wpAnyH_take (i:=13) (oi:=_) (v:=.bool hv) rfl (by kernel_rfl) (by kernel_rfl) (by kernel_rfl) (fun _ _ _ h=>h) (Or.inl ⟨by rfl,?_⟩) aB ?_
     ·intro w al;go_simp
     try simp only[Act.put,List.setIfInBounds_toArray,List.set_cons_zero,List.set_cons_succ,List.getElem_toArray,List.getElem_cons_zero,List.getElem_cons_succ]
     refine wpAnyH_take (i:=14) (oi:=_) (v:=.bool hv) rfl (by kernel_rfl) (by kernel_rfl) (by kernel_rfl) (fun _ _ _ h=>h) (Or.inl ⟨by rfl,?_⟩) aB ?_
     ·intro w al;go_simp
     try simp only[Act.put,List.setIfInBounds_toArray,List.set_cons_zero,List.set_cons_succ,List.getElem_toArray,List.getElem_cons_zero,List.getElem_cons_succ]
     refine wpAnyH_done (by kernel_rfl) ?_ _;refine NoPanic.normal ?_
     cases hv with
     |true=>have HE:=Lib.hid (ZR.out NU.out);go_wp2;go_ret2;exact⟨by rw[HE.out];rfl,zp.out⟩
     |false=>have HR:=Lib.hid (mc.out NU.out);go_wp2;refine⟨?_,by simp[intOf]<;>omega⟩;have R:=HR.out;first|exact R|((repeat apply Exists.intro);exact⟨R,rfl⟩)
   ·have t2:decide ((a:Int)+(k:Int)≤(B.size:Int))=false:=decide_eq_false (by omega);have HE:Hid (ma B a=(0,0)):=Lib.hid (NP ha (fun m h1 h2 h3=>HN.out m h1 (by omega) h3));clear hk;go_wp2;go_ret2;exact⟨by rw[HE.out];rfl,gK.out⟩
  ·have t1:decide (k≤4)=false:=decide_eq_false sL;have aT:decide ((k:Int)≤4)=false:=decide_eq_false (by omega);have HE:Hid (ma B a=(0,0)):=Lib.hid (NP ha (fun m h1 h2 h3=>HN.out m h1 (by omega) h3));clear sL;go_wp2;go_ret2;exact⟨by rw[HE.out];rfl,gK.out⟩
def zM(c:Nat):Bool:=decide (65≤c)&&decide (c≤90)
def DJ(c:Nat):Bool:=decide (97≤c)&&decide (c≤122)
def zO(c:Nat):Bool:=decide (48≤c)&&decide (c≤57)
def DL(c:Nat):Bool:=DJ c||zM c
theorem Ij(c:Nat)(w:World):Calls Tryz.prog 179 #[.int .u8 c] w fun e w'=>e=.returned (.bool (zM c))∧w=w':=by
 unfold zM;by_cases h1:65≤c
 ·by_cases h2:c≤90
  ·have t1:decide ((65:Int)≤c)=true:=decide_eq_true (by omega);have t2:decide ((c:Int)≤90)=true:=decide_eq_true (by omega);rw[decide_eq_true h1,decide_eq_true h2];go_enter Tryz.func179,Tryz.ntmps179;go_wp2;go_ret;exact⟨rfl,rfl⟩
  ·have t1:decide ((65:Int)≤c)=true:=decide_eq_true (by omega);have t2:decide ((c:Int)≤90)=false:=decide_eq_false (by omega);rw[decide_eq_true h1,decide_eq_false h2];go_enter Tryz.func179,Tryz.ntmps179;go_wp2;go_ret;exact⟨rfl,rfl⟩
 ·have t1:decide ((65:Int)≤c)=false:=decide_eq_false (by omega);rw[decide_eq_false h1];go_enter Tryz.func179,Tryz.ntmps179;go_wp2;go_ret;exact⟨rfl,rfl⟩
theorem Pa(c:Nat)(w:World):Calls Tryz.prog 189 #[.int .u8 c] w fun e w'=>e=.returned (.bool (DJ c))∧w=w':=by
 unfold DJ;by_cases h1:97≤c
 ·by_cases h2:c≤122
  ·have t1:decide ((97:Int)≤c)=true:=decide_eq_true (by omega);have t2:decide ((c:Int)≤122)=true:=decide_eq_true (by omega);rw[decide_eq_true h1,decide_eq_true h2];go_enter Tryz.func189,Tryz.ntmps189;go_wp2;go_ret;exact⟨rfl,rfl⟩
  ·have t1:decide ((97:Int)≤c)=true:=decide_eq_true (by omega);have t2:decide ((c:Int)≤122)=false:=decide_eq_false (by omega);rw[decide_eq_true h1,decide_eq_false h2];go_enter Tryz.func189,Tryz.ntmps189;go_wp2;go_ret;exact⟨rfl,rfl⟩
 ·have t1:decide ((97:Int)≤c)=false:=decide_eq_false (by omega);rw[decide_eq_false h1];go_enter Tryz.func189,Tryz.ntmps189;go_wp2;go_ret;exact⟨rfl,rfl⟩
theorem Pb(c:Nat)(w:World):Calls Tryz.prog 180 #[.int .u8 c] w fun e w'=>e=.returned (.bool (zO c))∧w=w':=by
 unfold zO;by_cases h1:48≤c
 ·by_cases h2:c≤57
  ·have t1:decide ((48:Int)≤c)=true:=decide_eq_true (by omega);have t2:decide ((c:Int)≤57)=true:=decide_eq_true (by omega);rw[decide_eq_true h1,decide_eq_true h2];go_enter Tryz.func180,Tryz.ntmps180;go_wp2;go_ret;exact⟨rfl,rfl⟩
  ·have t1:decide ((48:Int)≤c)=true:=decide_eq_true (by omega);have t2:decide ((c:Int)≤57)=false:=decide_eq_false (by omega);rw[decide_eq_true h1,decide_eq_false h2];go_enter Tryz.func180,Tryz.ntmps180;go_wp2;go_ret;exact⟨rfl,rfl⟩
 ·have t1:decide ((48:Int)≤c)=false:=decide_eq_false (by omega);rw[decide_eq_false h1];go_enter Tryz.func180,Tryz.ntmps180;go_wp2;go_ret;exact⟨rfl,rfl⟩
theorem Pd(c:Nat)(w:World):Calls Tryz.prog 181 #[.int .u8 c] w fun e w'=>e=.returned (.bool (DL c))∧w=w':=by
 unfold DL
 cases h1:DJ c with
 |true=>go_enter Tryz.func181,Tryz.ntmps181;go_wp2_with fail;refine(Pa c _).mono ?_;rintro e w1⟨rfl,rfl⟩;rw[h1];go_wp2;go_ret;exact⟨rfl,rfl⟩
 |false=>go_enter Tryz.func181,Tryz.ntmps181;go_wp2_with fail;refine(Pa c _).mono ?_;rintro e w1⟨rfl,rfl⟩;rw[h1];go_wp2_with fail;refine(Ij c _).mono ?_;rintro e w1⟨rfl,rfl⟩;go_wp2;go_ret;exact⟨rfl,rfl⟩
def xi(i c:Nat):Bool:=if i<10 then zM c||zO c else if i=10 then decide (c=46)else DL c||zO c||decide (c=45)||decide (c=46)
theorem aa6(i c:Nat)(w:World)(hi:i≤1100000):Calls Tryz.prog 178 #[.int .i64 i,.int .u8 c] w fun e w'=>e=.returned (.bool (xi i c))∧w=w':=by
 unfold xi;by_cases h1:i<10
 ·rw[if_pos h1];have t1:decide ((i:Int)<10)=true:=decide_eq_true (by omega)
  cases hg:zM c with
  |true=>go_enter Tryz.func178,Tryz.ntmps178;go_wp2_with fail;refine(Ij c _).mono ?_;rintro e w1⟨rfl,rfl⟩;rw[hg];go_wp2;go_ret;exact⟨rfl,rfl⟩
  |false=>go_enter Tryz.func178,Tryz.ntmps178;go_wp2_with fail;refine(Ij c _).mono ?_;rintro e w1⟨rfl,rfl⟩;rw[hg];go_wp2_with fail;refine(Pb c _).mono ?_;rintro e w1⟨rfl,rfl⟩;go_wp2;go_ret;exact⟨rfl,rfl⟩
 ·rw[if_neg h1];have t1:decide ((i:Int)<10)=false:=decide_eq_false (by omega);by_cases h2:i=10
  ·rw[if_pos h2];have t2:((i:Int)==10)=true:=beq_iff_eq.2 (by omega);by_cases h3:c=46
   ·have t3:((c:Int)==46)=true:=beq_iff_eq.2 (by omega);rw[decide_eq_true h3];clear h1 h2 h3;go_enter Tryz.func178,Tryz.ntmps178;go_wp2;go_ret;exact⟨rfl,rfl⟩
   ·have t3:((c:Int)==46)=false:=beq_eq_false_iff_ne.2 (by omega);rw[decide_eq_false h3];clear h1 h2 h3;go_enter Tryz.func178,Tryz.ntmps178;go_wp2;go_ret;exact⟨rfl,rfl⟩
  ·rw[if_neg h2];have t2:((i:Int)==10)=false:=beq_eq_false_iff_ne.2 (by omega);have k3:∃b,decide (c=45)=b∧((c:Int)==45)=b:=⟨decide (c=45),rfl,by by_cases h:c=45<;>simp[h];omega⟩;have k4:∃b,decide (c=46)=b∧((c:Int)==46)=b:=⟨decide (c=46),rfl,by by_cases h:c=46<;>simp[h];omega⟩;obtain⟨b3,e3,t3⟩:=k3;obtain⟨b4,e4,t4⟩:=k4;rw[e3,e4];clear h1 h2 e3 e4
   cases hg:DL c with
   |true=>cases b3<;>cases b4;all_goals go_enter Tryz.func178,Tryz.ntmps178;go_wp2_with fail;refine(Pd c _).mono ?_;rintro e w1⟨rfl,rfl⟩;rw[hg];go_wp2;go_ret;exact⟨rfl,rfl⟩
   |false=>cases hd:zO c<;>cases b3<;>cases b4;all_goals go_enter Tryz.func178,Tryz.ntmps178;go_wp2_with fail;refine(Pd c _).mono ?_;rintro e w1⟨rfl,rfl⟩;rw[hg];go_wp2_with fail;refine(Pb c _).mono ?_;rintro e w1⟨rfl,rfl⟩;rw[hd];go_wp2;go_ret;exact⟨rfl,rfl⟩
theorem aa7{P:Program}{k:FuncId}{fn:Func}{c:Code}(hf:P.funcs[k]?=some fn)(hn:(fn.name== "runtime.NumGoroutine")=false)(hb:fn.body=some c)(args:Array Value)(w:World):(callFunc k args).run P w=.ok (.enter k args) w:=by have wL:=beq_eq_false_iff_ne.1 hn;simp[callFunc,hf,wL,hb]
theorem aa8:Fits 178 xi:=⟨aa7 Tryz.func178 (by kernel_rfl) rfl,fun i c w hi _=>aa6 i c w hi⟩
def lv(s:ByteArray):List (Int×Int):=rG s 166 xi (decide (11<s.size))
end Go.Proofs.YtcaiibkgajhohaaGreatDoor
