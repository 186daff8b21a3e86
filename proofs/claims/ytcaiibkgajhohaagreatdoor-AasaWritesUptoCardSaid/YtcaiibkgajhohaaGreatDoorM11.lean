/- waybill: lemmas and walks, printed from longer texts. -/
import Derived.Test.YtcaiibkgajhohaaGreatDoorM10
import Derived.Deep.RegionLaw
set_option maxRecDepth 100000
set_option maxHeartbeats 16000000
namespace Go.Proofs.YtcaiibkgajhohaaGreatDoor
open Go.RowKit
theorem GV:(Tryz.prog.info? 228).map (fun i=>(i.zero,i.size,i.bytes))=some (some (.agg #[.int .i64 0,.string ⟨#[]⟩,.string ⟨#[]⟩,.int .i64 0,.int .i64 0,.int .i64 0,.int .i64 0,.int .i64 0,.int .i64 0,.int .i64 0]),10,96):=by kernel_rfl
def ru(B:Nat)(v:Value)(ns:List aW)(most:Int)(w:World)(e:Ending)(w':World)(n:Nat):Prop:=∃v',e=.returned (.tuple #[.int .i64 n,.nilIface])∧bJ w' B v' ns most∧ag (TB B v) w w'∧(∀g,v'.ownBlock=some g→v.ownBlock=some g∨w.heap.size≤g)
theorem ru.up{B:Nat}{v:Value}{ns:List aW}{most:Int}{w0 w w':World}{e:Ending}{n:Nat}(hO:ag (TB B v) w0 w)(h:ru B v ns most w e w' n):ru B v ns most w0 e w' n:=by obtain⟨v',he,ht,ho,hg⟩:=h;exact⟨v',he,ht,hO.trans ho,fun g oL=>(hg g oL).imp id (fun h=>Nat.le_trans hO.size h)⟩
theorem GW{w W3 Wx w5:World}{B g' n cap':Nat}{v:Value}{rv:List aW}{new:aW}{most:Int}(h3:bJ W3 B v rv most)(o3:ag (TB B v) w W3)(hn:rv.length=n)(hz:w.heap.size≤W3.heap.size)(hx:Below W3.heap.size W3 Wx)(cZ:Wx.grownBy w5 v.ownBlock)(sR:w5.ownsRow (B+1) 228 10 (.slice (some ⟨g',0,none⟩) (n+1) cap') (n+1) (rv.flatMap jd++jd new))(cf:v.ownBlock=some g'∨g'=W3.heap.size+1):ru B v (rv++[new]) most w (.returned (.tuple #[.int .i64 n,.nilIface])) (w5.setCell ⟨B,0,none⟩ (.slice (some ⟨g',0,none⟩) (n+1) cap')) n:=by
 subst hn;have zi:=h3.lt;have oL:=(sR.lt g' rfl).1;have GX:w5.heap[B]?=some (.cells #[v,.int .i64 most] 172 (0,0)):=by rw[cZ.block B (by have:=hx.size;omega) (fun e=>by have:=(h3.own.lt B e.symm).1;omega),hx.block B zi];exact h3.box
 refine⟨.slice (some ⟨g',0,none⟩) (rv.length+1) cap',rfl,⟨?_,?_⟩,?_,?_⟩
 ·rw[heap_setCell_same _ _ _ _ _ _ GX];simp
 ·have h5:(w5.setCell ⟨B,0,none⟩ (.slice (some ⟨g',0,none⟩) (rv.length+1) cap')).ownsRow (B+1) 228 10 (.slice (some ⟨g',0,none⟩) (rv.length+1) cap') (rv.length+1) (rv.flatMap jd++jd new):=bu sR (fun k hk=>by(have:k=g':=by simpa[Value.ownBlock]using hk.symm);subst this;exact Below.heap_setCell _ _ _ _ (show k≠B by omega)) (Nat.le_refl _);simpa using h5
 ·exact((o3.trans (.of hx)).grown cZ (fun k hk _=>.inr hk)).set (fun _=>.inl rfl) _
 ·intro k hk;have:k=g':=by simpa[Value.ownBlock]using hk.symm
  subst this;rcases cf with h|h
  ·exact .inl h
  ·right;omega
theorem Zu(B:Nat)(v:Value)(ns:List aW)(aa:List Nat)(most:Int)(u:Nat)(x:JN)(w0:World)(zj:bJ w0 B v ns most)(hg:p4 ns aa)(hw:dL aa)(hu:u<aa.length)(sS:ns.length<most)(hm:ns.length≤1100000):Calls Tryz.prog 123 #[.pointer (some ⟨B,0,none⟩),.int .i64 u,.agg #[.int .i64 x.kind,.string x.key,.string x.text,.int .i64 x.at_]] w0 fun e w'=>ru B v (addN ns u x.val) most w0 e w' ns.length:=by
 obtain⟨w,dp⟩:∃W,w0.alloc (.cells #[.int .i64 x.kind,.string x.key,.string x.text,.int .i64 x.at_] 117)=W:=⟨_,rfl⟩;have h:bJ w B v ns most:=zj.below (by rw[←dp];exact aj (Below.refl _ _) _);have bx:∀o,w.cell? ⟨w0.heap.size,o,none⟩=(#[.int .i64 x.kind,.string x.key,.string x.text,.int .i64 x.at_]:Array Value)[o]?:=fun o=>by rw[←dp];simp
 have Da:Hid (ag (TB B v) w0 w):=Lib.hid (by rw[←dp];exact(ag.refl _ _).alloc _);clear zj;have hlen:=hg.len;have HH:=Lib.hid (zg B v ns most u w h);obtain⟨g,cap,rfl,Zv,NJ⟩:=h.GR (by omega);have c0:=h.cell0;have c1:=h.cell1;have eZ:=h.lt;obtain⟨a,ha⟩:=bN ns u (by omega);have hd:=NI hg hw u a ha;have hc:=hg.count u a ha;have dg:=zh aa u;rw[←hlen]at dg;have t:decide (0≤(u:Int)∧(u:Int)<(ns.length:Int))=true:=decide_eq_true (by omega)
 have t2:decide (most≤(ns.length:Int))=false:=decide_eq_false (by omega);have t3:decide (0<(ns.length:Int))=true:=decide_eq_true (by omega);have n5:=h.n5 ha;obtain⟨W0,dU⟩:∃W,w.alloc (.cells #[.int .i64 x.kind,.string x.key,.string x.text,.int .i64 x.at_,.int .i64 u,.int .i64 (-1),.int .i64 (-1),.int .i64 (-1),.int .i64 (a.deep+1),.int .i64 0] 228)=W:=⟨_,rfl⟩
 have h0:bJ W0 B (.slice (some ⟨g,0,none⟩) ns.length cap) ns most:=h.below (by rw[←dU];exact aj (Below.refl _ _) _);have d0:∀o,W0.cell? ⟨w.heap.size,o,none⟩=#[.int .i64 x.kind,.string x.key,.string x.text,.int .i64 x.at_,.int .i64 u,.int .i64 (-1),.int .i64 (-1),.int .i64 (-1),.int .i64 (a.deep+1),.int .i64 0][o]?:=fun o=>by rw[←dU];simp
 have z0:W0.heap.size=w.heap.size+1:=by rw[←dU];simp
 have o0:ag (TB B (.slice (some ⟨g,0,none⟩) ns.length cap)) w W0:=by rw[←dU];exact(ag.refl _ _).alloc _
 have k3:=h0.n3 ha;have e0:=h0.cell0;have wU:=(List.getElem?_eq_some_iff.1 ha).1;have hne:g≠w.heap.size:=by omega
 have k0:∀j,TB B (.slice (some ⟨g,0,none⟩) ns.length cap) (⟨g,j,none⟩:Addr).block:=fun j=>.inr rfl;rcases Zr hw u with hl|⟨l,hl,hlu,hul⟩
 ·rw[←hg.last u a ha]at hl;rw[hl]at k3;obtain⟨W1,aH⟩:∃W,W0.setCell ⟨g,u*10+5,none⟩ (.int .i64 ns.length)=W:=⟨_,rfl⟩;obtain⟨W2,dq⟩:∃W,W1.setCell ⟨g,u*10+6,none⟩ (.int .i64 ns.length)=W:=⟨_,rfl⟩;obtain⟨W3,bY⟩:∃W,W2.setCell ⟨g,u*10+9,none⟩ (.int .i64 (a.count+1))=W:=⟨_,rfl⟩;have h1:=h0.set rfl (j:=5) (b:={a with first:=ns.length}) (x:=.int .i64 ns.length) ha (by decide) (wW _ _ 1 _ rfl rfl)
  have u2:(ns.set u {a with first:=ns.length})[u]?=some {a with first:=ns.length}:=List.getElem?_set_self wU;rw[aH]at h1;have h2:=h1.set (by simp) (j:=6) (b:={a with first:=ns.length,last:=ns.length}) (x:=.int .i64 ns.length) u2 (by decide) (wW _ _ 2 _ rfl rfl);have u3:((ns.set u {a with first:=ns.length}).set u {a with first:=ns.length,last:=ns.length})[u]?=some {a with first:=ns.length,last:=ns.length}:=List.getElem?_set_self (by simpa using wU);rw[dq]at h2
  have h3:=h2.set (by simp) (j:=9) (b:={a with first:=ns.length,last:=ns.length,count:=a.count+1}) (x:=.int .i64 (a.count+1)) u3 (by decide) (wW _ _ 5 _ rfl rfl);rw[bY]at h3;have q0:W0.cell? ⟨g,u*10+5,none⟩=some (.int .i64 a.first):=h0.n2 ha;have f0:=h0.frozen rfl (u*10+5);have q1:W1.cell? ⟨g,u*10+6,none⟩=some (.int .i64 a.last):=(h1.nd (by simp) u2 6 (by decide)).trans (p8 _ 2);have f1:=h1.frozen (by simp) (u*10+6)
  have q2:W2.cell? ⟨g,u*10+9,none⟩=some (.int .i64 a.count):=(h2.nd (by simp) u3 9 (by decide)).trans (p8 _ 5);have f2:=h2.frozen (by simp) (u*10+9);have e3:=h3.cell0;have fB:=h3.GS 0
  have d3:∀o,W3.cell? ⟨w.heap.size,o,none⟩=#[.int .i64 x.kind,.string x.key,.string x.text,.int .i64 x.at_,.int .i64 u,.int .i64 (-1),.int .i64 (-1),.int .i64 (-1),.int .i64 (a.deep+1),.int .i64 0][o]?:=fun o=>by rw[←bY,←dq,←aH,kl (Below.heap_setCell _ _ _ _ hne.symm),kl (Below.heap_setCell _ _ _ _ hne.symm),kl (Below.heap_setCell _ _ _ _ hne.symm)];exact d0 o
  have z3:W3.heap.size=w.heap.size+1:=by rw[←bY,←dq,←aH];simpa using z0
  have o3:ag (TB B (.slice (some ⟨g,0,none⟩) ns.length cap)) w W3:=by rw[←bY,←dq,←aH];exact((o0.set (fun _=>k0 _) _).set (fun _=>k0 _) _).set (fun _=>k0 _) _
  have ea:=Zs (v:=x.val) ha hl;rw[hc]at q2;have GY:=bY;rw[hc]at GY;have d_:=h3.own;simp only[List.length_set]at d_;have g_:=Lib.hid d_;clear d_;have y1:B<W3.heap.size:=by omega
  have y2:g<W3.heap.size:=by omega
  have zk:=Lib.hid z3;clear z3;have H3:=Lib.hid h3;have O3:=Lib.hid o3;have EA:=Lib.hid ea;have Zw:=Lib.hid d0;clear h h0 h1 h2 h3 o3 ea d0 o0 hg hw ha u2 u3 hc k0 bY hlen;go_enter Tryz.func123,Tryz.ntmps123;go_wp2_with fail;clear dp;refine HH.out.mono ?_;rintro e w1⟨rfl,rfl⟩;rw[t];clear t;go_wp2_with fail;obtain⟨i0,dw,bT,bW,bA⟩:=info_parts GV
  go_region_law(
   (
    refine step_append_lies _ (by rfl) _ _ _ (by rfl) (B+1) 228 i0 _ 10 96 Tryz.underlying170 dw bT bW bA rfl (by omega) (.slice (some ⟨g,0,none⟩) ns.length cap) ns.length _ (by rfl) (by first|exact g_.out.alloc _|exact(g_.out.alloc _).drew|exact g_.out.drew.alloc _) ⟨W3.heap.size,0,none⟩ 1 1 [.int .i64 x.kind,.string x.key,.string x.text,.int .i64 x.at_,.int .i64 u,.int .i64 (-1),.int .i64 (-1),.int .i64 (-1),.int .i64 (a.deep+1),.int .i64 0] (by rfl) (by rfl) (World.news_of_block (cs:=#[.int .i64 x.kind,.string x.key,.string x.text,.int .i64 x.at_,.int .i64 u,.int .i64 (-1),.int .i64 (-1),.int .i64 (-1),.int .i64 (a.deep+1),.int .i64 0]) (t:=228) (fr:=(0,0)) (heap_alloc_new W3 _)) (by simp[Value.oneCell']) (by omega) (by simp[maxLen];omega) (by omega) (by simp;omega) (W3.heap.size+1) (by simp) ?_
    intro g' cap' w5 sR cZ cf hlt;have b5:=cZ.cell_far (a:=⟨B,0,none⟩) (by simp;omega) (by simp[Value.ownBlock];omega);have c5:=cZ.frozen_far (a:=⟨B,0,none⟩) (by simp;omega) (by simp[Value.ownBlock];omega)))
  all_goals go_wp2
  all_goals go_ret2
  all_goals rw[EA.out];exact ru.up Da.out<|GW H3.out O3.out (by simp) (by have:=zk.out;omega) (by first|exact aj (Below.refl _ _) _|exact⟨rfl,rfl,rfl,by simp,fun k hk=>Below.heap_alloc W3 _ k hk⟩) cZ sR cf
 ·rw[←hg.last u a ha]at hl;rw[hl]at k3;obtain⟨b,hb⟩:=bN ns l (by omega);have ajz:l<ns.length:=by omega
  have tl:((l:Int)==-1)=false:=beq_eq_false_iff_ne.2 (by omega);obtain⟨W1,aH⟩:∃W,W0.drew.setCell ⟨g,l*10+7,none⟩ (.int .i64 ns.length)=W:=⟨_,rfl⟩;obtain⟨W2,dq⟩:∃W,W1.setCell ⟨g,u*10+6,none⟩ (.int .i64 ns.length)=W:=⟨_,rfl⟩;obtain⟨W3,bY⟩:∃W,W2.setCell ⟨g,u*10+9,none⟩ (.int .i64 (a.count+1))=W:=⟨_,rfl⟩;have Zx:bJ W0.drew B (.slice (some ⟨g,0,none⟩) ns.length cap) ns most:=⟨h0.box,h0.own.drew⟩
  have h1:=Zx.set rfl (j:=7) (b:={b with next:=ns.length}) (x:=.int .i64 ns.length) hb (by decide) (wW _ _ 3 _ rfl rfl);have u2:(ns.set l {b with next:=ns.length})[u]?=some a:=by rw[List.getElem?_set_ne (by omega)];exact ha
  rw[aH]at h1;have h2:=h1.set (by simp) (j:=6) (b:={a with last:=ns.length}) (x:=.int .i64 ns.length) u2 (by decide) (wW _ _ 2 _ rfl rfl);have u3:((ns.set l {b with next:=ns.length}).set u {a with last:=ns.length})[u]?=some {a with last:=ns.length}:=List.getElem?_set_self (by simpa using wU);rw[dq]at h2;have h3:=h2.set (by simp) (j:=9) (b:={a with last:=ns.length,count:=a.count+1}) (x:=.int .i64 (a.count+1)) u3 (by decide) (wW _ _ 5 _ rfl rfl);rw[bY]at h3
  have q0:W0.cell? ⟨g,l*10+7,none⟩=some (.int .i64 b.next):=h0.n4 hb;have f0:=h0.frozen rfl (l*10+7);have q1:W1.cell? ⟨g,u*10+6,none⟩=some (.int .i64 a.last):=(h1.nd (by simp) u2 6 (by decide)).trans (p8 _ 2);have f1:=h1.frozen (by simp) (u*10+6);have q2:W2.cell? ⟨g,u*10+9,none⟩=some (.int .i64 a.count):=(h2.nd (by simp) u3 9 (by decide)).trans (p8 _ 5);have f2:=h2.frozen (by simp) (u*10+9);have e3:=h3.cell0;have fB:=h3.GS 0
  have d3:∀o,W3.cell? ⟨w.heap.size,o,none⟩=#[.int .i64 x.kind,.string x.key,.string x.text,.int .i64 x.at_,.int .i64 u,.int .i64 (-1),.int .i64 (-1),.int .i64 (-1),.int .i64 (a.deep+1),.int .i64 0][o]?:=fun o=>by rw[←bY,←dq,←aH,kl (Below.heap_setCell _ _ _ _ hne.symm),kl (Below.heap_setCell _ _ _ _ hne.symm),kl (Below.heap_setCell _ _ _ _ hne.symm)];exact d0 o
  have z3:W3.heap.size=w.heap.size+1:=by rw[←bY,←dq,←aH];simpa using z0
  have o3:ag (TB B (.slice (some ⟨g,0,none⟩) ns.length cap)) w W3:=by rw[←bY,←dq,←aH];exact(((o0.trans (.of ⟨rfl,rfl,rfl,Nat.le_refl _,fun _ _=>rfl⟩:ag _ W0 W0.drew)).set (fun _=>k0 _) _).set (fun _=>k0 _) _).set (fun _=>k0 _) _
  have ea:=Zt (v:=x.val) ha hl hb (by omega);rw[hc]at q2;have GY:=bY;rw[hc]at GY;have d_:=h3.own;simp only[List.length_set]at d_;have g_:=Lib.hid d_;clear d_;have y1:B<W3.heap.size:=by omega
  have y2:g<W3.heap.size:=by omega
  have zk:=Lib.hid z3;clear z3;have H3:=Lib.hid h3;have O3:=Lib.hid o3;have EA:=Lib.hid ea;have Zw:=Lib.hid d0;clear h h0 h1 h2 h3 o3 ea d0 o0 hg hw ha u2 u3 hc k0 bY hlen;go_enter Tryz.func123,Tryz.ntmps123;go_wp2_with fail;clear dp;refine HH.out.mono ?_;rintro e w1⟨rfl,rfl⟩;rw[t];clear t;go_wp2_with fail;go_region;go_wp2_with fail;obtain⟨i0,dw,bT,bW,bA⟩:=info_parts GV
  go_region_law(
   (
    refine step_append_lies _ (by rfl) _ _ _ (by rfl) (B+1) 228 i0 _ 10 96 Tryz.underlying170 dw bT bW bA rfl (by omega) (.slice (some ⟨g,0,none⟩) ns.length cap) ns.length _ (by rfl) (by first|exact g_.out.alloc _|exact(g_.out.alloc _).drew|exact g_.out.drew.alloc _) ⟨W3.heap.size,0,none⟩ 1 1 [.int .i64 x.kind,.string x.key,.string x.text,.int .i64 x.at_,.int .i64 u,.int .i64 (-1),.int .i64 (-1),.int .i64 (-1),.int .i64 (a.deep+1),.int .i64 0] (by rfl) (by rfl) (World.news_of_block (cs:=#[.int .i64 x.kind,.string x.key,.string x.text,.int .i64 x.at_,.int .i64 u,.int .i64 (-1),.int .i64 (-1),.int .i64 (-1),.int .i64 (a.deep+1),.int .i64 0]) (t:=228) (fr:=(0,0)) (heap_alloc_new W3 _)) (by simp[Value.oneCell']) (by omega) (by simp[maxLen];omega) (by omega) (by simp;omega) (W3.heap.size+1) (by simp) ?_
    intro g' cap' w5 sR cZ cf hlt;have b5:=cZ.cell_far (a:=⟨B,0,none⟩) (by simp;omega) (by simp[Value.ownBlock];omega);have c5:=cZ.frozen_far (a:=⟨B,0,none⟩) (by simp;omega) (by simp[Value.ownBlock];omega)))
  all_goals go_wp2
  all_goals go_ret2
  all_goals rw[EA.out];exact ru.up Da.out<|GW H3.out O3.out (by simp) (by have:=zk.out;omega) (by first|exact aj (Below.refl _ _) _|exact⟨rfl,rfl,rfl,by simp,fun k hk=>Below.heap_alloc W3 _ k hk⟩) cZ sR cf
theorem Zy(m:Int)(w:World):Calls Tryz.prog 48 #[.int .i64 m] w fun e w'=>e=.returned (.pointer (some ⟨w.heap.size,0,none⟩))∧w'=w.alloc (.cells #[.slice none 0 0,.int .i64 m] 172):=by go_enter Tryz.func48,Tryz.ntmps48;go_wp2;go_ret;exact⟨rfl,rfl⟩
theorem bJ.new(m:Int)(w:World):bJ (w.alloc (.cells #[.slice none 0 0,.int .i64 m] 172)) w.heap.size (.slice none 0 0) [] m:=⟨heap_alloc_new w _,World.ownsRow_nil _ _ _ _⟩
theorem Zz(B:Nat)(most:Int)(x:JN)(w0:World)(zj:bJ w0 B (.slice none 0 0) [] most)(sS:0<most):Calls Tryz.prog 123 #[.pointer (some ⟨B,0,none⟩),.int .i64 (-1),.agg #[.int .i64 x.kind,.string x.key,.string x.text,.int .i64 x.at_]] w0 fun e w'=>ru B (.slice none 0 0) [root x.val] most w0 e w' 0:=by
 obtain⟨w,dp⟩:∃W,w0.alloc (.cells #[.int .i64 x.kind,.string x.key,.string x.text,.int .i64 x.at_] 117)=W:=⟨_,rfl⟩;have h:bJ w B (.slice none 0 0) [] most:=zj.below (by rw[←dp];exact aj (Below.refl _ _) _);have bx:∀o,w.cell? ⟨w0.heap.size,o,none⟩=(#[.int .i64 x.kind,.string x.key,.string x.text,.int .i64 x.at_]:Array Value)[o]?:=fun o=>by rw[←dp];simp
 have Da:Hid (ag (TB B (.slice none 0 0)) w0 w):=Lib.hid (by rw[←dp];exact(ag.refl _ _).alloc _);clear zj;have HH:=Lib.hid (zg B _ [] most (-1) w h);have c0:=h.cell0;have c1:=h.cell1;have eZ:=h.lt;have t2:decide (most≤(0:Int))=false:=decide_eq_false (by omega);obtain⟨W3,bY⟩:∃W,w.alloc (.cells #[.int .i64 x.kind,.string x.key,.string x.text,.int .i64 x.at_,.int .i64 (-1),.int .i64 (-1),.int .i64 (-1),.int .i64 (-1),.int .i64 0,.int .i64 0] 228)=W:=⟨_,rfl⟩
 have h3:bJ W3 B (.slice none 0 0) [] most:=h.below (by rw[←bY];exact aj (Below.refl _ _) _);have d3:∀o,W3.cell? ⟨w.heap.size,o,none⟩=#[.int .i64 x.kind,.string x.key,.string x.text,.int .i64 x.at_,.int .i64 (-1),.int .i64 (-1),.int .i64 (-1),.int .i64 (-1),.int .i64 0,.int .i64 0][o]?:=fun o=>by rw[←bY];simp
 have z3:W3.heap.size=w.heap.size+1:=by rw[←bY];simp
 have o3:ag (TB B (.slice none 0 0)) w W3:=by rw[←bY];exact(ag.refl _ _).alloc _
 have e3:=h3.cell0;have fB:=h3.GS 0;have y1:B<W3.heap.size:=by omega
 have zk:=Lib.hid z3;clear z3;have g_:=Lib.hid h3.own;have H3:=Lib.hid h3;have O3:=Lib.hid o3;clear h h3 o3;subst bY;have ZA:=Lib.hid d3;clear d3;go_enter Tryz.func123,Tryz.ntmps123;go_wp2_with fail;clear dp;refine HH.out.mono ?_;rintro e w1⟨rfl,rfl⟩;rw[show decide ((0:Int)≤-1∧(-1:Int)<(([]:List aW).length:Int))=false from rfl];go_wp2_with fail
 generalize(w.alloc (.cells #[.int .i64 x.kind,.string x.key,.string x.text,.int .i64 x.at_,.int .i64 (-1),.int .i64 (-1),.int .i64 (-1),.int .i64 (-1),.int .i64 0,.int .i64 0] 228))=W3 at*;have d3:=ZA.out;obtain⟨i0,dw,bT,bW,bA⟩:=info_parts GV
 go_region_law(
  (
   refine step_append_lies _ (by rfl) _ _ _ (by rfl) (B+1) 228 i0 _ 10 96 Tryz.underlying170 dw bT bW bA rfl (by omega) (.slice none 0 0) 0 _ (by rfl) (by first|exact g_.out.alloc _|exact(g_.out.alloc _).drew|exact g_.out.drew.alloc _) ⟨W3.heap.size,0,none⟩ 1 1 [.int .i64 x.kind,.string x.key,.string x.text,.int .i64 x.at_,.int .i64 (-1),.int .i64 (-1),.int .i64 (-1),.int .i64 (-1),.int .i64 0,.int .i64 0] (by rfl) (by rfl) (World.news_of_block (cs:=#[.int .i64 x.kind,.string x.key,.string x.text,.int .i64 x.at_,.int .i64 (-1),.int .i64 (-1),.int .i64 (-1),.int .i64 (-1),.int .i64 0,.int .i64 0]) (t:=228) (fr:=(0,0)) (heap_alloc_new W3 _)) (by simp[Value.oneCell']) (by omega) (by simp[maxLen]) (by omega) (by simp;omega) (W3.heap.size+1) (by simp) ?_
   intro g' cap' w5 sR cZ cf hlt;have b5:=cZ.cell_far (a:=⟨B,0,none⟩) (by simp;omega) (by simp[Value.ownBlock]);have c5:=cZ.frozen_far (a:=⟨B,0,none⟩) (by simp;omega) (by simp[Value.ownBlock])))
 all_goals go_wp2
 all_goals go_ret2
 all_goals exact ru.up Da.out<|GW (new:=root x.val) H3.out O3.out rfl (by have:=zk.out;omega) (by first|exact aj (Below.refl _ _) _|exact⟨rfl,rfl,rfl,by simp,fun k hk=>Below.heap_alloc W3 _ k hk⟩) cZ sR cf
theorem ZS(n:Int)(w:World):Calls Tryz.prog 175 #[.int .i64 n] w fun e w'=>e=.returned (.bool (dv n))∧w=w':=by
 cases h1:decide ((0:Int)≤n)with
 |false=>have HE:Hid (dv n=false):=Lib.hid (by unfold dv;rw[h1];rfl);go_enter Tryz.func175,Tryz.ntmps175;go_wp2;go_ret;exact⟨by rw[HE.out];rfl,rfl⟩
 |true=>
  cases h2:decide (n≤1114111)with
  |false=>have HE:Hid (dv n=false):=Lib.hid (by(have:decide (n<1114112)=false:=by simp at h2⊢;omega);unfold dv;rw[h1,this];rfl);go_enter Tryz.func175,Tryz.ntmps175;go_wp2;go_ret;exact⟨by rw[HE.out];rfl,rfl⟩
  |true=>have HE:Hid (dv n=(cY n==0)):=Lib.hid (by(have:decide (n<1114112)=true:=by simp at h2⊢;omega);unfold dv;rw[h1,this];rfl);go_enter Tryz.func175,Tryz.ntmps175;go_wp2_with fail;refine(wN n w).mono ?_;rintro e w'⟨rfl,rfl⟩;go_wp2;go_ret;exact⟨by rw[HE.out];rfl,rfl⟩
theorem Rd.oT{S:Nat→Prop}{w:World}{v:Value}{acc:List Nat}(h:Rd S w v (oO acc)):∃a c,v=.slice a acc.length c∧(a=none→acc.length=0∧c=0)∧acc.length≤c∧(0<acc.length→∃b off,a=some ⟨b,off,none⟩∧S b∧∀j(hj:j<acc.length),w.cell? ⟨b,off+j,none⟩=some (.int .i64 (acc[j]:Nat))):=by obtain⟨a,n,c,rfl,hl,fh,gG,h⟩:=h.jT;simp only[List.length_map,Nat.mul_one]at hl;subst hl;refine⟨a,c,rfl,fh,gG,fun h0=>?_⟩;obtain⟨b,off,rfl,hS,hc⟩:=h h0;refine⟨b,off,rfl,hS,fun j hj=>?_⟩;obtain⟨u,hu,hr⟩:=hc j (by simpa using hj);rw[List.getElem_map]at hr;rw[hu,hr.rf]
def uT(acc:List Nat)(w:World)(o i:Value)(wr:World):Prop:=∃j:Nat,i=.int .i64 j∧j≤acc.length∧wr.ownsRow w.heap.size 5 1 o (strOf (acc.take j)).size (jb (strOf (acc.take j)))∧Below w.heap.size w wr
theorem uT.step{acc:List Nat}{w w2:World}{v2:Value}{j:Nat}(ha:gJ acc)(hj:j<acc.length)(ho:w2.ownsRow w.heap.size 5 1 v2 ((strOf (acc.take j)).size+(rm acc[j]).length) (jb (strOf (acc.take j))++rm acc[j]))(hb:Below w.heap.size w w2):uT acc w v2 (.int .i64 (j+1)) w2:=by refine⟨j+1,by go_num,hj,?_,hb⟩;have e:=Y0 (ha.take j) (ha.get hj);rw[←Y2 hj]at e;have el:=congrArg List.length e;rw[List.length_append,Nk,Nk]at el;rw[e,el];exact ho
def NV(acc:List Nat)(w:World)(r:Value)(e:Ending)(w':World):Prop:=∃o,e=.returned (.tuple #[o,r])∧Rd (Own w') w' o (dF (strOf acc))∧Below w.heap.size w w'
theorem uT.fin{acc:List Nat}{w wr:World}{o i:Value}(h:uT acc w o i wr)(hi:i=.int .i64 acc.length)(r:Value):NV acc w r (.returned (.tuple #[o,r])) wr:=by obtain⟨j,rfl,hj,ho,hb⟩:=h;cases hi;refine⟨o,rfl,?_,hb⟩;rw[List.take_of_length_le (Nat.le_refl _)]at ho;rw[YX];exact mY ho (YY _) (fun g hg=>(ho.lt g hg).2)
theorem ZT(v:Value)(acc:List Nat)(w:World)(h:Rd (Own w) w v (oO acc))(ha:gJ acc)(hl:acc.length≤1100000):Calls Tryz.prog 157 #[v] w (NV acc w .nilIface):=by
 obtain⟨a,c,rfl,_,_,_⟩:=h.oT;have H:=Lib.hid h;have HA:=Lib.hid ha;clear h ha;go_enter Tryz.func157,Tryz.ntmps157;go_wp2_with fail;go_loopw[4,9](uT acc w)(fun _ i _=>acc.length-(intOf i).toNat);case atStart=>exact⟨0,rfl,Nat.zero_le _,World.ownsRow_nil _ _ _ _,Below.refl _ _⟩
 case round=>
  obtain⟨j,rfl,hj,ho,hb⟩:=hrel;obtain⟨ao,cap,rfl,_⟩:=aM ho;have hsz:=C9 (acc.take j);rw[List.length_take]at hsz;have HO:=Lib.hid ho;have HB:=Lib.hid hb;by_cases hlt:j<acc.length
  ·have t1:decide ((j:Int)<(acc.length:Int))=true:=decide_eq_true (by omega);have aT:decide (j<acc.length)=true:=decide_eq_true hlt;obtain⟨a',c',e1,_,_,hc⟩:=(H.out.ext hb).oT;cases e1;obtain⟨b,off,rfl,_,x0⟩:=hc (by omega);have x1:=x0 j hlt;have hrt:=HA.out.get hlt;have cM:=Lib.hid (fun v2 w2=>uT.step (w:=w) (w2:=w2) (v2:=v2) HA.out hlt);have NY:=YZ hrt;have dg:=C6 hrt;have Dg:=ZS (acc[j]:Nat) wr;rw[hrt]at Dg
   have Dh:=Tryz.utf8_AppendRune_plain w.heap.size _ _ _ ((acc[j]:Nat):Int) (by omega) (by omega) wr ho (by omega) hb.size;rw[NY]at Dh;generalize acc[j]=ch at*;have Dg:=Lib.hid Dg;have Dh:=Lib.hid Dh;clear x0 hc ho hb hrt NY;go_wp2_with fail;refine Dg.out.mono ?_;rintro e w1⟨rfl,rfl⟩;go_wp2_with fail;refine Dh.out.mono ?_;rintro e w1⟨v2,rfl,aE,ob,hg⟩;have R:=cM.out v2 w1 aE (Wr (aj HB.out ob) (HO.out.alloc ob) hg (by have:=HB.out.size;simp;omega) (Nat.le_refl _));have HR:=Lib.hid R;clear R aE hg;go_wp2
   refine⟨?_,by simp[intOf]<;>omega⟩;have R:=HR.out;first|exact R|((repeat apply Exists.intro);exact⟨R,rfl⟩)
  ·have t1:decide ((j:Int)<(acc.length:Int))=false:=decide_eq_false (by omega);have aT:decide (j<acc.length)=false:=decide_eq_false hlt;obtain rfl:j=acc.length:=by omega
   have HF:=Lib.hid (uT.fin (i:=.int .i64 acc.length) ⟨acc.length,rfl,hj,HO.out,HB.out⟩ rfl .nilIface);clear ho hb hlt;go_wp2;go_ret2;exact HF.out
structure lj(v:Value)(B:ByteArray)(w:World)(L:Nat)(acc:List Nat)(W:World):Prop where
 reads:Rd (Own w) w v (dF B)
 env:gI w
 lt:w.heap.size≤L
 row:∃o,W.heap[L]?=some (.cells #[o] 106 (0,0))∧W.ownsRow (L+1) 3 1 o acc.length (lZ acc)
 below:Below w.heap.size w W
theorem lj.ext{v:Value}{B:ByteArray}{w W W':World}{L:Nat}{acc:List Nat}(h:lj v B w L acc W)(hb:Below W.heap.size W W'):lj v B w L acc W':=by obtain⟨o,h1,h2⟩:=h.row;have hL:L<W.heap.size:=(Array.getElem?_eq_some_iff.1 h1).1;exact⟨h.reads,h.env,h.lt,⟨o,by rw[hb.block L hL];exact h1,bu h2 (fun g hg=>hb.block g (h2.lt g hg).2) (Nat.le_refl _)⟩,aF h.below hb⟩
theorem lj.Z4(v:Value)(B:ByteArray)(w:World)(L:Nat):Gs v B (lj v B w L):=⟨fun _ _ h=>h.reads.ext h.below,fun _ _ h=>(h.env.ext h.below).wP,fun _ _ _ h hb=>h.ext hb⟩
theorem Z5(v:Value)(B:ByteArray)(w:World)(L:Nat)(acc:List Nat)(c:Nat)(W:World)(hl:acc.length≤1100000)(h:lj v B w L acc W):Calls Tryz.prog 156 #[.int .i64 c,.pointer (some ⟨L,0,none⟩)] W fun e W'=>e=.returned (.tuple #[])∧lj v B w L (acc++[c]) W':=by
 obtain⟨o,h1,h2⟩:=h.row;have hL:L<W.heap.size:=(Array.getElem?_eq_some_iff.1 h1).1;have hc:W.cell? ⟨L,0,none⟩=some o:=by simp[World.cell?,h1]
 have hf:W.frozen? ⟨L,0,none⟩=false:=Go.Joins.unfrozen_of_block h1 0;obtain⟨ao,cap,rfl,_⟩:=aM h2;have H1:=Lib.hid h1;have H2:=Lib.hid h2;have H:=Lib.hid h;clear h1 h2 h;go_enter Tryz.func156,Tryz.ntmps156;go_wp2_with(at_builtin;refine iY W _ _ rfl _ _ 106 rfl (L+1) wT _ _ _ rfl H2.out rfl rfl ?c1 ?c2 ?c3 ?c4 ?_);case c1=>first|rfl|(intro u hu;simp at hu;subst hu;rfl)
 case c2=>simp[maxLen];omega
 case c3=>omega
 case c4=>exact hL
 intro v2 w2 aE aL;obtain⟨lg,p_,rfl,_⟩:=aM aE;have hne:∀g,(Value.slice ao acc.length cap).ownBlock=some g→L<g:=fun g hg=>(H2.out.lt g hg).1;have hblk:w2.heap[L]?=some (.cells #[.slice ao acc.length cap] 106 (0,0)):=by rw[aL.block L (by simp;omega) (fun e=>by have:=hne L e.symm;omega),Below.heap_alloc W _ L hL];exact H1.out
 have uQ:w2.cell? ⟨L,0,none⟩=some (.slice ao acc.length cap):=by simp[World.cell?,hblk]
 have sW:w2.frozen? ⟨L,0,none⟩=false:=Go.Joins.unfrozen_of_block hblk 0;have hst:(w2.setCell ⟨L,0,none⟩ (.slice lg (acc.length+1) p_)).heap[L]?=some (.cells #[.slice lg (acc.length+1) p_] 106 (0,0)):=by have:=Go.Joins.block_setCell hblk (i:=0) (.slice lg (acc.length+1) p_);simpa using this
 have R:lj v B w L (acc++[c]) (w2.setCell ⟨L,0,none⟩ (.slice lg (acc.length+1) p_)):=by
  refine⟨H.out.reads,H.out.env,H.out.lt,⟨_,hst,?_⟩,?_⟩
  ·have:=bu (w':=w2.setCell ⟨L,0,none⟩ (.slice lg (acc.length+1) p_)) aE (fun g hg=>Below.heap_setCell w2 ⟨L,0,none⟩ _ g (by have:=(aE.lt g hg).1;simp;omega)) (Nat.le_refl _);simpa[lZ]using this
  ·have hb:=H.out.below;have Gb:=H.out.lt;refine((aj hb _).grown aL (aj hb _).size (fun g hg=>?_)).setCell (by simp;omega) _;have:=hne g hg;omega
 have HR:=Lib.hid R;clear R hst aE aL hblk hne hc hf;go_wp2;go_end0;exact⟨rfl,HR.out⟩
theorem lj.ok(v:Value)(B:ByteArray)(w:World)(L:Nat):yW (lj v B w L) (.func (.func 156) #[] #[.pointer (some ⟨L,0,none⟩)]):=.fn L (fun acc c W hl hI _=>Z5 v B w L acc c W hl hI)
def N4(w:World)(r:Option ByteArray)(f:Int)(e:Ending)(w':World):Prop:=match r with
  |some s=>e=.returned (.tuple #[.string s,.nilIface])∧Below w.heap.size w w'
  |none=>∃u,e=.returned (.tuple #[.string ⟨#[]⟩,.iface 85 (.pointer (some u))])∧dK w 32 f (.iface 85 (.pointer (some u))) w'
theorem Z8{B:ByteArray}{t:Tok}{k:Nat}{p:Int}(h:b_ B t.fr=.no k p):fa B t=none:=by unfold fa;rw[h]
theorem Z_{B:ByteArray}{t x:Tok}(h:b_ B t.fr=.ok x)(hn:¬(x=t∧t.kind=7)):fa B t=none:=by unfold fa;rw[h];simp only;rw[if_neg hn]
theorem aaa{B:ByteArray}{t:Tok}{p:Nat}{y:List Nat×Nat}(h:b_ B t.fr=.ok t)(h7:t.kind=7)(hp:t.fr=p)(hy:jW B (p+1) []=.ok y):fa B t=some (strOf y.1):=by unfold fa;rw[h];simp only;rw[if_pos ⟨trivial,h7⟩,hp,Int.toNat_natCast,hy]
theorem aab{x t:Tok}(hn:¬(x=t∧t.kind=7)):(x.kind==t.kind)=false∨((x.kind==t.kind)=true∧(x.fr==t.fr)=false)∨((x.kind==t.kind)=true∧(x.fr==t.fr)=true∧(x.cK==t.cK)=false)∨(x=t∧(t.kind !=7)=true):=by
 by_cases h1:x.kind=t.kind
 ·by_cases h2:x.fr=t.fr
  ·by_cases h3:x.cK=t.cK
   ·have hx:x=t:=by cases x;cases t;simp_all
    exact .inr (.inr (.inr ⟨hx,bne_iff_ne.2 (fun h=>hn ⟨hx,h⟩)⟩))
   ·exact .inr (.inr (.inl ⟨beq_iff_eq.2 h1,beq_iff_eq.2 h2,beq_eq_false_iff_ne.2 h3⟩))
  ·exact .inr (.inl ⟨beq_iff_eq.2 h1,beq_eq_false_iff_ne.2 h2⟩)
 ·exact .inl (beq_eq_false_iff_ne.2 h1)
theorem aac(v:Value)(B:ByteArray)(t:Tok)(w:World)(h:Rd (Own w) w v (dF B))(he:gI w)(hz:B.size≤1100000):Calls Tryz.prog 122 #[v,.agg #[.int .i64 t.kind,.int .i64 t.fr,.int .i64 t.cK]] w (N4 w (fa B t) t.fr):=by
 have ar:∀o:Obj,Below w.heap.size w (w.alloc o):=fun o=>aj (Below.refl _ _) o;have N1:=Lib.hid (fun o:Obj=>N0 v B t.fr (w.alloc o) (h.ext (ar o)) (he.ext (ar o)) hz);have H:=Lib.hid h;have HE:=Lib.hid he;obtain⟨a,c,rfl,_,_,_⟩:=h.eY;clear h he ar
 cases hx:b_ B t.fr with
 |no k p=>
  have hT:=Z8 hx;rw[hx]at N1;rw[hT];clear hx hT;obtain⟨tk,tf,tt⟩:=t;go_enter Tryz.func122,Tryz.ntmps122;go_wp2_with fail;refine(N1.out _).mono ?_;rintro e w2⟨u,rfl,hf⟩;have er:=aK hf.2 (b:=w.heap.size) (by simp);have bA:w.heap.size<w2.heap.size:=by have:=hf.2.size;simp at this;omega
  have HB:=Lib.hid (aF (aj (Below.refl _ w) _) hf.2);clear hf;go_wp2_with fail;refine(fails 32 tf _).mono ?_;rintro e w3⟨u3,rfl,uV⟩;obtain⟨p3,rfl⟩:=uV.form;have HF:=Lib.hid (uV.after (aj HB.out _));clear uV;go_wp2;go_ret2;exact⟨_,rfl,HF.out⟩
 |ok x=>
  rw[hx]at N1;by_cases hn:x=t∧t.kind=7
  ·obtain⟨rfl,h7⟩:=hn;obtain⟨p,y,hp,hlt,hq,hy⟩:=Np hx h7;rw[aaa hx h7 hp hy];obtain⟨tk,tf,tt⟩:=x;simp only at h7 hp N1 hx;subst h7;subst hp;have HY:=Lib.hid hy;have q1:IntKind.i64.wrap ((p:Int)+1)=(p:Int)+1:=IntWalk.i64_in _ (by omega);clear hx hy;go_enter Tryz.func122,Tryz.ntmps122;go_wp2_with fail;refine(N1.out _).mono ?_;rintro e w2⟨rfl,ah⟩;simp only[G6];have er:=aK ah (b:=w.heap.size) (by simp);have bA:w.heap.size<w2.heap.size:=by have:=ah.size;simp at this;omega
   have HB:=Lib.hid (aF (aj (Below.refl _ w) _) ah);clear ah;obtain⟨W3,bY⟩:∃W,w2.alloc (.cells #[.int .i64 7,.int .i64 p,.int .i64 tt] 128)=W:=⟨_,rfl⟩;have lk:W3.heap.size=w2.heap.size+1:=by rw[←bY];simp
   have zi:Below w.heap.size w W3:=by rw[←bY];exact aj HB.out _
   have hI:lj (.slice a B.size c) B w W3.heap.size [] (W3.alloc (.cells #[.slice none 0 0] 106)):=⟨H.out,HE.out,by have:=zi.size;omega,⟨.slice none 0 0,by show(W3.heap.push _)[W3.heap.size]?=_;simp,World.ownsRow_nil _ _ _ _⟩,aj zi _⟩;obtain⟨L,hL⟩:∃L,w2.heap.size+1=L:=⟨_,rfl⟩;rw[lk,hL]at hI
   have hT:=M6 (.slice a B.size c) B (p+1) (lj (.slice a B.size c) B w L) (.func (.func 156) #[] #[.pointer (some ⟨L,0,none⟩)]) [] _ (lj.Z4 _ _ _ _) (lj.ok _ _ _ _) hI hz (by omega) (Nat.zero_le _);rw[HY.out,show(((p+1:Nat)):Int)=(p:Int)+1 by omega]at hT;have HT:=Lib.hid hT;have Dk:=Lib.hid bY;have HL:=Lib.hid hL;clear hI hT zi bY hL lk;go_wp2_with fail;rw[Dk.out,HL.out];refine HT.out.mono ?_;rintro e w4⟨rfl,hI⟩;obtain⟨o,ll,az⟩:=hI.row
   have hc4:w4.cell? ⟨L,0,none⟩=some o:=by simp[World.cell?,ll]
   obtain⟨ao,cap,rfl,_⟩:=aM az;have HU:=Lib.hid (ZT _ y.1 w4 (mY az (C8 y.1) (fun g hg=>(az.lt g hg).2)) (Nn HY.out) (by have:=GB (by omega) HY.out;omega));have dx:=Lib.hid hI.below;clear hI ll az HT Dk HL;go_wp2_with fail;refine HU.out.mono ?_;rintro e w5⟨o2,rfl,fC,bg⟩;have cv:=ZU fC;obtain⟨a2,c2,rfl,_,_,_⟩:=fC.eY;have HF:=Lib.hid (aF dx.out bg);clear fC bg HU;go_wp2;go_ret2;exact⟨rfl,HF.out⟩
  ·rw[Z_ hx hn];have hq:=aab hn;obtain⟨xk,xf,xt⟩:=x;obtain⟨tk,tf,tt⟩:=t;simp only at hq N1;clear hn hx;rcases hq with g1|⟨g1,g2⟩|⟨g1,g2,g3⟩|⟨g0,g1⟩;all_goals(try(injection g0 with e1 e2 e3;rw[e1,e2,e3]at N1;clear e1 e2 e3))
   all_goals go_enter Tryz.func122,Tryz.ntmps122;go_wp2_with fail;refine(N1.out _).mono ?_;rintro e w2⟨rfl,ah⟩;simp only[G6];have er:=aK ah (b:=w.heap.size) (by simp);(have bA:w.heap.size<w2.heap.size:=by have:=ah.size;simp at this;omega);have HB:=Lib.hid (aF (aj (Below.refl _ w) _) ah);clear ah;go_wp2_with fail;refine(fails 32 tf _).mono ?_;rintro e w3⟨u3,rfl,uV⟩;obtain⟨p3,rfl⟩:=uV.form;have HF:=Lib.hid (uV.after (aj HB.out _));clear uV;go_wp2;go_ret2;exact⟨_,rfl,HF.out⟩
end Go.Proofs.YtcaiibkgajhohaaGreatDoor
