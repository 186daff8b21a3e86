/- waybill: lemmas and walks, printed from longer texts. -/
import Derived.Test.YtcaiibkgajhohaaGreatDoorM11
import Derived.Laws.MakeOwn
import Derived.Maps.AppendAt
import Derived.RegionTactic
import Derived.BigRegion
set_option maxRecDepth 100000
set_option maxHeartbeats 8000000
namespace Go.Proofs.YtcaiibkgajhohaaGreatDoor
open Go.RowKit
def sliceLen:Value→Nat
 |.slice _ n _=>n
 |_=>0
def GZ(aa:List Nat)(i:Nat)(W:World)(v k:Value)(wr:World):Prop:=∃A l:List Nat,k=.int .i64 (iy l)∧wr.ownsRow W.heap.size 3 1 v A.length (lZ A)∧kids aa i=A++l∧Below W.heap.size W wr
theorem G1(B:Nat)(v:Value)(ns:List aW)(aa:List Nat)(most:Int)(e:Nat)(w:World)(h:bJ w B v ns most)(hg:p4 ns aa)(he:e<aa.length)(hm:ns.length≤1100000):Calls Tryz.prog 92 #[.pointer (some ⟨B,0,none⟩),.int .i64 e] w fun ev w'=>∃v',ev=.returned v'∧Rd (dY w w') w' v' (oO (kids aa e))∧Below w.heap.size w w':=by
 have hlen:=hg.len;have HH:=Lib.hid (zg B v ns most e w h);obtain⟨g,cap,rfl,Zv,NJ⟩:=h.GR (by omega);have c0:=h.cell0;have eZ:=h.lt;obtain⟨a,ha⟩:=bN ns e (by omega);have n2:=h.n2 ha;have n6:=h.n6 ha;rw[hg.first e a ha]at n2;rw[hg.count e a ha]at n6;have fm:=zh aa e;have ajA:(kids aa e).length≤1100000:=by omega
 have t:decide (0≤(e:Int)∧(e:Int)<(ns.length:Int))=true:=decide_eq_true (by omega);have ZB:e<ns.length:=by omega
 obtain⟨i0,dw,bT,bW,bA⟩:=info_parts wT.hi;obtain⟨W1,dP,az,NK⟩:=run_make_own (P:=Tryz.prog) w w.heap.size 106 3 i0 _ 1 Tryz.underlying106 dw bT bW .i64 .i64 (kids aa e).length (by rw[bA];omega) (by simp[maxLen];omega) (Nat.le_refl _);have ar:Below w.heap.size w W1:=(Below.refl _ w).grown NK (Nat.le_refl _) (fun k hk=>by cases hk);have h1:=h.below ar;have e0:=h1.cell0;have e2:=h1.n2 ha;rw[hg.first e a ha]at e2
 have R0:GZ aa e w (.slice (some ⟨w.heap.size,0,none⟩) 0 (kids aa e).length) (.int .i64 (iy (kids aa e))) W1:=⟨[],kids aa e,rfl,az,rfl,ar⟩;have H:=Lib.hid h;have HG:=Lib.hid hg;have eF:=Lib.hid R0;have ZC:=Lib.hid hlen;clear h hg ha NK az h1 R0 hlen bT bW bA dw;go_enter Tryz.func92,Tryz.ntmps92;go_wp2_with fail;refine HH.out.mono ?_;rintro ev w1⟨rfl,rfl⟩;rw[t];clear t;go_wp2_with fail;go_loopw[5,6](GZ aa e w)(fun v _ _=>(kids aa e).length-sliceLen v);case atStart=>exact eF.out
 case round=>
  obtain⟨A,l,rfl,ho,iN,hb⟩:=hrel;have Db:=congrArg List.length iN;rw[List.length_append]at Db
  cases l with
  |nil=>rw[List.append_nil]at iN;subst iN;have hr:Rd (dY w wr) wr u5 (oO (kids aa e)):=mY ho (C8 _) (fun g hg=>ho.lt g hg);obtain⟨ao,cap',rfl,_⟩:=aM ho;have HR:=Lib.hid hr;have HB:=Lib.hid hb;clear hr hb ho Db dP c0 n2 n6 e0 e2;rw[Zg];go_wp2;go_ret;exact⟨_,rfl,HR.out,HB.out⟩
  |cons k l=>
   rw[Nu];have t:((k:Int)!=-1)=true:=bne_iff_ne.2 (by omega);obtain⟨ao,cap',rfl,_⟩:=aM ho;rw[List.length_cons]at Db;have hq:A.length+1≤(kids aa e).length:=by omega
   have ZD:k∈kids aa e:=by rw[iN];simp
   have yT:k<ns.length:=by rw[ZC.out];exact(fk.1 ZD).2.1
   have HO:=Lib.hid ho;have HB:=Lib.hid hb;have HA:=Lib.hid iN;clear ho hb iN Db dP c0 n2 n6 e0 e2;go_wp2_with(at_builtin;refine iY wr #[.int .i64 k] _ rfl _ _ 106 rfl w.heap.size wT _ _ _ rfl HO.out rfl rfl ?c1 ?c2 ?c3 ?c4 ?_);case c1=>first|rfl|(intro u hu;simp at hu;subst hu;rfl)
   case c2=>simp[maxLen];omega
   case c3=>omega
   case c4=>exact HB.out.size
   intro v2 w2 aE aL;have ah:Below w.heap.size w w2:=(aj HB.out (.cells #[.int .i64 k] 3)).grown aL (aj HB.out (.cells #[.int .i64 k] 3)).size (fun j hj=>(HO.out.lt j hj).1);have h2:=H.out.below ah;obtain⟨b,p9⟩:=bN ns k yT;have c0:=h2.cell0;have n4:=h2.n4 p9;rw[HG.out.next k b p9,GK HA.out]at n4;have zz:g<w2.heap.size:=by have:=ah.size;omega
   obtain⟨lg,p_,rfl,_⟩:=aM aE;have R:GZ aa e w (.slice lg (A.length+1) p_) (.int .i64 (iy l)) w2:=⟨A++[k],l,rfl,by simpa[lZ]using aE,by rw[HA.out];simp,ah⟩;have HR:=Lib.hid R;clear R h2 p9 aL aE ah;go_wp2;refine⟨?_,by simp[sliceLen];omega⟩;have R:=HR.out;first|exact R|((repeat apply Exists.intro);exact⟨R,rfl⟩)
theorem fp{w:World}{a b:Nat}{cs ds:Array Value}{T U:TypeId}{f g:Nat×Nat}(h:w.heap[a]?=some (.cells cs T f))(k:w.heap[b]?=some (.cells ds U g))(hT:T≠U):a≠b:=by rintro rfl;rw[h]at k;simp only[Option.some.injEq,Obj.cells.injEq]at k;exact hT k.2.1
theorem nE{w:World}{base n sz:Nat}{e:TypeId}{v:Value}{xs:List Value}(h:w.ownsRow base e sz v n xs){g:Nat}(hg:v.ownBlock=some g):∃cur,w.heap[g]?=some (.cells cur e (0,0)):=by
 rcases h.2 with⟨rfl,_⟩|⟨k,cap,cur,rfl,_,hk,_⟩
 ·simp[Value.ownBlock]at hg
 ·simp only[Value.ownBlock,Option.some.injEq]at hg;subst hg;exact⟨cur,hk⟩
abbrev an(b:Nat):Value:=.pointer (some ⟨b,0,none⟩)
def sX(o:Op):Array Value:=#[.int .i64 o.id,.bool o.obj,.int .i64 o.st,.string o.key]
def gr(w:World)(b:Nat)(o:Op):Prop:=w.heap[b]?=some (.cells (sX o) 126 (0,0))
structure bQ(w:World)(base P D T:Nat)(bv:Value)(m:Bd)(s:PS)(tv sv:Value)(os:List Nat)(ns:List aW):Prop where
 box:w.heap[P]?=some (.cells #[bv,.int .i64 m.bytes,.int .i64 m.deep,.int .i64 m.nodes,an D,sv] 122 (0,0))
 doc:w.heap[D]?=some (.cells #[an T] 119 (0,0))
 tree:bJ w T tv ns m.nodes
 de:p4 ns s.aa
 wf:dL s.aa
 vals:ns.map aW.val=s.js.map JN.val
 row:w.ownsRow base 123 1 sv os.length ((os.map an).reverse)
 len:os.length=s.stack.length
 ops:∀(i b:Nat)(o:Op),os[i]?=some b→s.stack[i]?=some o→gr w b o
 nd:os.Nodup
 qa:base≤P
 qc:base≤D
 mf:base≤T
 h_:∀b∈os,base≤b
 wX:s.js=[]→tv=.slice none 0 0
theorem ak{w:World}{a:Nat}{o:Obj}(h:w.heap[a]?=some o):a<w.heap.size:=(Array.getElem?_eq_some_iff.1 h).1
section
variable{w w':World}{base P D T X:Nat}{bv tv sv:Value}{m:Bd}{s:PS}{os:List Nat}{ns:List aW}{cs:Array Value}{TX:TypeId}{fr:Nat×Nat}
theorem bQ.keep(h:bQ w base P D T bv m s tv sv os ns)(hk:∀k,base≤k→k<w.heap.size→w'.heap[k]?=w.heap[k]?):bQ w' base P D T bv m s tv sv os ns:=by
 refine⟨by rw[hk P h.qa (ak h.box)];exact h.box,by rw[hk D h.qc (ak h.doc)];exact h.doc,h.tree.ext (fun k hl ht=>?_),h.de,h.wf,h.vals,bu h.row (fun g hg=>hk g (h.row.lt g hg).1 (h.row.lt g hg).2) (Nat.le_refl _),h.len,fun i b o hb ho=>?_,h.nd,h.qa,h.qc,h.mf,h.h_,h.wX⟩
 ·refine hk k ?_ hl;rcases ht with rfl|ht
  ·exact h.mf
  ·have:=(h.tree.own.lt k ht).1;have:=h.mf;omega
 ·have:=h.ops i b o hb ho;unfold gr at*;rw[hk b (h.h_ b (List.mem_of_getElem? hb)) (ak this)];exact this
theorem bQ.below(h:bQ w base P D T bv m s tv sv os ns)(hb:Below w.heap.size w w'):bQ w' base P D T bv m s tv sv os ns:=h.keep (fun k _ hk=>hb.block k hk)
theorem bQ.drewN(h:bQ w base P D T bv m s tv sv os ns)(n:Nat):bQ (w.drewN n) base P D T bv m s tv sv os ns:=h.keep (fun _ _ _=>rfl)
theorem bQ.G_(h:bQ w base P D T bv m s tv sv os ns)(hX:w.heap[X]?=some (.cells cs TX fr))(hk:∀k,k≠X→w'.heap[k]?=w.heap[k]?)(h1:TX≠172)(h2:TX≠228):bJ w' T tv ns m.nodes:=h.tree.ext (fun k _ ht=>hk k (by
 rcases ht with rfl|ht
 ·exact(fp hX h.tree.box h1).symm
 ·obtain⟨cur,hc⟩:=nE h.tree.own ht;exact(fp hX hc h2).symm))
theorem bQ.Ha(h:bQ w base P D T bv m s tv sv os ns)(hX:w.heap[X]?=some (.cells cs TX fr))(hk:∀k,k≠X→w'.heap[k]?=w.heap[k]?)(h1:TX≠123):w'.ownsRow base 123 1 sv os.length ((os.map an).reverse):=bu h.row (fun g hg=>hk g (by obtain⟨cur,hc⟩:=nE h.row hg;exact(fp hX hc h1).symm)) (Nat.le_refl _)
theorem bQ.top(h:bQ w base P D T bv m s tv sv os ns){o:Op}{r:List Op}(hs:s.stack=o::r):∃b q,os=b::q∧gr w b o:=by
 have hl:=h.len;rw[hs]at hl
 cases os with
 |nil=>simp at hl
 |cons b q=>exact⟨b,q,rfl,h.ops 0 b o rfl (by rw[hs];rfl)⟩
theorem bQ.sY{b:Nat}{q:List Nat}{o o':Op}{r:List Op}{j:Nat}{u:Value}(h:bQ w base P D T bv m s tv sv (b::q) ns)(hs:s.stack=o::r)(hc:sX o'=(sX o).setIfInBounds j u):bQ (w.setCell ⟨b,j,none⟩ u) base P D T bv m {s with stack:=o'::r} tv sv (b::q) ns:=by
 have hb:gr w b o:=h.ops 0 b o rfl (by rw[hs];rfl);have hk:∀k,k≠b→(w.setCell ⟨b,j,none⟩ u).heap[k]?=w.heap[k]?:=fun k hk=>Below.heap_setCell _ _ _ _ hk;refine⟨?_,?_,h.G_ hb hk (by decide) (by decide),h.de,h.wf,h.vals,h.Ha hb hk (by decide),?_,fun i c p ln hp=>?_,h.nd,h.qa,h.qc,h.mf,h.h_,h.wX⟩
 ·rw[hk P (fp h.box hb (by decide))];exact h.box
 ·rw[hk D (fp h.doc hb (by decide))];exact h.doc
 ·have:=h.len;rw[hs]at this;simpa using this
 ·cases i with
  |zero=>simp at ln hp;subst ln;subst hp;have:=Go.Joins.block_setCell hb (i:=j) u;unfold gr;rw[hc];simpa using this
  |succ i=>simp at ln hp;(have er:c≠b:=fun e=>by have:=h.nd;rw[List.nodup_cons]at this;exact this.1 (e▸List.mem_of_getElem? ln));unfold gr;rw[hk c er];exact h.ops (i+1) c p (by simpa using ln) (by rw[hs];simpa using hp)
theorem bQ.aae{b:Nat}{q:List Nat}{o:Op}{r:List Op}{g cap n:Nat}(h:bQ w base P D T bv m s tv (.slice (some ⟨g,0,none⟩) n cap) (b::q) ns)(hs:s.stack=o::r)(hn:n=q.length+1):bQ (w.setCell ⟨P,5,none⟩ (.slice (some ⟨g,0,none⟩) q.length cap)) base P D T bv m {s with stack:=r} tv (.slice (some ⟨g,0,none⟩) q.length cap) q ns:=by
 have hk:∀k,k≠P→(w.setCell ⟨P,5,none⟩ (.slice (some ⟨g,0,none⟩) q.length cap)).heap[k]?=w.heap[k]?:=fun k hk=>Below.heap_setCell _ _ _ _ hk;have ll:=h.Ha h.box hk (by decide);refine⟨?_,?_,h.G_ h.box hk (by decide) (by decide),h.de,h.wf,h.vals,?_,?_,fun i c p ln hp=>?_,(List.nodup_cons.1 h.nd).2,h.qa,h.qc,h.mf,fun c hc=>h.h_ c (List.mem_cons_of_mem _ hc),h.wX⟩
 ·have:=Go.Joins.block_setCell h.box (i:=5) (.slice (some ⟨g,0,none⟩) q.length cap);simpa using this
 ·rw[hk D (fp h.doc h.box (by decide))];exact h.doc
 ·rcases ll.2 with⟨e,_⟩|⟨g',cap',cur,e,h1,h2,h3,h4,h5,h6⟩
  ·cases e
  ·cases e;refine⟨by simp,.inr ⟨_,_,cur,rfl,h1,h2,by simp at h3;omega,h4,h5,?_⟩⟩;have:=congrArg (List.take q.length) h6;simp only[List.take_take,List.length_cons,Nat.mul_one,List.map_cons,List.reverse_cons]at this;rw[Nat.min_eq_left (by omega),List.take_append_of_le_length (by simp)]at this;rw[Nat.mul_one,this,List.take_of_length_le (by simp)]
 ·have:=h.len;rw[hs]at this;simpa using this
 ·have hop:=h.ops (i+1) c p (by simpa using ln) (by rw[hs];simpa using hp);unfold gr at*;rw[hk c (fp hop h.box (by decide))];exact hop
end
section
variable{w:World}{base P D T:Nat}{bv tv sv:Value}{m:Bd}{s:PS}{os:List Nat}{ns:List aW}
theorem bQ.c0(h:bQ w base P D T bv m s tv sv os ns):w.cell? ⟨P,0,none⟩=some bv:=by simp[World.cell?,h.box]
theorem bQ.c1(h:bQ w base P D T bv m s tv sv os ns):w.cell? ⟨P,1,none⟩=some (.int .i64 m.bytes):=by simp[World.cell?,h.box]
theorem bQ.c2(h:bQ w base P D T bv m s tv sv os ns):w.cell? ⟨P,2,none⟩=some (.int .i64 m.deep):=by simp[World.cell?,h.box]
theorem bQ.c4(h:bQ w base P D T bv m s tv sv os ns):w.cell? ⟨P,4,none⟩=some (an D):=by simp[World.cell?,h.box]
theorem bQ.c5(h:bQ w base P D T bv m s tv sv os ns):w.cell? ⟨P,5,none⟩=some sv:=by simp[World.cell?,h.box]
theorem bQ.cD(h:bQ w base P D T bv m s tv sv os ns):w.cell? ⟨D,0,none⟩=some (an T):=by simp[World.cell?,h.doc]
theorem bQ.fP(h:bQ w base P D T bv m s tv sv os ns)(j:Nat):w.frozen? ⟨P,j,none⟩=false:=Go.Joins.unfrozen_of_block h.box j
theorem gr.c0{b:Nat}{o:Op}(h:gr w b o):w.cell? ⟨b,0,none⟩=some (.int .i64 o.id):=by unfold gr at h;simp[World.cell?,h,sX]
theorem gr.c1{b:Nat}{o:Op}(h:gr w b o):w.cell? ⟨b,1,none⟩=some (.bool o.obj):=by unfold gr at h;simp[World.cell?,h,sX]
theorem gr.c2{b:Nat}{o:Op}(h:gr w b o):w.cell? ⟨b,2,none⟩=some (.int .i64 o.st):=by unfold gr at h;simp[World.cell?,h,sX]
theorem gr.c3{b:Nat}{o:Op}(h:gr w b o):w.cell? ⟨b,3,none⟩=some (.string o.key):=by unfold gr at h;simp[World.cell?,h,sX]
theorem gr.fz{b:Nat}{o:Op}(h:gr w b o)(j:Nat):w.frozen? ⟨b,j,none⟩=false:=Go.Joins.unfrozen_of_block h j
theorem bQ.slice{b:Nat}{q:List Nat}(h:bQ w base P D T bv m s tv sv (b::q) ns):∃g cap,sv=.slice (some ⟨g,0,none⟩) (q.length+1) cap∧w.cell? ⟨g,q.length,none⟩=some (an b)∧q.length+1≤cap∧cap≤maxLen:=by
 rcases h.row.2 with⟨_,e⟩|⟨g,cap,cur,rfl,h1,h2,h3,h4,h5,h6⟩
 ·simp at e
 ·refine⟨g,cap,rfl,?_,by simpa using h3,h4⟩;rw[h.row.cellAt q.length (by simp),List.map_cons,List.reverse_cons,List.getElem?_append_right (by simp)];simp
end
theorem Hb(w:World)(base P D T b:Nat)(bv tv sv:Value)(m:Bd)(s:PS)(q:List Nat)(ns:List aW)(h:bQ w base P D T bv m s tv sv (b::q) ns)(hl:q.length≤1100000):Calls Tryz.prog 83 #[an P] w fun e w'=>e=.returned (an b)∧∃n,w'=w.drewN n:=by obtain⟨g,cap,rfl,cr,_,_⟩:=h.slice;have c5:=h.c5;generalize q.length=k at*;have q1:IntKind.i64.wrap (k:Int)=(k:Int):=IntWalk.i64_in _ (by omega);have q2:IntKind.i64.wrap ((k:Int)+1-1)=(k:Int):=IntWalk.i64_in _ (by omega)|>.trans (by omega);clear h;go_enter Tryz.func83,Tryz.ntmps83;go_wp2;go_quiet(fail);go_wp2;go_ret;exact⟨rfl,_,rfl⟩
theorem aaf(t:Tok)(w:World):Calls Tryz.prog 84 #[.agg #[.int .i64 t.kind,.int .i64 t.fr,.int .i64 t.cK]] w (F9 w (if t.kind=0 then 10 else 11) t.fr):=by
 obtain⟨tk,tf,tt⟩:=t;have F1:=fun(o:Obj)k=>fails k tf (w.alloc o);by_cases h0:tk=0
 ·have t1:(tk==0)=true:=beq_iff_eq.2 h0;simp only[h0,if_true];have F1:=Lib.hid (fun o=>F1 o 10);clear h0;go_enter Tryz.func84,Tryz.ntmps84;go_wp2_with fail;refine(F1.out _).mono ?_;rintro e w1⟨u,rfl,hf⟩;have HF:=Lib.hid (hf.after (aj (Below.refl _ w) _));clear hf;go_wp2;go_ret;exact⟨_,rfl,HF.out⟩
 ·have t1:(tk==0)=false:=beq_eq_false_iff_ne.2 h0;simp only[h0,if_false];have F1:=Lib.hid (fun o=>F1 o 11);clear h0;go_enter Tryz.func84,Tryz.ntmps84;go_wp2_with fail;refine(F1.out _).mono ?_;rintro e w1⟨u,rfl,hf⟩;have HF:=Lib.hid (hf.after (aj (Below.refl _ w) _));clear hf;go_wp2;go_ret;exact⟨_,rfl,HF.out⟩
theorem aag(t:Tok)(w:World):Calls Tryz.prog 121 #[.agg #[.int .i64 t.kind,.int .i64 t.fr,.int .i64 t.cK]] w fun e w'=>e=.returned (.tuple #[.int .i64 ((jE t.kind).getD 0),.bool (jE t.kind).isSome])∧Below w.heap.size w w':=by
 obtain⟨tk,tf,tt⟩:=t;have HB:=Lib.hid (fun o:Obj=>aj (Below.refl _ w) o)
 have cs:tk=1∨tk=3∨tk=7∨tk=8∨tk=9∨tk=10∨tk=11∨(jE tk=none∧(tk==1)=false∧(tk==3)=false∧(tk==7)=false∧(tk==8)=false∧(tk==9)=false∧(tk==10)=false∧(tk==11)=false):=by
  by_cases h1:tk=1
  ·exact .inl h1
  by_cases h3:tk=3
  ·exact .inr (.inl h3)
  by_cases h7:tk=7
  ·exact .inr (.inr (.inl h7))
  by_cases h8:tk=8
  ·exact .inr (.inr (.inr (.inl h8)))
  by_cases h9:tk=9
  ·exact .inr (.inr (.inr (.inr (.inl h9))))
  by_cases pP:tk=10
  ·exact .inr (.inr (.inr (.inr (.inr (.inl pP)))))
  by_cases yD:tk=11
  ·exact .inr (.inr (.inr (.inr (.inr (.inr (.inl yD))))))
  ·refine .inr (.inr (.inr (.inr (.inr (.inr (.inr ⟨?_,?_⟩))))))
   ·unfold jE;simp[h1,h3,h7,h8,h9,pP,yD]
   ·simp[h1,h3,h7,h8,h9,pP,yD]
 rcases cs with rfl|rfl|rfl|rfl|rfl|rfl|rfl|⟨hn,a1,a2,a3,a4,a5,a6,a7⟩;case inr.inr.inr.inr.inr.inr.inr=>simp only[hn];clear hn;go_enter Tryz.func121,Tryz.ntmps121;go_wp2;go_ret2;exact⟨rfl,HB.out _⟩
 all_goals go_enter Tryz.func121,Tryz.ntmps121;go_wp2;go_ret2;exact⟨rfl,HB.out _⟩
theorem aah(w:World)(base P D T:Nat)(bv tv sv:Value)(m:Bd)(s:PS)(os:List Nat)(ns:List aW)(o:Op)(r:List Op)(t:Tok)(h:bQ w base P D T bv m s tv sv os ns)(hs:s.stack=o::r)(hl:s.stack.length≤1100000):Calls Tryz.prog 86 #[an P,.agg #[.int .i64 t.kind,.int .i64 t.fr,.int .i64 t.cK]] w fun e w'=>e=.returned (.bool (iO o t))∧Below w.heap.size w w':=by
 obtain⟨b,q,rfl,ho⟩:=h.top hs;have ar:∀ob:Obj,Below w.heap.size w (w.alloc ob):=fun ob=>aj (Below.refl _ _) ob;have uW:q.length≤1100000:=by have:=h.len;simp at this;omega
 have TP:=Lib.hid (fun ob:Obj=>Hb (w.alloc ob) base P D T b bv tv sv m s q ns (h.below (ar ob)) uW);have dE:=ak ho;have c1:∀(ob:Obj)n,((w.alloc ob).drewN n).cell? ⟨b,1,none⟩=some (.bool o.obj):=fun ob n=>(aK (ar ob) dE 1).trans ho.c1;have HB:=Lib.hid ar;clear h hs hl ho ar;unfold iO;obtain⟨tk,tf,tt⟩:=t;obtain⟨oi,oo,ot,ok⟩:=o;simp only at c1
 cases oo with
 |true=>go_enter Tryz.func86,Tryz.ntmps86;go_wp2_with fail;refine(TP.out _).mono ?_;rintro e w1⟨rfl,n,rfl⟩;go_wp2;go_ret;exact⟨rfl,eW _ (HB.out _)⟩
 |false=>go_enter Tryz.func86,Tryz.ntmps86;go_wp2_with fail;refine(TP.out _).mono ?_;rintro e w1⟨rfl,n,rfl⟩;go_wp2;go_ret;exact⟨rfl,eW _ (HB.out _)⟩
def PA(w:World)(base P D T:Nat)(bv:Value)(m:Bd)(s:PS):Prop:=∃tv sv os ns,bQ w base P D T bv m s tv sv os ns
def bK(w w':World):Prop:=∀(k:Nat)(cs:Array Value)(f:Nat×Nat),w.heap[k]?=some (.cells cs 128 f)→w'.heap[k]?=some (.cells cs 128 f)
theorem bK.refl(w:World):bK w w:=fun _ _ _ h=>h
theorem bK.trans{a b c:World}(h:bK a b)(k:bK b c):bK a c:=fun i cs f hi=>k i cs f (h i cs f hi)
theorem bK.of{a b:World}(h:Below a.heap.size a b):bK a b:=fun i _ _ hi=>by rw[h.block i (ak hi)];exact hi
theorem bK.drew{a b:World}(h:bK a b)(n:Nat):bK a (b.drewN n):=h
theorem bK.set{a b:World}(h:bK a b){p:Addr}{cs:Array Value}{U:TypeId}{f:Nat×Nat}(hb:b.heap[p.block]?=some (.cells cs U f))(hU:U≠128)(u:Value):bK a (b.setCell p u):=fun i ds g hi=>by have h2:=h i ds g hi;rw[Below.heap_setCell _ _ _ _ (show i≠p.block from(fp hb h2 hU).symm)];exact h2
def Hc(w:World)(base P D T:Nat)(bv:Value)(m:Bd)(s:PS)(e:Ending)(w':World):Prop:=e=.returned (.tuple #[])∧PA w' base P D T bv m s∧Below base w w'∧bK w w'
theorem j0{w:World}(B n:Nat):Below B w (w.drewN n):=⟨rfl,rfl,rfl,Nat.le_refl _,fun _ _=>rfl⟩
theorem N5(w:World)(base P D T:Nat)(bv:Value)(m:Bd)(s:PS)(o:Op)(r:List Op)(h:PA w base P D T bv m s)(hs:s.stack=o::r)(hl:s.stack.length≤1100000):Calls Tryz.prog 120 #[an P] w (Hc w base P D T bv m {s with stack:=jc s.stack}):=by
 obtain⟨tv,sv,os,ns,h⟩:=h;obtain⟨b,q,rfl,ho⟩:=h.top hs;have uW:q.length≤1100000:=by have:=h.len;simp at this;omega
 have TP:=Lib.hid (Hb w base P D T b bv tv sv m s q ns h uW);have jU:base≤b:=h.h_ b (by simp);have H:=Lib.hid h;have HS:=Lib.hid hs;unfold Hc;rw[hs];simp only[jc,sP];by_cases hid:o.id<0
 ·have t1:decide (o.id<0)=true:=decide_eq_true hid;rw[if_pos hid];clear h hs hl ho;go_enter Tryz.func120,Tryz.ntmps120;go_wp2_with fail;refine TP.out.mono ?_;rintro e w1⟨rfl,n,rfl⟩;have hD:=H.out.drewN n;have uX:Below base w (w.drewN n):=j0 base n;have uY:bK w (w.drewN n):=(bK.refl w).drew n;generalize w.drewN n=W at hD uX uY⊢;obtain⟨b',q',e,ho⟩:=hD.top HS.out;obtain⟨rfl,rfl⟩:b=b'∧q=q':=by simpa using e
  have c0:=ho.c0;have c2:=ho.c2;have f2:=ho.fz 2;have h1:=hD.sY (o':={o with st:=4}) (j:=2) (u:=.int .i64 4) HS.out rfl;have ar:=uX.setCell (p:=⟨b,2,none⟩) jU (.int .i64 4);have hbW:=ak ho;have kB:=uY.set (p:=⟨b,2,none⟩) ho (by decide) (.int .i64 4);have h2:=h1.sY (o:={o with st:=4}) (o':={o with st:=5}) (j:=2) (u:=.int .i64 5) rfl rfl
  have HF:Hid (PA ((W.setCell ⟨b,2,none⟩ (.int .i64 4)).setCell ⟨b,2,none⟩ (.int .i64 5)) base P D T bv m {s with stack:={o with st:=5}::r}∧Below base w ((W.setCell ⟨b,2,none⟩ (.int .i64 4)).setCell ⟨b,2,none⟩ (.int .i64 5))∧bK w ((W.setCell ⟨b,2,none⟩ (.int .i64 4)).setCell ⟨b,2,none⟩ (.int .i64 5))):=Lib.hid ⟨⟨_,_,_,_,h2⟩,ar.setCell (p:=⟨b,2,none⟩) jU (.int .i64 5),kB.set (p:=⟨b,2,none⟩) (h1.ops 0 b {o with st:=4} rfl rfl) (by decide) (.int .i64 5)⟩
  clear h2;clear h1 ar hD uX uY kB ho e H HS TP hid jU;go_wp2;go_end0;exact⟨rfl,HF.out⟩
 ·have t1:decide (o.id<0)=false:=decide_eq_false hid;rw[if_neg hid];clear h hs hl ho;go_enter Tryz.func120,Tryz.ntmps120;go_wp2_with fail;refine TP.out.mono ?_;rintro e w1⟨rfl,n,rfl⟩;have hD:=H.out.drewN n;have uX:Below base w (w.drewN n):=j0 base n;have uY:bK w (w.drewN n):=(bK.refl w).drew n;generalize w.drewN n=W at hD uX uY⊢;obtain⟨b',q',e,ho⟩:=hD.top HS.out;obtain⟨rfl,rfl⟩:b=b'∧q=q':=by simpa using e
  have c0:=ho.c0;have c2:=ho.c2;have f2:=ho.fz 2;have h1:=hD.sY (o':={o with st:=4}) (j:=2) (u:=.int .i64 4) HS.out rfl;have ar:=uX.setCell (p:=⟨b,2,none⟩) jU (.int .i64 4);have hbW:=ak ho;have kB:=uY.set (p:=⟨b,2,none⟩) ho (by decide) (.int .i64 4)
  have HF:Hid (PA (W.setCell ⟨b,2,none⟩ (.int .i64 4)) base P D T bv m {s with stack:={o with st:=4}::r}∧Below base w (W.setCell ⟨b,2,none⟩ (.int .i64 4))∧bK w (W.setCell ⟨b,2,none⟩ (.int .i64 4))):=Lib.hid ⟨⟨_,_,_,_,h1⟩,ar,kB⟩;clear h1 ar hD uX uY kB ho e H HS TP hid jU;go_wp2;go_end0;exact⟨rfl,HF.out⟩
theorem N6(w:World)(base P D T:Nat)(bv:Value)(m:Bd)(s:PS)(o p:Op)(r:List Op)(h:PA w base P D T bv m s)(hs:s.stack=o::p::r)(hl:s.stack.length≤1100000):Calls Tryz.prog 87 #[an P] w (Hc w base P D T bv m {s with stack:=jc (p::r)}):=by
 obtain⟨tv,sv,os,ns,h⟩:=h;obtain⟨b,q,rfl,ho⟩:=h.top hs;have uW:q.length=r.length+1:=by have:=h.len;rw[hs]at this;simpa using this
 have Dl:r.length+2≤1100000:=by rw[hs]at hl;simpa using hl
 obtain⟨g,cap,rfl,_,gY,aaj⟩:=h.slice;have H:=Lib.hid h;have HS:=Lib.hid hs;have c5:=h.c5;have f5:=h.fP 5;have h1:bQ (w.setCell ⟨P,5,none⟩ (.slice (some ⟨g,0,none⟩) q.length cap)).drew base P D T bv m {s with stack:=p::r} tv (.slice (some ⟨g,0,none⟩) q.length cap) q ns:=(h.aae hs rfl).keep (fun _ _ _=>rfl);have hP:base≤P:=h.qa;have hPw:=ak h.box;have AF:=Lib.hid (N5 _ base P D T bv m {s with stack:=p::r} p r ⟨_,_,_,_,h1⟩ rfl (by simp;omega))
 have HB:Hid (Below base w (w.setCell ⟨P,5,none⟩ (.slice (some ⟨g,0,none⟩) q.length cap)).drew):=Lib.hid (((Below.refl base w).setCell (p:=⟨P,5,none⟩) hP (.slice (some ⟨g,0,none⟩) q.length cap)).drew);have HTP:Hid (bK w (w.setCell ⟨P,5,none⟩ (.slice (some ⟨g,0,none⟩) q.length cap)).drew):=Lib.hid ((bK.refl w).set (p:=⟨P,5,none⟩) h.box (by decide) (.slice (some ⟨g,0,none⟩) q.length cap));generalize q.length=k at*
 have q1:IntKind.i64.wrap (k:Int)=(k:Int):=IntWalk.i64_in _ (by omega);have q2:IntKind.i64.wrap ((k:Int)+1-1)=(k:Int):=IntWalk.i64_in _ (by omega)|>.trans (by omega);have q3:(k:Int)≤(cap:Int):=by omega
 clear h hs hl ho h1 hP uW Dl aaj;go_enter Tryz.func87,Tryz.ntmps87;go_wp2_with fail;go_region;go_wp2_with fail;refine AF.out.mono ?_;rintro e w1⟨rfl,hp,hb,ht⟩;have HF:=Lib.hid (HB.out.trans hb);have jG:=Lib.hid (HTP.out.trans ht);have HP:=Lib.hid hp;clear hp hb ht;go_wp2;go_end0;exact⟨rfl,HP.out,HF.out,jG.out⟩
def tp(s:ByteArray):ByteArray:=if lv s=[]then s.extract 0 10 else⟨#[]⟩
def tr(s:ByteArray):ByteArray:=if lv s=[]then s.extract 11 s.size else⟨#[]⟩
theorem Pe{s:ByteArray}(h:lv s=[]):11<s.size:=by
 unfold lv rG at h;split at h
 ·simp at h
 ·split at h
  ·rename_i hw;simpa using hw
  ·simp at h
theorem aa9{s:ByteArray}(h:lv s≠[]):∃x,lv s=[x]:=by
 unfold lv rG at h⊢;split
 ·exact⟨_,rfl⟩
 ·rename_i hx;rw[hx]at h;by_cases hw:11<s.size
  ·simp[hw]at h
  ·exact⟨_,by rw[decide_eq_false hw];rfl⟩
theorem aa_(s:ByteArray)(w:World)(hs:s.size≤1100000):Calls Tryz.prog 160 #[.string s] w fun e w'=>∃v,e=.returned (.tuple #[.agg #[.string (tp s),.string (tr s)],v])∧Rd (dY w w') w' v (cz 85 (lv s))∧Below w.heap.size w w':=by
 have dc:=aj (Below.refl w.heap.size w) (.cells #[.string ⟨#[]⟩,.string ⟨#[]⟩] 37);have DM:=aa5 178 xi aa8 s 166 (decide (11<s.size)) (w.alloc (.cells #[.string ⟨#[]⟩,.string ⟨#[]⟩] 37)) hs (by decide);rw[show rG s 166 xi (decide (11<s.size))=lv s from rfl]at DM;obtain⟨t,ht⟩:∃t,decide (11<s.size)=t:=⟨_,rfl⟩;rw[ht]at DM;have t1:decide ((11:Int)<(s.size:Int))=t:=by rw[←ht];congr 1;simp;omega
 have RD:=Lib.hid DM;have je:=Lib.hid dc;clear dc DM ht;go_enter Tryz.func160,Tryz.ntmps160;go_wp2_with fail;refine RD.out.mono ?_;rintro e w1⟨v,rfl,hr,ar⟩;have q1:=aK ar (b:=w.heap.size) (by simp);have q2:=oC ar (b:=w.heap.size) (by simp);have hz:=ar.size;simp at hz;have aQ:=Lib.hid (aF je.out ar);clear ar;by_cases hR:lv s=[]
 ·have yD:=Pe hR;have e1:tp s=s.extract 0 10:=if_pos hR;have e2:tr s=s.extract 11 s.size:=if_pos hR;have i1:(10:Int)≤(s.size:Int):=by omega
  have i2:(11:Int)≤(s.size:Int):=by omega
  have xj:=hr;rw[hR]at xj;simp only[cz]at xj;have ev:=xj.pO;subst ev;have E:=Lib.hid (And.intro e1 (And.intro e2 hR));clear hr xj e1 e2 hR t1;go_wp2_with fail;go_region;go_wp2;refine bodyPost_ret (v:=.tuple #[.agg #[.string (s.extract 0 10),.string (s.extract 11 s.size)],.nilIface]) (by simp[results,Tryz.results160,go_sem,q1]) rfl ⟨_,by rw[E.out.1,E.out.2.1],?_,?_⟩
  ·rw[E.out.2.2];simp only[cz];exact .mW
  ·exact⟨(aQ.out).os,aQ.out.tape,aQ.out.output,by have:=aQ.out.size;simpa using this,fun k hk=>((Below.heap_setCell _ _ _ _ (show k≠w.heap.size by omega)).trans (Below.heap_setCell _ _ _ _ (show k≠w.heap.size by omega))).trans (aQ.out.block k hk)⟩
 ·obtain⟨x,hx⟩:=aa9 hR;have e1:tp s=⟨#[]⟩:=if_neg hR;have e2:tr s=⟨#[]⟩:=if_neg hR;have HR:=Lib.hid hr;rw[hx]at hr;obtain⟨k,a⟩:=x;obtain⟨b,off,u,rfl,_⟩:=oF hr;have E:=Lib.hid (And.intro e1 e2);clear hr e1 e2 hR hx t1;go_wp2;refine bodyPost_ret (v:=.tuple #[.agg #[.string ⟨#[]⟩,.string ⟨#[]⟩],.iface 85 (.pointer (some ⟨b,off,none⟩))]) (by simp[results,Tryz.results160,go_sem,q1]) rfl ⟨_,by rw[E.out.1,E.out.2],?_,?_⟩
  ·have hS:∀b',dY (w.alloc (.cells #[.string ⟨#[]⟩,.string ⟨#[]⟩] 37)) w1 b'→b'≠w.heap.size:=fun b' lU e=>by have:=lU.1;simp at this;omega
   refine((HR.out.set (p:=⟨w.heap.size,0,none⟩) hS _).set (p:=⟨w.heap.size,1,none⟩) hS _).wide (fun b' lU=>⟨by have:=lU.1;simp at this;omega,by have:=lU.2;simpa using this⟩)
  ·exact((aQ.out.setCell (Nat.le_refl _) _).setCell (Nat.le_refl _) _)
theorem aba(a b:ByteArray)(w:World)(ha:a.size≤1100000)(hb:b.size≤1100000):Calls Tryz.prog 72 #[.agg #[.string a,.string b]] w fun e w'=>e=.returned (.string (a++⟨#[46]⟩++b))∧Below w.heap.size w w':=by have dc:=Lib.hid (aj (Below.refl w.heap.size w) (.cells #[.string a,.string b] 37));go_enter Tryz.func72,Tryz.ntmps72;go_wp2;go_ret;exact⟨rfl,dc.out⟩
end Go.Proofs.YtcaiibkgajhohaaGreatDoor
