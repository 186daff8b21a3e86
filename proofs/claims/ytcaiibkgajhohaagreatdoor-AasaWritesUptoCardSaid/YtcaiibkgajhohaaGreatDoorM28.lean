/- waybill: lemmas and walks, printed from longer texts. -/
import Derived.Test.YtcaiibkgajhohaaGreatDoorM27
set_option maxRecDepth 100000
set_option maxHeartbeats 4000000
namespace Go.Proofs.YtcaiibkgajhohaaGreatDoor
open Go.RowKit
theorem Q0(s:ByteArray)(i j:Nat):(s.extract i j).data.toList=(s.data.toList.take j).drop i:=by rw[ByteArray.data_extract,Array.toList_extract,List.extract_eq_take_drop];simp[List.drop_take]
theorem Q1{a b:ByteArray}(h:a.data.toList=b.data.toList):a=b:=by cases a;cases b;simpa using Array.toList_inj.1 h
theorem Q7(t:ByteArray):Go.Lib.hasPrefix t.data.toList [78,79,84,32]=tu t:=by
 unfold Go.Lib.hasPrefix tu;rw[Bool.eq_iff_iff,decide_eq_true_eq,List.isPrefixOf_iff_prefix,List.prefix_iff_eq_take];have e:(t.extract 0 4).data.toList=t.data.toList.take 4:=by rw[Q0,List.drop_zero]
 constructor
 ·intro h;exact Q1 (e.trans h.symm)
 ·intro h;show[78,79,84,32]=t.data.toList.take 4;rw[←e,h]
theorem adH(t:ByteArray):(⟨(Go.Lib.trimPrefix t.data.toList [78,79,84,32]).toArray⟩:ByteArray)=ig t:=by
 unfold Go.Lib.trimPrefix ig;rw[Q7];by_cases h:tu t=true
 ·rw[if_pos h,if_pos h];refine Q1 ?_;rw[Q0,List.take_of_length_le (by simp)];rfl
 ·rw[if_neg h,if_neg h]
theorem adI(t:ByteArray):(ig t).size≤t.size:=by
 unfold ig;split
 ·rw[ByteArray.size_extract];omega
 ·exact Nat.le_refl _
def mB(t:ByteArray):List (Int×Int):=match jK (ig t)with
  |[]=>[]
  |x::c=>(11,0)::x::c
def gB(t:ByteArray):aZ:=(kH cg t).getD eu
theorem JE{t:ByteArray}(h:jK (ig t)=[]):mB t=[]∧kH cg t=some {eu with path:=ig t,bz:=true,cU:=tu t}:=by unfold mB kH;rw[h];refine⟨rfl,?_⟩;rw[if_pos (show cg.Ir (ig t)=true by show o5 (ig t)=true;unfold o5;rw[h];rfl)]
theorem JF{t:ByteArray}{x:Int×Int}{c:List (Int×Int)}(h:jK (ig t)=x::c):mB t=(11,0)::x::c∧kH cg t=none:=by unfold mB kH;rw[h];refine⟨rfl,?_⟩;rw[if_neg (show¬cg.Ir (ig t)=true by show¬o5 (ig t)=true;unfold o5;rw[h];simp)]
def El(w:World)(t:ByteArray)(e:Ending)(w':World):Prop:=∃u,e=.returned (.tuple #[.agg (aX (gB t) (.slice none 0 0)),u])∧iS w' u (mB t)∧Below w.heap.size w w'
theorem Q_(t:ByteArray)(w:World)(hE:ij w)(ht:t.size≤1100000):Calls Tryz.prog 13 #[.string t] w (El w t):=by
 have CP:=Lib.hid (fun W=>(show Calls Tryz.prog 33 #[.string t,.string ⟨#[78,79,84,32]⟩] W fun e w'=>e=.returned (.tuple #[.string (ig t),.bool (tu t)])∧w'=W from by have h:=Tryz.strings_CutPrefix t ⟨#[78,79,84,32]⟩ W;rw[show(⟨#[78,79,84,32]⟩:ByteArray).data.toList=[78,79,84,32]from rfl,adH,Q7]at h;exact h));have hx:=heap_alloc_new w (.cells (aX eu (.slice none 0 0)) 40);have hb:=aj (Below.refl _ w) (.cells (aX eu (.slice none 0 0)) 40)
 obtain⟨Wa,bU⟩:∃Wa,w.alloc (.cells #[.string ⟨#[]⟩,.string ⟨#[]⟩,.string ⟨#[]⟩,.bool false,.bool false,.bool false,.slice none 0 0,.bool false,.bool false,.bool false] 40)=Wa:=⟨_,rfl⟩;rw[show w.alloc (.cells (aX eu (.slice none 0 0)) 40)=Wa from bU]at hx hb;have GC:=Lib.hid (IE (ig t) Wa (hE.ut.ext hb) (Nat.le_trans (adI t) ht));have LO:=Lib.hid (JE (t:=t));have LN:=Lib.hid (fun x c=>JF (t:=t) (x:=x) (c:=c));have HX:=Lib.hid hx;have HB:=Lib.hid hb
 obtain⟨p,hp⟩:∃p,ig t=p:=⟨_,rfl⟩;obtain⟨ex,hex⟩:∃ex,tu t=ex:=⟨_,rfl⟩;rw[hp]at CP GC LO LN;rw[hex]at CP LO;clear hE ht hx hb hp hex;go_enter Tryz.func13,Tryz.ntmps13;go_wp2_with fail;clear bU;refine(CP.out _).mono ?_;rintro e w1⟨rfl,rfl⟩;go_wp2_with fail;refine GC.out.mono ?_;rintro e w2⟨ah,u,rfl,he⟩;have X2:=(ah.block _ (ak HX.out)).trans HX.out;have B2:=Lib.hid (aF HB.out ah);have HC:=Lib.hid he;obtain⟨hc,rfl⟩|⟨hc,pf,rfl⟩:=lE he
 ·have hl:=LO.out hc;have hst:=Jw (x:={eu with path:=p,bz:=true,cU:=ex}) (v:=.slice none 0 0) X2 rfl;have jn:=xG (setRow_heap (c:=aX {eu with path:=p,bz:=true,cU:=ex} (.slice none 0 0)) X2)
  have HP:Hid (El w t (.returned (.tuple #[.agg (aX {eu with path:=p,bz:=true,cU:=ex} (.slice none 0 0)),.nilIface])) (w2.setRow w.heap.size (aX {eu with path:=p,bz:=true,cU:=ex} (.slice none 0 0)))):=Lib.hid ⟨_,by unfold gB;rw[hl.2];rfl,by rw[hl.1];exact iS.nil,abL B2.out (Nat.le_refl _)⟩;clear hl ah he hc X2;go_wp2_with((with_reducible show wpList _ _ _ (_::_) _ _);refine zW 40 w.heap.size _ hst _ _ rfl rfl rfl rfl ?_);(try simp only[Exit.inBlock,Exit.then])
  refine bodyPost_ret (v:=.tuple #[.agg (aX {eu with path:=p,bz:=true,cU:=ex} (.slice none 0 0)),.nilIface]) (by simp[results,Tryz.results13,asAddr,Result.andThen,jn]) rfl HP.out
 ·obtain⟨x,c,vz⟩:∃x c,jK p=x::c:=by
   cases h:jK p with
   |nil=>exact absurd h hc
   |cons x c=>exact⟨x,c,rfl⟩
  have hl:=LN.out x c vz;have WR:=Lib.hid (wG 11 0 _ (jK p) w2 he);have HF:=Rd.fault (k:=11) (a:=0) he;have aw:=aj (Below.refl _ w2) (.cells #[.int .i64 11,.int .i64 0,.iface 85 (.pointer (some pf))] 89);have X3:=(aw.block _ (ak X2)).trans X2;have hst:=Jw (x:=eu) (v:=.slice none 0 0) X3 rfl;rw[PK X3]at hst;have jn:=xG X3
  have HP:Hid (El w t (.returned (.tuple #[.agg (aX eu (.slice none 0 0)),.iface 85 (.pointer (some ⟨w2.heap.size,0,none⟩))])) (w2.alloc (.cells #[.int .i64 11,.int .i64 0,.iface 85 (.pointer (some pf))] 89))):=Lib.hid ⟨_,by unfold gB;rw[hl.2];rfl,by rw[hl.1,←vz];exact HF,aF B2.out aw⟩;clear hl ah he hc X2 X3 aw HF vz;go_wp2_with fail;refine WR.out.mono ?_;rintro e w3⟨rfl,rfl⟩
  go_wp2_with((with_reducible show wpList _ _ _ (_::_) _ _);refine zW 40 w.heap.size _ hst _ _ rfl rfl rfl rfl ?_);(try simp only[Exit.inBlock,Exit.then]);refine bodyPost_ret (v:=.tuple #[.agg (aX eu (.slice none 0 0)),.iface 85 (.pointer (some ⟨w2.heap.size,0,none⟩))]) (by simp[results,Tryz.results13,asAddr,Result.andThen,jn]) rfl HP.out
theorem ga{P:Program}(w:World){ops:Array Oper}{rest:List Oper}{o:Oper}{a:Act}{Q:Exit→Act→World→Prop}(arr:Array Value)(te:TypeId)(iX:o.guard=none)(s x:Operand)(t:TypeId)(ho:o.op=.call {callee:=.builtin .append,args:=#[s,x],argTypes:=#[t,t]})(base:Nat){e:TypeId}{z:Value}{size bytes:Nat}(T:iq P t e size bytes z)(v:Value)(n:Nat)(xs:List Value)(hs:a.eval s=v)(az:w.ownsRow base e size v n xs)(hx:a.eval x=.slice (some ⟨w.heap.size,0,none⟩) 1 1)(hsz:arr.size=size)(h1:∀u∈arr.toList,u.oneCell'=true)(oD:n+1≤maxLen)(oE:(n+1)*bytes≤140737488355328)(jU:base≤w.heap.size)(hK:∀v' w',w'.ownsRow base e size v' (n+1) (xs++arr.toList)→(w.alloc (.cells arr te)).grownBy w' v.ownBlock→(v.ownBlock=v'.ownBlock∨v'.ownBlock=some (w.heap.size+1))→wpList P ops Q rest (a.put o.dst v') w'):wpList P ops Q (o::rest) a (w.alloc (.cells arr te)):=adJ _ iX s x t ho base T v n xs hs (az.alloc _) ⟨w.heap.size,0,none⟩ 1 1 arr.toList hx (by simp[hsz]) (World.news_of_block (heap_alloc_new w _)) h1 oD oE (by simp;omega) (fun v' w' a1 a2 a3=>hK v' w' a1 a2 (by simpa[eq_comm]using a3))
def qF(a:aS):List Value:=[.string a.bZ,.string a.b7]
theorem JG:iq Tryz.prog 32 37 2 32 (.agg #[.string ⟨#[]⟩,.string ⟨#[]⟩]):=⟨Tryz.underlying32,by kernel_rfl,rfl,by decide⟩
abbrev iU(B:Nat)(w:World)(v:Value)(l:List aS):Prop:=w.ownsRow B 37 2 v l.length (l.flatMap qF)
structure Ra(W0 w w':World)(v v2:Value):Prop where
 only:ag (fun b=>b=W0.heap.size∨v.ownBlock=some b) w w'
 at_:v.ownBlock=v2.ownBlock∨∀g,v2.ownBlock=some g→w.heap.size≤g
theorem ag.push{T:Nat→Prop}{a b c:World}{v:Value}{o:Obj}{B n k:Nat}{e:TypeId}{xs:List Value}(h:ag T a b)(_ho:b.ownsRow B e k v n xs)(hg:(b.alloc o).grownBy c v.ownBlock):ag (fun b=>T b∨v.ownBlock=some b) a c:=((h.wide (T':=fun b=>T b∨v.ownBlock=some b) (fun _ _ h=>.inl h)).alloc o).grown hg (fun _ h _=>.inr h)
section
variable{W0 Wv:World}{vv:Value}{base D T:Nat}{s:PS}{nodes:Int}{tv:Value}{ns:List aW}
def AE(W0 Wv:World)(vv:Value)(w:World)(D B:Nat)(v:Value)(r:List aS×ai)(e:Ending)(w':World):Prop:=∃v2,e=.returned v2∧iU B w' v2 r.1∧aC W0 Wv vv w' D r.2∧Ra W0 w w' v v2
theorem AE.of{w w1 w2:World}{B:Nat}{v v2:Value}{o:Obj}{st:ai}{l:List aS}{a:aS}(hp:bG W0 Wv vv w D st w1)(hr:iU B w v l)(hB:Wv.heap.size≤B)(az:w2.ownsRow B 37 2 v2 (l.length+1) (l.flatMap qF++qF a))(hg:(w1.alloc o).grownBy w2 v.ownBlock)(cf:v.ownBlock=v2.ownBlock∨v2.ownBlock=some (w1.heap.size+1)):AE W0 Wv vv w D B v (l++[a],st) (.returned v2) w2:=by
 have hv:W0.heap.size<Wv.heap.size:=hp.re.vars.lt;have bj:iU B w1 v l:=bu hr (fun g hg=>hp.only.block g (hr.lt g hg).2 (fun e=>by have:=(hr.lt g hg).1;omega)) (Nat.le_refl _);refine⟨_,rfl,?_,?_,hp.only.push bj hg,?_⟩
 ·show w2.ownsRow B _ 2 v2 (l++[a]).length ((l++[a]).flatMap qF);rw[List.length_append,List.flatMap_append];simpa using az
 ·exact hp.re.turn ((ag.refl (fun _=>False) w1).push bj hg) (fun k hk=>by
   rcases hk with h|h
   ·exact h.elim
   ·have:=(bj.lt k h).1;omega)
 ·rcases cf with h|h
  ·exact .inl h
  ·refine .inr (fun g hg=>?_);rw[h]at hg;cases hg;have:=hp.only.size;omega
theorem adK(hV:dA W0 base D T s nodes tv ns)(st:ai)(id:Nat)(t:ByteArray)(l:List aS)(v:Value)(B:Nat)(w:World)(h:aC W0 Wv vv w D st)(ht:t.size≤1100000)(hr:iU B w v l)(hl:l.length≤1100000)(hB:Wv.heap.size≤B)(eZ:B≤w.heap.size):Calls Tryz.prog 129 #[an W0.heap.size,.int .i64 id,.string t,v] w (AE W0 Wv vv w D B v (ey st t l)):=by
 have AP:=Lib.hid (aa_ t w ht);have FL:=Lib.hid (fun W x(hR:aC W0 Wv vv W D st)=>zY hV st id 85 x W hR);unfold ey;have H:=Lib.hid h;have HR:=Lib.hid hr;obtain⟨R,hR⟩:∃R,lv t=R:=⟨_,rfl⟩;obtain⟨tm,JH⟩:∃x,tp t=x:=⟨_,rfl⟩;obtain⟨bn,p9⟩:∃x,tr t=x:=⟨_,rfl⟩;rw[hR,JH,p9]at AP;rw[hR,JH,p9];have hn:l.length+1≤1100001:=by omega
 have Rb:=h.vars.lt;obtain⟨RR,aq⟩:∃RR:List aS×ai,(l++[⟨tm,bn⟩],⟨st.bad||decide (R≠[]),st.vars⟩)=RR:=⟨_,rfl⟩;rw[aq];have aO:=Lib.hid aq;have HV:=Lib.hid Rb;have aP:=Lib.hid (And.intro hB eZ);have hm:l.length+1≤maxLen:=by unfold maxLen;omega
 have iw:(l.length+1)*32≤140737488355328:=by omega
 obtain⟨n,kL⟩:∃n,l.length=n:=⟨_,rfl⟩;have HN:=Lib.hid kL;rw[kL]at hm iw;have HM:=Lib.hid (And.intro hm iw);clear h hr hR JH p9 hV hl hB Rb aq hn kL eZ hm iw;go_enter Tryz.func129,Tryz.ntmps129;go_wp2_with fail;refine AP.out.mono ?_;rintro e w1⟨u,rfl,he,ar⟩;have X1:=heap_alloc_new w1 (.cells #[.string tm,.string bn] 37);have B1:=Lib.hid (aj ar (.cells #[.string tm,.string bn] 37));have EA:iS w1 u R:=he.wide (fun b hb=>hb.2)
 obtain⟨W1,aH⟩:∃W1,w1.alloc (.cells #[.string tm,.string bn] 37)=W1:=⟨_,rfl⟩;obtain⟨K,hK⟩:∃K,w1.heap.size=K:=⟨_,rfl⟩;have EA:iS W1 u R:=by rw[←aH];exact EA.ext (aj (Below.refl _ _) _)
 rw[aH]at X1 B1;rw[hK]at X1;have P1:=Lib.hid (bG.of H.out B1.out);have kw:Hid (w.heap.size≤K):=Lib.hid (by rw[←hK];exact ar.size);clear he ar;obtain⟨hc,rfl⟩|⟨hc,pf,rfl⟩:=lE EA
 ·have c0:=Lib.cell_of_heap X1 0;have c1:=Lib.cell_of_heap X1 1;have R1:iU B W1 v l:=bu HR.out (fun g hg=>B1.out.block g (HR.out.lt g hg).2) (Nat.le_refl _);have vf:=Lib.hid R1;have BL:=Lib.hid (show B≤W1.heap.size from Nat.le_trans aP.out.2 B1.out.size);have aq:=aO.out;rw[hc]at aq;have hst:(⟨st.bad||decide (([]:List (Int×Int))≠[]),st.vars⟩:ai)=st:=by cases st;simp
  rw[hst]at aq;have sC:=Lib.hid aq;clear EA hc X1 R1 aq hst;go_wp2_with(at_builtin;refine ga W1 #[.string tm,.string bn] 37 rfl _ _ 32 rfl B JG _ _ _ rfl vf.out rfl rfl ?c1 ?c2 ?c3 ?c4 ?_);case c1=>exact⟨rfl,rfl⟩
  case c2=>rw[HN.out];exact HM.out.1
  case c3=>rw[HN.out];exact HM.out.2
  case c4=>exact BL.out
  intro v2 w2 az hg cf;have HP:=Lib.hid (AE.of (a:=⟨tm,bn⟩) P1.out HR.out aP.out.1 az hg cf);clear az hg cf aH hK;go_wp2;go_ret;rw[←sC.out];exact HP.out
 ·have WR:=Lib.hid (wG 11 0 _ R W1 EA);have aY:=aj (Below.refl _ W1) (.cells #[.int .i64 11,.int .i64 0,.iface 85 (.pointer (some pf))] 89);have P2:=Lib.hid (P1.out.more aY);have X2:=Lib.hid ((aY.block _ (ak X1)).trans X1);have z7:=Lib.hid (FL.out _ (.pointer (some ⟨W1.heap.size,0,none⟩)) P2.out.re);have hKW:K≠W0.heap.size:=by have:=H.out.only.size;have:=HV.out;have:=kw.out;omega
  have aq:=aO.out;rw[show(⟨st.bad||decide (R≠[]),st.vars⟩:ai)=st.fail by rw[decide_eq_true hc,Bool.or_true];rfl]at aq;have sC:=Lib.hid aq;clear EA hc X1 aY aq;go_wp2_with fail;clear aH hK;refine WR.out.mono ?_;rintro e w3⟨rfl,rfl⟩;go_wp2_with fail;refine z7.out.mono ?_;rintro e w4⟨rfl,hp⟩;have P4:=Lib.hid (P2.out.trans hp);have X4:=bB hp.only X2.out hKW;have c0:=Lib.cell_of_heap X4 0;have c1:=Lib.cell_of_heap X4 1
  have vf:=Lib.hid (show iU B w4 v l from bu HR.out (fun g hg=>P4.out.only.block g (HR.out.lt g hg).2 (fun e=>by have:=(HR.out.lt g hg).1;have:=HV.out;have:=aP.out.1;omega)) (Nat.le_refl _));have BL:=Lib.hid (show B≤w4.heap.size from Nat.le_trans aP.out.2 P4.out.only.size);clear hp X4;go_wp2_with(at_builtin;refine ga w4 #[.string tm,.string bn] 37 rfl _ _ 32 rfl B JG _ _ _ rfl vf.out rfl rfl ?c1 ?c2 ?c3 ?c4 ?_);case c1=>exact⟨rfl,rfl⟩
  case c2=>rw[HN.out];exact HM.out.1
  case c3=>rw[HN.out];exact HM.out.2
  case c4=>exact BL.out
  intro v2 w2 az hg cf;have HP:=Lib.hid (AE.of (a:=⟨tm,bn⟩) P4.out HR.out aP.out.1 az hg cf);clear az hg cf;go_wp2;go_ret;rw[←sC.out];exact HP.out
end
theorem Em(T:Nat→Prop)(w:World)(m:Nat)(o:Obj)(h:T m):ag T w (w.putObj m o):=⟨rfl,rfl,rfl,by simp,fun k _ hn=>World.putObj_heap_other (fun e=>hn (by rw[e];exact h))⟩
def xJ(M:Option Nat)(w:World):World:=match M with
  |none=>w
  |some m=>w.putObj m (.deferred none)
theorem j8{F:Fence}{n:Nat}{P:Program}{fn:Func}{R:Ending→World→Prop}{a:Act}{w:World}(M:Option Nat){v:Value}{w':World}(hd:a.defers=M.toList.map fun m=>{target:=.collected m,args:=#[]})(hm:∀m,M=some m→w.heap[m]?=some (.deferred (some [])))(hw:w'=xJ M w)(hr:(results fn a.tmps).run P w'=.ok v w')(h:R (.returned v) w'):bodyPostM F n P fn R .ret a w:=by
 show LeavesInM F n P fn a.tmps R a.defers .returning w;rw[hd]
 cases M with
 |none=>subst hw;exact⟨v,hr,h⟩
 |some m=>subst hw;exact⟨by simp,.inl ⟨m,_,rfl,run_takeDeferred (hm m rfl),⟨v,hr,h⟩⟩⟩
structure b8(W0 Wv:World)(vv:Value)(D:Nat)(w:World)(rb X B:Nat)(ty e:TypeId)(k:Nat)(M:Option Nat)(st:ai)(v:Value)(n:Nat)(ds:List a_)(wr:World):Prop where
 re:aC W0 Wv vv wr D st
 only:ag (fun b=>b=W0.heap.size) w wr
 rU:wr.heap[rb]?=some (.cells #[an W0.heap.size] 67 (0,0))
 box:wr.heap[X]?=some (.cells #[v] ty (0,0))
 row:dN B e k wr v n ds
 low:Wv.heap.size≤w.heap.size
 qG:w.heap.size≤rb
 xK:w.heap.size≤X
 rV:rb<B
 n9:X<B
 rx:rb≠X
 mark:∀m,M=some m→B≤m∧wr.heap[m]?=some (.deferred (some []))
section
variable{W0 Wv w wr w':World}{vv v:Value}{D rb X B k n:Nat}{ty e:TypeId}{M:Option Nat}{st ff:ai}{ds:List a_}
theorem b8.w0(h:b8 W0 Wv vv D w rb X B ty e k M st v n ds wr):W0.heap.size<w.heap.size:=Nat.lt_of_lt_of_le h.re.vars.lt h.low
theorem b8.turn{T:Nat→Prop}(h:b8 W0 Wv vv D w rb X B ty e k M st v n ds wr)(hr:aC W0 Wv vv w' D ff)(ho:ag T wr w')(hT:∀b,T b→b=W0.heap.size):b8 W0 Wv vv D w rb X B ty e k M ff v n ds w':=by have h0:=h.w0;have h1:=h.qG;have h2:=h.xK;have h3:=h.rV;exact⟨hr,h.only.trans (ho.wide (fun b _ hb=>hT b hb)),bB ho h.rU (fun t=>by have:=hT _ t;omega),bB ho h.box (fun t=>by have:=hT _ t;omega),h.row.turn ho (fun b hb=>by have:=hT b hb;omega),h.low,h.qG,h.xK,h.rV,h.n9,h.rx,fun m hm=>⟨(h.mark m hm).1,bB ho (h.mark m hm).2 (fun t=>by have:=hT _ t;have:=(h.mark m hm).1;omega)⟩⟩
theorem b8.call(h:b8 W0 Wv vv D w rb X B ty e k M st v n ds wr)(hp:bG W0 Wv vv wr D ff w'):b8 W0 Wv vv D w rb X B ty e k M ff v n ds w':=h.turn hp.re hp.only (fun _ h=>h)
theorem b8.ext(h:b8 W0 Wv vv D w rb X B ty e k M st v n ds wr)(hb:Below wr.heap.size wr w'):b8 W0 Wv vv D w rb X B ty e k M st v n ds w':=h.call (bG.of h.re hb)
theorem JI{w:World}{B n k g:Nat}{e:TypeId}{v:Value}{cs:List Value}(h:w.ownsRow B e k v n cs)(hg:v.ownBlock=some g):∃c t f,w.heap[g]?=some (.cells c t f):=by
 rcases h.2 with⟨rfl,_⟩|⟨g',cap,cur,rfl,_,hc,_⟩
 ·cases hg
 ·cases hg;exact⟨_,_,_,hc⟩
theorem b8.put{v2:Value}{n2:Nat}{Rc:List a_}{w2:World}(h:b8 W0 Wv vv D w rb X B ty e k M st v n ds wr)(hr:aC W0 Wv vv w2 D ff)(ho:ag (fun b=>b=W0.heap.size∨v.ownBlock=some b) wr w2)(h2:dN B e k w2 v2 n2 Rc):b8 W0 Wv vv D w rb X B ty e k M ff v2 n2 Rc (w2.setCell ⟨X,0,none⟩ v2):=by
 have h0:=h.w0;have hl:=h.low;have h1:=h.qG;have hx:=h.xK;have h3:=h.n9;have h4:=h.rV;have hv:=h.row.lt;have dp:w2.heap[X]?=some (.cells #[v] ty (0,0)):=bB ho h.box (by rintro(t|t);omega;have:=(hv _ t).1;omega);have hs:ag (fun b=>b=X) w2 (w2.setCell ⟨X,0,none⟩ v2):=(ag.refl (fun b=>b=X) w2).set (p:=⟨X,0,none⟩) (fun _=>rfl) v2
 refine⟨hr.set (Nat.le_trans hl hx) 0 v2,?_,bB hs (bB ho h.rU (by rintro(t|t);omega;have:=(hv _ t).1;omega)) h.rx,?_,h2.turn hs (fun b hb=>by omega),hl,h1,hx,h4,h3,h.rx,fun m hm=>⟨(h.mark m hm).1,?_⟩⟩
 ·refine(((h.only.wide (T':=fun b=>b=W0.heap.size∨v.ownBlock=some b∨b=X) (fun _ _ t=>.inl t)).trans (ho.wide (fun _ _ t=>t.imp id .inl))).trans (hs.wide (fun _ _ t=>.inr (.inr t)))).wide (fun b hb t=>?_);rcases t with t|t|t
  ·exact t
  ·have:=(hv b t).1;omega
  ·omega
 ·have:=Go.Joins.block_setCell dp (i:=0) v2;exact this
 ·have iw:=h.mark m hm;refine bB hs (bB ho iw.2 ?_) (by have:=iw.1;omega);rintro(t|t)
  ·have:=iw.1;omega
  ·obtain⟨cells,hc,_⟩:=h.row;obtain⟨c,ty2,f,hc⟩:=JI hc t;rw[iw.2]at hc;cases hc
theorem b8.none_(h:b8 W0 Wv vv D w rb X B ty e k M st v n ds wr):b8 W0 Wv vv D w rb X B ty e k M st (.slice none 0 0) 0 [] (wr.setCell ⟨X,0,none⟩ (.slice none 0 0)):=h.put h.re (ag.refl _ _) dN.nil
theorem b8.gb(h:b8 W0 Wv vv D w rb X B ty e k M st v n ds wr):wr.cell? ⟨rb,0,none⟩=some (an W0.heap.size):=Lib.cell_of_heap h.rU 0
theorem b8.cell(h:b8 W0 Wv vv D w rb X B ty e k M st v n ds wr):wr.cell? ⟨X,0,none⟩=some v∧wr.frozen? ⟨X,0,none⟩=false:=⟨Lib.cell_of_heap h.box 0,Go.Joins.unfrozen_of_block h.box 0⟩
theorem b8.marked{m:Nat}(h:b8 W0 Wv vv D w rb X B ty e k none st v n ds wr)(hm:B≤m)(hd:wr.heap[m]?=some (.deferred (some []))):b8 W0 Wv vv D w rb X B ty e k (some m) st v n ds wr:=⟨h.re,h.only,h.rU,h.box,h.row,h.low,h.qG,h.xK,h.rV,h.n9,h.rx,fun j hj=>by cases hj;exact⟨hm,hd⟩⟩
theorem kN{B k n:Nat}{e:TypeId}{w:World}{v:Value}{ds:List a_}(h:dN B e k w v n ds):w.ownsRow B e k v n h.choose:=h.choose_spec.1
theorem b8.push{news:List Value}{dn:List a_}{o:Obj}{v2:Value}{w2:World}(h:b8 W0 Wv vv D w rb X B ty e k M st v n ds wr)(hn:bp (qq B wr v) wr news dn)(az:w2.ownsRow B e k v2 (n+1) (h.row.choose++news))(hg:(wr.alloc o).grownBy w2 v.ownBlock)(cf:v.ownBlock=v2.ownBlock∨v2.ownBlock=some (wr.heap.size+1)):b8 W0 Wv vv D w rb X B ty e k M st v2 (n+1) (ds++dn) (w2.setCell ⟨X,0,none⟩ v2)∧ag (fun b=>b=X∨B≤b) wr (w2.setCell ⟨X,0,none⟩ v2)∧w2.cell? ⟨X,0,none⟩=some v∧w2.frozen? ⟨X,0,none⟩=false:=by
 have h0:=h.w0;have hl:=h.low;have h1:=h.qG;have h3:=h.n9;have h4:=h.rV;have hv:=h.row.lt;have jo:ag (fun b=>False∨v.ownBlock=some b) wr w2:=(ag.refl (fun _=>False) wr).push (kN h.row) hg;have hR:dN B e k w2 v2 (n+1) (ds++dn):=dN.push h.row.choose_spec.2 hn az hg cf;have ik:aC W0 Wv vv w2 D st:=h.re.turn jo (fun j hj=>by rcases hj with t|t;exact t.elim;have:=(hv j t).1;omega)
 have dp:w2.heap[X]?=some (.cells #[v] ty (0,0)):=bB jo h.box (by rintro(t|t);exact t;have:=(hv _ t).1;omega);refine⟨h.put ik (jo.wide (fun _ _ t=>by rcases t with t|t;exact t.elim;exact .inr t)) hR,(jo.wide (fun j _ t=>by rcases t with t|t;exact t.elim;exact .inr (hv j t).1)).set (p:=⟨X,0,none⟩) (fun _=>.inl rfl) v2,Lib.cell_of_heap dp 0,Go.Joins.unfrozen_of_block dp 0⟩
theorem b8.far{o:Obj}{w2:World}(h:b8 W0 Wv vv D w rb X B ty e k M st v n ds wr)(hg:(wr.alloc o).grownBy w2 v.ownBlock):w2.cell? ⟨X,0,none⟩=some v∧w2.frozen? ⟨X,0,none⟩=false:=by have h3:=h.n9;have hv:=h.row.lt;have dp:w2.heap[X]?=some (.cells #[v] ty (0,0)):=bB ((ag.refl (fun _=>False) wr).push (kN h.row) hg) h.box (by rintro(t|t);exact t;have:=(hv _ t).1;omega);exact⟨Lib.cell_of_heap dp 0,Go.Joins.unfrozen_of_block dp 0⟩
def fu(B:Nat)(e:TypeId)(k:Nat)(w:World)(v:Value)(n:Nat)(ds:List a_):Prop:=∃cells,w.ownsRow B e k v n cells∧bp (fun _=>False) w cells ds
theorem fu.pj(h:fu B e k wr v n ds):dN B e k wr v n ds:=by obtain⟨cells,h1,h2⟩:=h;exact⟨cells,h1,h2.mono (fun _ h=>h.elim) (fun _ h=>h.elim)⟩
theorem fu.turn{T:Nat→Prop}(h:fu B e k wr v n ds)(ho:ag T wr w')(hT:∀g,v.ownBlock=some g→¬T g):fu B e k w' v n ds:=by obtain⟨cells,h1,h2⟩:=h;exact⟨cells,bu h1 (fun g hg=>ho.block g (h1.lt g hg).2 (hT g hg)) (Nat.le_refl _),h2.mono (fun _ h=>h.elim) (fun _ h=>h)⟩
theorem fu.nil:fu B e k wr (.slice none 0 0) 0 []:=⟨[],World.ownsRow_nil wr B e k,bp.nil⟩
theorem b8.adN{cells news:List Value}{dn:List a_}{o:Obj}{v2:Value}{w2:World}(h:b8 W0 Wv vv D w rb X B ty e k M st v n ds wr)(h1:wr.ownsRow B e k v n cells)(h2:bp (fun _=>False) wr cells ds)(hn:bp (fun _=>False) wr news dn)(az:w2.ownsRow B e k v2 (n+1) (cells++news))(hg:(wr.alloc o).grownBy w2 v.ownBlock):b8 W0 Wv vv D w rb X B ty e k M st v2 (n+1) (ds++dn) (w2.setCell ⟨X,0,none⟩ v2)∧fu B e k (w2.setCell ⟨X,0,none⟩ v2) v2 (n+1) (ds++dn):=by
 have h0:=h.w0;have hl:=h.low;have hx:=h.qG;have h3:=h.n9;have h4:=h.rV;have jo:ag (fun b=>False∨v.ownBlock=some b) wr w2:=(ag.refl (fun _=>False) wr).push h1 hg;have hF:fu B e k w2 v2 (n+1) (ds++dn):=⟨_,az,(h2.append hn).mono (fun _ t=>t.elim) (fun _ t=>t)⟩;have ik:aC W0 Wv vv w2 D st:=h.re.turn jo (fun j hj=>by rcases hj with t|t;exact t.elim;have:=(h1.lt j t).1;omega)
 exact⟨h.put ik (jo.wide (fun _ _ t=>by rcases t with t|t;exact t.elim;exact .inr t)) hF.pj,hF.turn ((ag.refl (fun b=>b=X) w2).set (p:=⟨X,0,none⟩) (fun _=>rfl) v2) (fun g qe t=>by have:=(az.lt g qe).1;omega)⟩
theorem b8.others{l:Nat}(o:Obj)(h:b8 W0 Wv vv D w rb X B ty e k none st v n ds wr)(hf:fu B e k wr v n ds)(hl:B≤l)(hv:v.ownBlock≠some l):b8 W0 Wv vv D w rb X B ty e k none st v n ds (wr.putObj l o)∧fu B e k (wr.putObj l o) v n ds:=by have h0:=h.w0;have pn:=h.low;have h1:=h.qG;have hx:=h.xK;have h3:=h.n9;have h4:=h.rV;have ho:=Em (fun b=>b=l) wr l o rfl;have hF:=hf.turn ho (fun g hg e=>hv (by rw[hg,e]));exact⟨⟨h.re.turn ho (fun k hk=>by omega),⟨h.only.os,h.only.tape,h.only.output,by have:=h.only.size;simpa using this,fun k hk hn=>(World.putObj_heap_other (by omega)).trans (h.only.block k hk hn)⟩,bB ho h.rU (by omega),bB ho h.box (by omega),hF.pj,pn,h1,hx,h4,h3,h.rx,fun m hm=>by cases hm⟩,hF⟩
def gg(W0 Wv:World)(vv:Value)(w:World)(D k:Nat)(ds:List a_)(st:ai)(e:Ending)(w':World):Prop:=∃v,e=.returned v∧v.oneCell'=true∧Rd (dY w w') w' v (.list k ds)∧bG W0 Wv vv w D st w'
theorem b8.fin(h:b8 W0 Wv vv D w rb X B ty e k M st v n ds wr)(hf:M=none∨fu B e k wr v n ds):gg W0 Wv vv w D k ds st (.returned v) (xJ M wr):=by
 have h0:=h.w0;have pn:=h.low;have h1:=h.qG;have h4:=h.rV;have fr:∀W,Rd (fun b=>B≤b∧b<W.heap.size) W v (.list k ds)→Rd (dY w W) W v (.list k ds):=fun W hr=>hr.wide (fun b hb=>⟨by have:=hb.1;omega,hb.2⟩);have Re:v.oneCell'=true:=by obtain⟨cells,hc,_⟩:=h.row;exact Ej hc
 cases M with
 |none=>exact⟨v,rfl,Re,fr _ h.row.rd,h.re,h.only⟩
 |some m=>
  obtain⟨hm1,iw⟩:=h.mark m rfl
  have hF:fu B e k wr v n ds:=by
   rcases hf with hf|hf
   ·cases hf
   ·exact hf
  have ho:=Em (fun b=>b=m) wr m (.deferred none) rfl;have hF2:=hF.turn ho (fun g hg e=>by obtain⟨cells,hc,_⟩:=h.row;obtain⟨c,t,f,hc⟩:=JI hc hg;rw[e,iw]at hc;cases hc);exact⟨v,rfl,Re,fr _ hF2.pj.rd,h.re.turn ho (fun k hk=>by omega),⟨h.only.os,h.only.tape,h.only.output,by have:=h.only.size;simpa[xJ]using this,fun k hk hn=>(World.putObj_heap_other (by omega)).trans (h.only.block k hk hn)⟩⟩
theorem b8.tI(h:b8 W0 Wv vv D w rb X B ty e k M st v n ds wr)(hf:M=none∨fu B e k wr v n ds):∃W',W'=xJ M wr∧W'.cell? ⟨X,0,none⟩=some v∧(∀m,M=some m→wr.heap[m]?=some (.deferred (some [])))∧gg W0 Wv vv w D k ds st (.returned v) W':=by
 have hx:=h.n9;refine⟨_,rfl,?_,fun m hm=>(h.mark m hm).2,h.fin hf⟩
 cases M with
 |none=>exact Lib.cell_of_heap h.box 0
 |some m=>have hm:=(h.mark m rfl).1;exact Lib.cell_of_heap ((World.putObj_heap_other (by omega)).trans h.box) 0
theorem b8.end_(h:b8 W0 Wv vv D w rb X B ty e k M st v n ds wr)(hf:M=none∨fu B e k wr v n ds):∃W',W'=xJ M (wr.setCell ⟨X,0,none⟩ v)∧W'.cell? ⟨X,0,none⟩=some v∧(∀m,M=some m→(wr.setCell ⟨X,0,none⟩ v).heap[m]?=some (.deferred (some [])))∧gg W0 Wv vv w D k ds st (.returned v) W':=by have hx:=h.n9;have hl:=h.row.lt;exact b8.tI (h.put h.re (ag.refl _ _) h.row) (hf.imp id (fun hF=>hF.turn ((ag.refl (fun b=>b=X) wr).set (p:=⟨X,0,none⟩) (fun _=>rfl) v) (fun g hg e=>by have:=(hl g hg).1;omega)))
def GJ(W0 Wv:World)(vv:Value)(D:Nat)(w:World)(rb X B:Nat)(ty e:TypeId)(k n:Nat)(ds:List a_)(Z:Nat→Prop)(st:ai)(W:World):Prop:=∃v,(b8 W0 Wv vv D w rb X B ty e k none st v n ds W∧fu B e k W v n ds)∧∀k,Z k→k<W.heap.size∧k≠W0.heap.size∧k≠X∧v.ownBlock≠some k
theorem GJ.keep{Z:Nat→Prop}(h:GJ W0 Wv vv D w rb X B ty e k n ds Z st wr)(hp:bG W0 Wv vv wr D ff w'):GJ W0 Wv vv D w rb X B ty e k n ds (xo Z wr w') ff w':=by
 obtain⟨v,⟨hg,hf⟩,hz⟩:=h;have h0:=hg.w0;have h1:=hg.qG;have h4:=hg.rV;have hl:=hf.pj.lt;have hx:=ak hg.box;have hr:=hg.re.lt;refine⟨v,⟨hg.call hp,hf.turn hp.only (fun g qe e=>by have:=(hl g qe).1;omega)⟩,fun j hj=>?_⟩;rcases hj with hj|hj
 ·obtain⟨a,b,c,d⟩:=hz j hj;exact⟨Nat.lt_of_lt_of_le a hp.only.size,b,c,d⟩
 ·exact⟨hj.2,by omega,by omega,fun e=>by have:=(hl j e).2;omega⟩
theorem GJ.put{Z:Nat→Prop}{l:Nat}(o:Obj)(h:GJ W0 Wv vv D w rb X B ty e k n ds Z st wr)(hZ:Z l)(hl:B≤l):GJ W0 Wv vv D w rb X B ty e k n ds Z st (wr.putObj l o):=by obtain⟨v,⟨hg,hf⟩,hz⟩:=h;exact⟨v,hg.others o hf hl (hz l hZ).2.2.2,fun j hj=>by have:=hz j hj;simpa using this⟩
theorem GJ.Rf{Z:Nat→Prop}(hg:b8 W0 Wv vv D w rb X B ty e k none st v n ds wr)(hf:fu B e k wr v n ds)(hz:∀k,Z k→wr.heap.size≤k)(hb:Below wr.heap.size wr w')(hZ:∀k,Z k→k<w'.heap.size):GJ W0 Wv vv D w rb X B ty e k n ds Z st w':=by have hl:=hf.pj.lt;have hx:=ak hg.box;have hr:=hg.re.lt;refine⟨v,⟨hg.ext hb,hf.turn (T:=fun _=>False) (ag.of hb) (fun _ _ h=>h)⟩,fun j hj=>?_⟩;have:=hz j hj;exact⟨hZ j hj,by omega,by omega,fun e=>by have:=(hl j e).2;omega⟩
end
end Go.Proofs.YtcaiibkgajhohaaGreatDoor
