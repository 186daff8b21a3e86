/- waybill: lemmas and walks, printed from longer texts. -/
import Derived.Test.YtcaiibkgajhohaaGreatDoorM39
set_option maxRecDepth 100000
set_option maxHeartbeats 16000000
namespace Go.Proofs.YtcaiibkgajhohaaGreatDoor
open Go.RowKit
theorem Ux{l:List ByteArray}{x:ByteArray}(h:x∈l):x.size≤(J l).size:=by
 have key:∀l:List (List UInt8),∀y∈l,y.length≤(Lib.joinTail [44] l).length:=by
  intro l
  induction l with
  |nil=>intro y hy;simp at hy
  |cons z l ih=>
   intro y hy;have e:Lib.joinTail [44] (z::l)=[44]++z++Lib.joinTail [44] l:=by simp[Lib.joinTail]
   rw[e,List.length_append,List.length_append];rcases List.mem_cons.1 hy with rfl|hy
   ·omega
   ·have:=ih y hy;omega
 have e:(J l).size=(Lib.join (l.map (·.data.toList)) [44]).length:=by unfold J;show(List.toArray _).size=_;simp
 rw[e];have hx:x.size=x.data.toList.length:=by rw[Array.length_toList];rfl
 rw[hx]
 cases l with
 |nil=>simp at h
 |cons z l=>
  rw[List.map_cons,Lib.join_cons,List.length_append];rcases List.mem_cons.1 h with rfl|h
  ·omega
  ·have:=key (l.map (·.data.toList)) x.data.toList (List.mem_map.2 ⟨x,h,rfl⟩);omega
theorem Uy(l:List ByteArray)(j:Nat):(J (l.take j)).size≤(J l).size+1:=by
 have key:∀(l:List ByteArray)(j:Nat),(Lib.joinTail [44] ((l.take j).map (·.data.toList))).length≤(Lib.joinTail [44] (l.map (·.data.toList))).length:=by
  intro l
  induction l with
  |nil=>intro j;simp
  |cons x l ih=>
   intro j
   cases j with
   |zero=>simp[Lib.joinTail]
   |succ j=>have:=ih j;simp[Lib.joinTail]at this⊢;omega
 have e:∀l:List ByteArray,(J l).size=(Lib.join (l.map (·.data.toList)) [44]).length:=fun l=>by unfold J;show(List.toArray _).size=_;simp
 rw[e,e]
 cases l with
 |nil=>simp
 |cons x l=>
  cases j with
  |zero=>simp[Lib.join_nil]
  |succ j=>rw[List.take_succ_cons,List.map_cons,List.map_cons,Lib.join_cons,Lib.join_cons,List.length_append,List.length_append];have:=key l j;omega
def KM(l:List ByteArray)(W:World)(o i:Value)(wr:World):Prop:=wr=W∧∃j:Nat,i=.int .i64 j∧j≤l.length∧o=.string (⟨#[91]⟩++J (l.take j))
theorem KO(w:World)(v:Value)(l:List ByteArray)(h:Rd (Own w) w v (.list 1 (l.map .str)))(hl:l.length≤1100000)(hz:(cC l).size≤100000000000000):Calls Tryz.prog 47 #[v] w fun e w'=>e=.returned (.string (cC l))∧w=w':=by
 obtain⟨a,c,rfl,_,hc,hx⟩:=h.Cr;have HX:=Lib.hid hx;have x9:(J l).size≤100000000000000:=by unfold cC at hz;rw[ByteArray.size_append,ByteArray.size_append]at hz;omega
 have HJ:=Lib.hid x9;obtain⟨R,hR⟩:∃R,cC l=R:=⟨_,rfl⟩;rw[hR];have HR:=Lib.hid hR;clear h hx hz x9 hR;go_enter Tryz.func47,Tryz.ntmps47;go_wp2_with fail;go_loopw[3,4](KM l w)(fun _ i _=>l.length-(intOf i).toNat);case atStart=>exact⟨rfl,0,rfl,Nat.zero_le _,by rw[List.take_zero,Km];rfl⟩
 case round=>
  obtain⟨rfl,j,rfl,hj,rfl⟩:=hrel;have hsz:=Uy l j;have ix:=HJ.out;by_cases hlt:j<l.length
  ·obtain⟨x,hx⟩:=bN l j hlt;obtain⟨b,off,rfl,_,hcell⟩:=HX.out (by omega);have c0:=hcell j x hx;have x5:x.size≤100000000000000:=Nat.le_trans (Ux (List.mem_of_getElem? hx)) ix;have t1:decide ((j:Int)<(l.length:Int))=true:=decide_eq_true (by omega);have aT:decide (j<l.length)=true:=decide_eq_true hlt;have q1:IntKind.i64.wrap ((j:Int)+1)=(j:Int)+1:=IntWalk.i64_in _ (by omega);have hst:=Ts hx ⟨#[91]⟩
   have Fh:(⟨#[91]⟩++J (l.take j):ByteArray).size≤100000000000002:=by rw[ByteArray.size_append];have:(⟨#[91]⟩:ByteArray).size=1:=rfl;omega
   generalize(⟨#[91]⟩++J (l.take j):ByteArray)=u at*;by_cases h0:0<j
   ·rw[if_pos h0]at hst;have t0:decide ((0:Int)<(j:Int))=true:=decide_eq_true (by omega);have t0':decide (0<j)=true:=decide_eq_true h0;have R1:KM l wr (.string (u++⟨#[44]⟩++x)) (.int .i64 ((j:Int)+1)) wr:=⟨rfl,j+1,by go_num,hlt,by rw[hst]⟩;have aO:=Lib.hid R1;clear R1 hst hcell hx hsz ix;go_wp2;refine⟨?_,by simp[intOf];omega⟩;have R:=aO.out;first|exact R|((repeat apply Exists.intro);exact⟨R,rfl⟩)
   ·rw[if_neg h0]at hst;have t0:decide ((0:Int)<(j:Int))=false:=decide_eq_false (by omega);have t0':decide (0<j)=false:=decide_eq_false h0;have R1:KM l wr (.string (u++x)) (.int .i64 ((j:Int)+1)) wr:=⟨rfl,j+1,by go_num,hlt,by rw[hst]⟩;have aO:=Lib.hid R1;clear R1 hst hcell hx hsz ix h0;go_wp2;refine⟨?_,by simp[intOf];omega⟩;have R:=aO.out;first|exact R|((repeat apply Exists.intro);exact⟨R,rfl⟩)
  ·have kh:j=l.length:=by omega
   have t1:decide ((j:Int)<(l.length:Int))=false:=decide_eq_false (by omega);have aT:decide (j<l.length)=false:=decide_eq_false hlt;have eQ:l.take j=l:=by rw[kh,List.take_length]
   rw[eQ]at hsz⊢;have EG:Hid (R=⟨#[91]⟩++J l++⟨#[93]⟩):=Lib.hid HR.out.symm;have Fh:(⟨#[91]⟩++J l:ByteArray).size≤100000000000002:=by rw[ByteArray.size_append];have:(⟨#[91]⟩:ByteArray).size=1:=rfl;omega
   generalize(⟨#[91]⟩++J l:ByteArray)=u at*;clear hsz ix eQ kh;go_wp2;go_ret;exact⟨by rw[EG.out];rfl,rfl⟩
theorem agc(a b:ByteArray):Op.bytesLess a.toList b.toList=ek a b:=by rw[Uj,ByteArray.toList_eq,ByteArray.toList_eq];rfl
def jv(keys:List ByteArray)(tk:Nat→Bool)(n:Nat):Int:=match jq keys tk n with
  |some b=>(b:Nat)
  |none=>-1
def Uz(keys:List ByteArray)(tk:Nat→Bool)(W:World)(b i:Value)(wr:World):Prop:=(∃q,wr=W.drewN q)∧∃j:Nat,i=.int .i64 j∧j≤keys.length∧b=.int .i64 (jv keys tk j)
theorem agd(w:World)(v:Value)(keys:List ByteArray)(bt ct:Nat)(tk:Nat→Bool)(h:Rd (Own w) w v (.list 1 (keys.map .str)))(hl:keys.length≤1100000)(ht:∀i,i<keys.length→w.cell? ⟨bt,i,none⟩=some (.bool (tk i))):Calls Tryz.prog 79 #[v,.slice (some ⟨bt,0,none⟩) keys.length ct] w fun e w'=>e=.returned (.int .i64 (jv keys tk keys.length))∧∃n,w'=w.drewN n:=by
 obtain⟨a,c,rfl,_,hc,hx⟩:=h.Cr;have HX:=Lib.hid hx;have HT:=Lib.hid ht;clear h hx ht;go_enter Tryz.func79,Tryz.ntmps79;go_wp2_with fail;go_loopw[5,6](Uz keys tk w)(fun _ i _=>keys.length-(intOf i).toNat);case atStart=>exact⟨⟨0,rfl⟩,0,rfl,Nat.zero_le _,rfl⟩
 case round=>
  obtain⟨⟨q,hw⟩,j,rfl,hj,rfl⟩:=hrel;have HW:=Lib.hid hw;by_cases hlt:j<keys.length
  ·obtain⟨x,hx⟩:=bN keys j hlt;obtain⟨b,off,rfl,_,hcell⟩:=HX.out (by omega);have c0:∀n,(wr.drewN n).cell? ⟨b,off+j,none⟩=some (.string x):=fun n=>by rw[hw];exact hcell j x hx
   have d0:∀n,(wr.drewN n).cell? ⟨bt,j,none⟩=some (.bool (tk j)):=fun n=>by rw[hw];exact HT.out j hlt
   have t1:decide ((j:Int)<(keys.length:Int))=true:=decide_eq_true (by omega);have aT:decide (j<keys.length)=true:=decide_eq_true hlt;have q1:IntKind.i64.wrap ((j:Int)+1)=(j:Int)+1:=IntWalk.i64_in _ (by omega);have Bv:bF keys j=x:=by unfold bF;rw[hx];rfl
   have hstep:jq keys tk (j+1)=if tk j then jq keys tk j else match jq keys tk j with
     |none=>some j
     |some b=>if ek (bF keys j) (bF keys b)then some j else some b:=rfl
   have mk:∀(z:Int)(n:Nat),jv keys tk (j+1)=z→Uz keys tk w (.int .i64 z) (.int .i64 ((j:Int)+1)) (wr.drewN n):=fun z n h=>⟨⟨q+n,by rw[hw,World.drewN_drewN]⟩,j+1,by go_num,hlt,by rw[h]⟩
   cases eQ:tk j with
   |true=>rw[eQ]at d0 hstep;rw[if_pos rfl]at hstep;have HM:=Lib.hid (fun n=>mk (jv keys tk j) n (by unfold jv;rw[hstep]));generalize jv keys tk j=z at*;clear mk hstep Bv hcell hx eQ hw;go_wp2_with fail;go_quiet(fail);go_wp2;refine⟨?_,by simp[intOf];omega⟩;have R:=HM.out;first|exact R _|((repeat apply Exists.intro);exact⟨R _,rfl⟩)
   |false=>
    rw[eQ]at d0 hstep;rw[if_neg (by decide)]at hstep
    cases hb:jq keys tk j with
    |none=>rw[hb]at hstep;(have hz:jv keys tk j=-1:=by unfold jv;rw[hb]);rw[hz];have HM:=Lib.hid (fun n=>mk (j:Nat) n (by unfold jv;rw[hstep]));clear mk hstep Bv hcell hx eQ hb hz hw;go_wp2_with fail;go_quiet(fail);go_wp2;refine⟨?_,by simp[intOf];omega⟩;have R:=HM.out;first|exact R _|((repeat apply Exists.intro);exact⟨R _,rfl⟩)
    |some i=>
     rw[hb]at hstep;have hi:=(vU j i hb).1;obtain⟨y,hy⟩:=bN keys i (by omega);have e0:∀n,(wr.drewN n).cell? ⟨b,off+i,none⟩=some (.string y):=fun n=>by rw[hw];exact hcell i y hy
     have KP:bF keys i=y:=by unfold bF;rw[hy];rfl
     simp only[Bv,KP]at hstep;have hz:jv keys tk j=(i:Nat):=by unfold jv;rw[hb]
     rw[hz];have KL:=agc x y;have t2:decide ((i:Int)<0)=false:=decide_eq_false (by omega);have jZ:i<keys.length:=by omega
     cases fm:ek x y with
     |true=>rw[fm]at KL;rw[fm,if_pos rfl]at hstep;have HM:=Lib.hid (fun n=>mk (j:Nat) n (by unfold jv;rw[hstep]));clear mk hstep Bv hcell hx eQ hb hz KP hy fm hi hw;go_wp2_with fail;go_quiet(fail);go_wp2;refine⟨?_,by simp[intOf];omega⟩;have R:=HM.out;first|exact R _|((repeat apply Exists.intro);exact⟨R _,rfl⟩)
     |false=>rw[fm]at KL;rw[fm,if_neg (by decide)]at hstep;have HM:=Lib.hid (fun n=>mk (i:Nat) n (by unfold jv;rw[hstep]));clear mk hstep Bv hcell hx eQ hb hz KP hy fm hi hw;go_wp2_with fail;go_quiet(fail);go_wp2;refine⟨?_,by simp[intOf];omega⟩;have R:=HM.out;first|exact R _|((repeat apply Exists.intro);exact⟨R _,rfl⟩)
  ·have kh:j=keys.length:=by omega
   have t1:decide ((j:Int)<(keys.length:Int))=false:=decide_eq_false (by omega);have aT:decide (j<keys.length)=false:=decide_eq_false hlt;have HB:Hid (jv keys tk keys.length=jv keys tk j):=Lib.hid (by rw[kh]);generalize jv keys tk j=z at*;clear kh hw;go_wp2;go_ret;exact⟨by rw[HB.out];rfl,q,HW.out⟩
structure dX(w0 w:World)(X:Nat)(f:Fl):Prop where
 below:Below w0.heap.size w0 w
 le:w0.heap.size≤X
 dJ:w.heap[X]?=some (.cells #[.bool f.vV,.bool f.twice] 110 (0,0))
theorem dX.lt{w0 w:World}{X:Nat}{f:Fl}(h:dX w0 w X f):X<w.heap.size:=ak h.dJ
theorem dX.ext{w0 w w':World}{X:Nat}{f:Fl}(h:dX w0 w X f)(hb:Below w.heap.size w w'):dX w0 w' X f:=⟨h.below.trans (hb.mono h.below.size),h.le,(hb.block _ h.lt).trans h.dJ⟩
theorem dX.turn{w0 w w':World}{X:Nat}{f:Fl}{T:Nat→Prop}(h:dX w0 w X f)(ho:ag T w w')(hT:∀k,T k→w0.heap.size≤k∧k≠X):dX w0 w' X f:=⟨h.below.trans (ho.below h.below.size (fun k hk=>(hT k hk).1)),h.le,(ho.block _ h.lt (fun ht=>(hT _ ht).2 rfl)).trans h.dJ⟩
theorem dX.vV{w0 w:World}{X:Nat}{f:Fl}(h:dX w0 w X f):dX w0 (w.setCell ⟨X,0,none⟩ (.bool true)) X (f.add true false):=⟨h.below.setCell (p:=⟨X,0,none⟩) h.le _,h.le,by have:=Go.Joins.block_setCell h.dJ (i:=0) (.bool true);simpa[Fl.add]using this⟩
theorem dX.twice{w0 w:World}{X:Nat}{f:Fl}(h:dX w0 w X f)(b:Bool):dX w0 (w.setCell ⟨X,1,none⟩ (.bool (f.twice||b))) X (f.add false b):=⟨h.below.setCell (p:=⟨X,1,none⟩) h.le _,h.le,by have:=Go.Joins.block_setCell h.dJ (i:=1) (.bool (f.twice||b));simpa[Fl.add]using this⟩
def UA(w0 w:World)(X:Nat)(f:Fl)(u t:Bool)(T:ByteArray)(e:Ending)(w':World):Prop:=e=.returned (.string T)∧dX w0 w' X (f.add u t)∧ag (fun b=>b=X) w w'
theorem KQ(w0 w:World)(X:Nat)(f:Fl)(s:ByteArray)(h:dX w0 w X f)(hs:s.size≤1048576):Calls Tryz.prog 80 #[an X,.string s] w (UA w0 w X f (!aN s) false (aG s)):=by
 obtain⟨W0,cap,hcv,gY,dc,bT,hcell⟩:=yR s w;have L:=zq (S:=Own W0) (B:=s) (b:=w.heap.size) bT gY hcell;have RC:=abA _ s W0 L (by omega);have HQ:=Lib.hid (fun W=>af7 s W hs);have P0:=Lib.hid (h.ext dc);have je:=Lib.hid dc;unfold aN;obtain⟨R,hR⟩:∃R,dZ s 0 []=R:=⟨_,rfl⟩;have rh:∀k p,R=.no k p→0≤p:=fun k p h=>(abm (hR.trans h)).2;rw[hR]at RC⊢;have RC:=Lib.hid RC;unfold an;clear h L dc bT hcell gY hR
 cases R with
 |ok l=>go_enter Tryz.func80,Tryz.ntmps80;go_wp2_with fail;go_at_call 65;refine RC.out.mono ?_;rintro e w1⟨hb,hp⟩;obtain⟨v,rfl⟩:=hp;have P1:=Lib.hid (P0.out.ext hb);have O1:=Lib.hid (ag.of (T:=fun b=>b=X) (aF je.out hb));clear hb rh;go_wp2_with fail;refine(HQ.out _).mono ?_;rintro e w2⟨rfl,ah⟩;have P2:=Lib.hid (P1.out.ext ah);have O2:=Lib.hid (O1.out.trans (ag.of ah));clear ah;go_wp2;go_ret;exact⟨rfl,by rw[show(!true)=false from rfl,Fl.dO];exact P2.out,O2.out⟩
 |no k p=>
  have t3:decide ((0:Int)≤p)=true:=decide_eq_true (rh k p rfl);go_enter Tryz.func80,Tryz.ntmps80;go_wp2_with fail;go_at_call 65;refine RC.out.mono ?_;rintro e w1⟨hb,hp⟩;obtain⟨v,rfl⟩:=hp;have p1:=P0.out.ext hb;have c0:=Lib.cell_of_heap p1.dJ 0;have fr:=Go.Joins.unfrozen_of_block p1.dJ 0;have P1:=Lib.hid p1.vV;have O1:=Lib.hid ((ag.of (T:=fun b=>b=X) (aF je.out hb)).set (p:=⟨X,0,none⟩) (fun _=>rfl) (.bool true));clear hb rh p1;go_wp2_with fail;refine(HQ.out _).mono ?_;rintro e w2⟨rfl,ah⟩
  have P2:=Lib.hid (P1.out.ext ah);have O2:=Lib.hid (O1.out.trans (ag.of ah));clear ah;go_wp2;go_ret;exact⟨rfl,P2.out,O2.out⟩
def UB(w0 w:World)(X:Nat)(f:Fl)(l:List ByteArray)(v k:Value)(wr:World):Prop:=∃j:Nat,k=.int .i64 j∧j≤l.length∧dX w0 wr X (f.add ((l.take j).any fun s=>!aN s) false)∧ag (fun b=>b=X) w wr∧wr.ownsRow w.heap.size 9 1 v j (bo ((l.map aG).take j))
theorem UC(w0 w:World)(X:Nat)(f:Fl)(v:Value)(l:List ByteArray)(h:dX w0 w X f)(hr:ou X w v l)(hs:∀s∈l,s.size≤1048576)(hz:(l.map fun s=>aJ s+1).sum+2≤100000000000000)(hl:l.length≤1100000):Calls Tryz.prog 46 #[an X,v] w (UA w0 w X f (l.any fun s=>!aN s) false (cC (l.map aG))):=by
 have HR:=Lib.hid hr;obtain⟨a,c,rfl,_⟩:=hr;have H:=Lib.hid h;have HS:=Lib.hid hs;have HZ:=Lib.hid (show(cC (l.map aG)).size≤100000000000000 by have h1:=Kt (l.map aG);rw[List.map_map]at h1;have h2:(l.map ((fun t=>t.size+1)∘aG)).sum≤(l.map fun s=>aJ s+1).sum:=qN _ (fun s _=>by show(aG s).size+1≤_;have:=tY s;omega);omega);obtain⟨n,hn⟩:∃n,l.length=n:=⟨_,rfl⟩;have HN:=Lib.hid hn;rw[hn]at hl HR⊢;clear h hs hz hn;unfold an;go_enter Tryz.func46,Tryz.ntmps46;go_wp2_with fail
 go_loopw[5,6](UB w0 w X f l)(fun _ i _=>n-(intOf i).toNat);case atStart=>have o:=World.ownsRow_lit (base:=w.heap.size) (e:=9) (size:=1) w #[] 0 (Nat.le_refl _) (by decide) rfl;exact⟨0,rfl,Nat.zero_le _,by simpa[Fl.dO]using H.out.ext (aj (Below.refl _ w) (.cells #[] 9)),ag.of (aj (Below.refl _ w) _),by simpa[bo]using o⟩
 case round=>
  obtain⟨j,rfl,hj,hp,ho,az⟩:=hrel;rw[HN.out]at hj;obtain⟨ao,cap,rfl,_⟩:=aM az;have HP:=Lib.hid hp;have HO:=Lib.hid ho;have HW:=Lib.hid az;clear hp ho az;by_cases hlt:j<n
  ·have t1:decide ((j:Int)<(n:Int))=true:=decide_eq_true (by omega);have aT:decide (j<n)=true:=decide_eq_true hlt;have q1:IntKind.i64.wrap ((j:Int)+1)=(j:Int)+1:=IntWalk.i64_in _ (by omega);obtain⟨s,lM⟩:=bN l j (by rw[HN.out];exact hlt);obtain⟨b,o,rfl,_,_,c0⟩:=(HR.out.turn HO.out).cell j s lM;have TX:=Lib.hid (KQ w0 wr X _ s HP.out (HS.out s (List.mem_of_getElem? lM)));have HJ:=Lib.hid lM;obtain⟨T,hT⟩:∃T,aG s=T:=⟨_,rfl⟩;rw[hT]at TX;have pA:=Lib.hid hT
   unfold an at TX;clear lM hT;go_wp2_with fail;refine TX.out.mono ?_;rintro e w2⟨rfl,fO,aE⟩;have kE:=Lib.hid fO;have jt:=Lib.hid aE;have HX:=H.out.lt;have sb:=Lib.hid (show w2.ownsRow w.heap.size 9 1 (.slice ao j cap) j (bo ((l.map aG).take j))from bu HW.out (fun g hg=>jt.out.block g (HW.out.lt g hg).2 (fun e=>by have:=(HW.out.lt g hg).1;omega)) (Nat.le_refl _));clear fO aE c0;go_wp2_with(at_builtin;refine iY w2 #[.string T] 9 rfl _ _ 96 rfl w.heap.size eK _ _ _ rfl sb.out rfl rfl ?c1 ?c2 ?c3 ?c4 ?_)
   case c1=>first|rfl|(intro u hu;simp at hu;subst hu;rfl)
   case c2=>unfold maxLen;omega
   case c3=>omega
   case c4=>exact Nat.le_trans HO.out.size jt.out.size
   intro v2 w3 d_ vY;have jO:ag (fun b=>b=X) w w3:=(((HO.out.trans jt.out).alloc _).grown vY (fun k hk bP=>by have:=(sb.out.lt k hk).1;omega))
   have jP:=(kE.out.ext (aj (Below.refl _ w2) (.cells #[.string T] 9))).turn (T:=fun b=>Value.ownBlock (.slice ao j cap)=some b) ((ag.refl (fun b=>Value.ownBlock (.slice ao j cap)=some b) (w2.alloc (.cells #[.string T] 9))).grown vY (fun k hk _=>hk)) (fun k hk=>by have h1:=(sb.out.lt k hk).1;have h2:=H.out.below.size;exact⟨by omega,by omega⟩)
   have R:UB w0 w X f l v2 (.int .i64 ((j:Int)+1)) w3:=by
    refine⟨j+1,by go_num,by rw[HN.out];exact hlt,?_,jO,?_⟩
    ·rw[kf _ _ HJ.out];rw[Fl.add_add]at jP;exact jP
    ·have e2:bo ((l.map aG).take (j+1))=bo ((l.map aG).take j)++(#[Value.string T]:Array Value).toList:=by rw[List.take_add_one,List.getElem?_map,HJ.out];simp[bo,pA.out]
     rw[e2];exact d_
   obtain⟨a2,c2,rfl,_⟩:=aM d_;have br:=Lib.hid R;clear R d_ vY jO jP;go_wp2;refine⟨?_,by simp[intOf];omega⟩;first|exact br.out|((repeat apply Exists.intro);exact⟨br.out,rfl⟩)
  ·have t1:decide ((j:Int)<(n:Int))=false:=decide_eq_false (by omega);have aT:decide (j<n)=false:=decide_eq_false hlt;have hE:l.take j=l:=kg (by rw[HN.out];exact hj) (by rw[HN.out];exact hlt);have UD:(l.map aG).take j=l.map aG:=kg (by rw[List.length_map,HN.out];exact hj) (by rw[List.length_map,HN.out];exact hlt);have hP:=HP.out;rw[hE]at hP;have hW:=HW.out;rw[UD]at hW;have hlen:(l.map aG).length=j:=by rw[List.length_map,HN.out];omega
   rw[←hlen]at hW;have AR:=KO wr _ (l.map aG) (Fc hW) (by rw[List.length_map,HN.out];exact hl) HZ.out;rw[hlen]at AR;have AR:=Lib.hid AR;have uS:=Lib.hid hP;clear hE UD hP hW hlen;go_wp2_with fail;refine AR.out.mono ?_;rintro e w2⟨rfl,rfl⟩;go_wp2;go_ret;exact⟨rfl,uS.out,HO.out⟩
theorem agk:iq Tryz.prog 168 4 1 1 (.bool false):=⟨Tryz.underlying168,by kernel_rfl,rfl,by decide⟩
theorem agl:iq Tryz.prog 106 3 1 8 (.int .i64 0):=⟨Tryz.underlying106,by kernel_rfl,rfl,by decide⟩
structure kS(w:World)(N n:Nat)(tk:Nat→Bool):Prop where
 box:∃cs,w.heap[N]?=some (.cells cs 4 (0,0))∧cs.size=n∧∀i,i<n→cs[i]?=some (.bool (tk i))
theorem kS.cell{w:World}{N n:Nat}{tk:Nat→Bool}(h:kS w N n tk){i:Nat}(hi:i<n):w.cell? ⟨N,i,none⟩=some (.bool (tk i)):=by obtain⟨cs,h1,h2,h3⟩:=h.box;simp[World.cell?,h1];exact h3 i hi
theorem kS.frozen{w:World}{N n:Nat}{tk:Nat→Bool}(h:kS w N n tk)(i:Nat):w.frozen? ⟨N,i,none⟩=false:=by obtain⟨cs,h1,_⟩:=h.box;exact Go.Joins.unfrozen_of_block h1 i
theorem kS.keep{w w':World}{N n:Nat}{tk:Nat→Bool}(h:kS w N n tk)(hk:w'.heap[N]?=w.heap[N]?):kS w' N n tk:=by obtain⟨cs,h1,h2⟩:=h.box;exact⟨cs,by rw[hk];exact h1,h2⟩
theorem kS.lt{w:World}{N n:Nat}{tk:Nat→Bool}(h:kS w N n tk):N<w.heap.size:=by obtain⟨cs,h1,_⟩:=h.box;exact(Array.getElem?_eq_some_iff.1 h1).1
theorem kS.set{w:World}{N n:Nat}{tk UF:Nat→Bool}(h:kS w N n tk){x:Nat}(hx:x<n)(ht:∀i,i<n→UF i=if i=x then true else tk i):kS (w.setCell ⟨N,x,none⟩ (.bool true)) N n UF:=by
 obtain⟨cs,h1,h2,h3⟩:=h.box;have hb:=Go.Joins.block_setCell h1 (i:=x) (.bool true);refine⟨_,hb,by simpa using h2,fun i hi=>?_⟩;rw[Array.getElem?_setIfInBounds,ht i hi];by_cases e:x=i
 ·subst e;rw[if_pos rfl,if_pos (by omega),if_pos rfl]
 ·rw[if_neg e,if_neg (fun h=>e h.symm),h3 i hi]
def pB(o:List Nat)(i:Nat):Bool:=decide (i∈o)
theorem agm(o:List Nat)(x i:Nat):pB (o++[x]) i=if i=x then true else pB o i:=by
 unfold pB;by_cases h:i=x
 ·subst h;rw[if_pos rfl];simp
 ·rw[if_neg h];simp[h]
def se(o:List Nat):List Value:=o.map fun i=>.int .i64 (i:Nat)
theorem agn(o:List Nat)(x:Nat):se (o++[x])=se o++(#[Value.int .i64 (x:Nat)]:Array Value).toList:=by simp[se]
def x_(keys:List ByteArray)(W:World)(N:Nat)(o k:Value)(wr:World):Prop:=∃ol:List Nat,k=.int .i64 ol.length∧mN keys ol∧ol.length≤keys.length∧kS wr N keys.length (pB ol)∧Below W.heap.size W wr∧wr.ownsRow W.heap.size 3 1 o ol.length (se ol)∧o.ownBlock≠some N
theorem UG:pB []=fun _=>false:=by funext i;simp[pB]
theorem UH(n i:Nat)(h:i<n):(madeCells #[Value.bool false] n)[i]?=some (.bool false):=by simp[madeCells,h,Nat.mod_one]
theorem ago(w:World)(keys:List ByteArray)(n:Nat)(hn:keys.length=n):x_ keys w (w.heap.size+1) (.slice (some ⟨w.heap.size,0,none⟩) 0 0) (.int .i64 0) ((w.alloc (.cells #[] 3)).alloc (.cells (madeCells #[.bool false] n) 4)).drew:=by
 have e1:(w.alloc (.cells #[] 3)).heap.size=w.heap.size+1:=Array.size_push _;refine⟨[],rfl,mN.nil _,Nat.zero_le _,⟨madeCells #[.bool false] n,?_,by simp[madeCells,hn],fun i hi=>by rw[UH n i (by omega),UG]⟩,(aj (aj (Below.refl _ _) _) _).drew,?_,by intro h;have:=Option.some.inj (show some w.heap.size=some (w.heap.size+1)from h);omega⟩
 ·have:=heap_alloc_new (w.alloc (.cells #[] 3)) (.cells (madeCells #[.bool false] n) 4);rw[e1]at this;exact this
 ·have h:=(World.ownsRow_made (e:=3) (size:=1) w #[] 0 (Nat.le_refl _) (Nat.zero_le _) (by simp)).alloc (.cells (madeCells #[.bool false] n) 4);exact h
theorem agp(w:World)(keys:List ByteArray)(n:Nat)(hn:keys.length=n):x_ keys w w.heap.size (.slice (some ⟨w.heap.size+1,0,none⟩) 0 0) (.int .i64 0) ((w.alloc (.cells (madeCells #[.bool false] n) 4)).alloc (.cells #[] 3)).drew:=by
 have e1:(w.alloc (.cells (madeCells #[.bool false] n) 4)).heap.size=w.heap.size+1:=Array.size_push _;refine⟨[],rfl,mN.nil _,Nat.zero_le _,⟨madeCells #[.bool false] n,?_,by simp[madeCells,hn],fun i hi=>by rw[UH n i (by omega),UG]⟩,(aj (aj (Below.refl _ _) _) _).drew,?_,by intro h;have:=Option.some.inj (show some (w.heap.size+1)=some w.heap.size from h);omega⟩
 ·have h1:=heap_alloc_new w (.cells (madeCells #[.bool false] n) 4);have h2:=(aj (Below.refl (w.alloc (.cells (madeCells #[.bool false] n) 4)).heap.size _) (.cells #[] 3)).block w.heap.size (by rw[e1];omega);exact h2.trans h1
 ·have h:=World.ownsRow_made (e:=3) (size:=1) (w.alloc (.cells (madeCells #[.bool false] n) 4)) #[] 0 (Nat.le_refl _) (Nat.zero_le _) (by simp);rw[e1]at h;exact bu h (fun g hg=>rfl) (Nat.le_succ _)
theorem agq(w:World)(v:Value)(keys:List ByteArray)(h:Rd (Own w) w v (.list 1 (keys.map .str)))(hl:keys.length≤1100000):Calls Tryz.prog 43 #[v] w fun e w'=>∃u ol,e=.returned u∧mN keys ol∧ol.length=keys.length∧w'.ownsRow w.heap.size 3 1 u ol.length (se ol)∧Below w.heap.size w w':=by
 have H:=Lib.hid h;obtain⟨a,c,rfl,_,hc,hx⟩:=h.Cr;obtain⟨i0,dw,bT,bW,bA⟩:=info_parts agk.hi;obtain⟨n,Fi⟩:∃n,keys.length=n:=⟨_,rfl⟩
 have dP:∀W:World,(Instr.makeSlice 168 (.int .i64 (n:Nat)) (.int .i64 (n:Nat))).run Tryz.prog W=.ok (.slice (some ⟨W.heap.size,0,none⟩) n n) (W.alloc (.cells (madeCells #[.bool false] n) 4)):=fun W=>by have:=run_make (P:=Tryz.prog) W 168 4 i0 _ Tryz.underlying168 dw bT .i64 .i64 (n:Nat) (n:Nat) (by omega) (Int.le_refl _) (by rw[bA];omega) (by omega);rw[bW,Int.toNat_natCast,Nat.mul_one]at this;exact this
 have mO:=Lib.hid Fi;have A8:=Lib.hid dP;rw[Fi]at H⊢;rw[Fi]at hl;clear h hx dw bT bW bA Fi hc;go_enter Tryz.func43,Tryz.ntmps43;go_wp2_with fail;go_region
 all_goals
  have RA:=Lib.hid (ago w keys n mO.out);have RB:=Lib.hid (agp w keys n mO.out)
  first
   |(obtain⟨W0,dU⟩:∃W,((w.alloc (.cells #[] 3)).alloc (.cells (madeCells #[.bool false] n) 4)).drew=W:=⟨_,rfl⟩;have eF:Hid (x_ keys w (w.heap.size+1) (.slice (some ⟨w.heap.size,0,none⟩) 0 0) (.int .i64 0) W0):=Lib.hid (by rw[←dU];exact RA.out);rw[dU];obtain⟨N,hN⟩:∃N,w.heap.size+1=N:=⟨_,rfl⟩;obtain⟨M,hM⟩:∃M,w.heap.size=M:=⟨_,rfl⟩;have ud:Hid (w.heap.size≤N):=Lib.hid (by omega);rw[hN,hM]at eF⊢;clear dU hN hM)
   |(obtain⟨W0,dU⟩:∃W,((w.alloc (.cells (madeCells #[.bool false] n) 4)).alloc (.cells #[] 3)).drew=W:=⟨_,rfl⟩;have eF:Hid (x_ keys w w.heap.size (.slice (some ⟨w.heap.size+1,0,none⟩) 0 0) (.int .i64 0) W0):=Lib.hid (by rw[←dU];exact RB.out);rw[dU];obtain⟨M,hM⟩:∃M,w.heap.size+1=M:=⟨_,rfl⟩;obtain⟨N,hN⟩:∃N,w.heap.size=N:=⟨_,rfl⟩;have ud:Hid (w.heap.size≤N):=Lib.hid (by omega);rw[hM,hN]at eF⊢;clear dU hN hM)
  clear RA RB;go_wp2_with fail;go_loopw[3,5](x_ keys w N)(fun _ i _=>n-(intOf i).toNat);case atStart=>exact eF.out
  case round=>
   obtain⟨ol,rfl,hO,hj,hT,hB,az,hne⟩:=hrel;obtain⟨m,hm⟩:∃m,ol.length=m:=⟨_,rfl⟩;obtain⟨ao,cap,rfl,_⟩:=aM az;rw[mO.out]at hj hT;rw[hm]at hj az hne⊢;have HO:=Lib.hid hO;have HT:=Lib.hid hT;have HB:=Lib.hid hB;have HW:=Lib.hid az;have HM:=Lib.hid hm;have Bw:=Lib.hid hne;by_cases hlt:m<n
   ·obtain⟨x,eO,UI,gW⟩:=hO.step (by rw[hm,mO.out];exact hlt);have Bx:x<n:=by rw[←mO.out];exact UI
    have t1:decide ((m:Int)<(n:Int))=true:=decide_eq_true (by omega);have aT:decide (m<n)=true:=decide_eq_true hlt;have q1:IntKind.i64.wrap ((m:Int)+1)=(m:Int)+1:=IntWalk.i64_in _ (by omega);have UK:jv keys (pB ol) n=(x:Nat):=by unfold jv;rw[←mO.out];rw[show jq keys (pB ol) keys.length=some x from eO]
    have hH:Rd (Own wr) wr (.slice a n c) (.list 1 (keys.map .str)):=H.out.ext hB;have LE:=agd wr _ keys N n (pB ol) (by rw[←mO.out]at hH;rw[mO.out]at hH;exact hH) (by rw[mO.out];exact hl) (fun i hi=>hT.cell (by rw[←mO.out];exact hi));rw[mO.out,UK]at LE;have LE:=Lib.hid LE;have jt:=Lib.hid gW;clear hO hT hB az hm gW eO UK hH UI;go_wp2_with fail;go_at_call 79;refine LE.out.mono ?_;rintro _ w3⟨rfl,q,hq⟩;have aw:Below w.heap.size w w3:=by rw[hq];exact eW _ HB.out
    have ti:kS w3 N n (pB ol):=by rw[hq];exact HT.out.keep rfl
    have d_:w3.ownsRow w.heap.size 3 1 (.slice ao m cap) m (se ol):=bu HW.out (fun g hg=>by rw[hq];rfl) (Nat.le_refl _);have d0:=ti.cell Bx;have f0:=ti.frozen x;have aY:Below w.heap.size w (w3.setCell ⟨N,x,none⟩ (.bool true)):=aw.setCell (show w.heap.size≤N from ud.out) _;have sZ:kS (w3.setCell ⟨N,x,none⟩ (.bool true)) N n (pB (ol++[x])):=ti.set Bx (fun i _=>agm ol x i)
    have o4:ag (fun b=>b=N) w3 (w3.setCell ⟨N,x,none⟩ (.bool true)):=(ag.refl (fun b=>b=N) w3).set (p:=⟨N,x,none⟩) (fun _=>rfl) (.bool true);have s_:(w3.setCell ⟨N,x,none⟩ (.bool true)).ownsRow w.heap.size 3 1 (.slice ao m cap) m (se ol):=bu d_ (fun g hg=>o4.block g (d_.lt g hg).2 (fun e=>Bw.out (by rw[←e];exact hg))) (Nat.le_refl _);have UL:=Lib.hid aY;have UM:=Lib.hid sZ;have UN:=Lib.hid s_;clear hq aw ti d_ aY sZ o4 s_ LE
    have e5:(w3.setCell ⟨N,x,none⟩ (.bool true)).heap.size=w3.heap.size:=by simp
    have UO:=UL.out.size;have rR:=UM.out.lt;go_wp2_with(at_builtin;refine ga (w3.setCell ⟨N,x,none⟩ (.bool true)) #[.int .i64 (x:Nat)] 3 rfl _ _ 106 rfl w.heap.size agl _ _ _ rfl UN.out (by rw[e5];rfl) rfl ?c1 ?c2 ?c3 ?c4 ?_);case c1=>first|rfl|(intro u hu;simp at hu;subst hu;rfl)
    case c2=>unfold maxLen;omega
    case c3=>omega
    case c4=>exact UO
    intro v2 w6 dz jQ agr;have oA:ag (fun b=>Value.ownBlock (.slice ao m cap)=some b) (w3.setCell ⟨N,x,none⟩ (.bool true)) w6:=((ag.refl (fun b=>Value.ownBlock (.slice ao m cap)=some b) (w3.setCell ⟨N,x,none⟩ (.bool true))).alloc _).grown jQ (fun k hk _=>hk)
    have R:x_ keys w N v2 (.int .i64 ((m:Int)+1)) w6:=by
     refine⟨ol++[x],by rw[List.length_append,HM.out];rfl,jt.out,by rw[List.length_append,HM.out,mO.out];exact hlt,?_,?_,?_,?_⟩
     ·rw[mO.out];exact UM.out.keep (oA.block N rR (fun e=>Bw.out e))
     ·exact UL.out.trans (oA.below UO (fun k hk=>by have:=(UN.out.lt k hk).1;omega))
     ·rw[List.length_append,HM.out,agn];exact dz
     ·rcases agr with h|h
      ·rw[←h];exact Bw.out
      ·rw[h];intro e;have:=Option.some.inj e;omega
    obtain⟨a2,c2,rfl,_⟩:=aM dz;have br:=Lib.hid R;clear R dz jQ oA;go_wp2;refine⟨?_,by simp[intOf];omega⟩;first|exact br.out|((repeat apply Exists.intro);exact⟨br.out,rfl⟩)
   ·have t1:decide ((m:Int)<(n:Int))=false:=decide_eq_false (by omega);have aT:decide (m<n)=false:=decide_eq_false hlt;have By:m=n:=by omega
    clear hO hT hB az hm;go_wp2;go_ret;exact⟨_,ol,rfl,HO.out,by rw[HM.out];exact By,by rw[HM.out];exact HW.out,HB.out⟩
end Go.Proofs.YtcaiibkgajhohaaGreatDoor
