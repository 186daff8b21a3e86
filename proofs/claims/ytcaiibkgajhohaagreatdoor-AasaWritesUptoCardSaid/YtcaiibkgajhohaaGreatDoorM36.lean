/- waybill: lemmas and walks, printed from longer texts. -/
import Derived.Test.YtcaiibkgajhohaaGreatDoorM35
import Derived.Ground.SlsfProg
set_option maxRecDepth 100000
set_option maxHeartbeats 4000000
namespace Go.Proofs.YtcaiibkgajhohaaGreatDoor
open Go.RowKit
theorem kf{α:Type}(p:α→Bool)(l:List α){i:Nat}{x:α}(h:l[i]?=some x):(l.take (i+1)).any p=((l.take i).any p||p x):=by rw[List.take_add_one,h];simp
theorem kg{α:Type}{l:List α}{i:Nat}(h:i≤l.length)(h2:¬i<l.length):l.take i=l:=List.take_of_length_le (by omega)
structure eM{α:Type}(n:α→Nat)(ok:α→Bool)(sp:α→ByteArray)(l:List α)(ts:List ByteArray):Prop where
 len:ts.length=l.length
 at_:∀(i:Nat)x T,l[i]?=some x→ts[i]?=some T→Tx (n x) (ok x) (sp x) T
section
variable{α:Type}{n:α→Nat}{ok:α→Bool}{sp:α→ByteArray}{l:List α}{ts:List ByteArray}
theorem eM.nil:eM n ok sp [] []:=⟨rfl,fun i x T h=>by simp at h⟩
theorem eM.snoc{j:Nat}{x:α}{T:ByteArray}(h:eM n ok sp (l.take j) ts)(hx:l[j]?=some x)(hT:Tx (n x) (ok x) (sp x) T):eM n ok sp (l.take (j+1)) (ts++[T]):=by
 have hj:=(List.getElem?_eq_some_iff.1 hx).1;have hlen:=h.len;rw[List.length_take]at hlen;have hl:ts.length=j:=by omega
 refine⟨by rw[List.length_append,hl,List.length_take];simp;omega,fun i y S hy hS=>?_⟩;have hi:=(List.getElem?_eq_some_iff.1 hy).1;rw[List.length_take]at hi;rw[List.getElem?_take_of_lt (by omega)]at hy;by_cases e:i=j
 ·subst e;rw[hx]at hy;cases hy;rw[List.getElem?_append_right (by omega),hl,Nat.sub_self]at hS;cases hS;exact hT
 ·rw[List.getElem?_append_left (by omega)]at hS;exact h.at_ i y S (by rw[List.getElem?_take_of_lt (by omega)];exact hy) hS
theorem eM.sum(h:eM n ok sp l ts):(ts.map fun t=>t.size+1).sum≤(l.map fun x=>n x+1).sum:=by
 have key:∀(l:List α)(ts:List ByteArray),ts.length=l.length→(∀(i:Nat)x T,l[i]?=some x→ts[i]?=some T→T.size≤n x)→(ts.map fun t=>t.size+1).sum≤(l.map fun x=>n x+1).sum:=by
  intro l
  induction l with
  |nil=>intro ts hl _;obtain rfl:=List.eq_nil_of_length_eq_zero hl;simp
  |cons x l ih=>
   intro ts hl ha
   cases ts with
   |nil=>simp at hl
   |cons t ts=>have h1:=ih ts (by simpa using hl) (fun i y T hy hT=>ha (i+1) y T (by simpa using hy) (by simpa using hT));have h2:=ha 0 x t rfl rfl;simp only[List.map_cons,List.sum_cons];omega
 exact key l ts h.len (fun i x T hx hT=>(h.at_ i x T hx hT).size)
theorem eM.eq(h:eM n ok sp l ts)(ha:∀x∈l,ok x=true):ts=l.map sp:=by
 apply List.ext_getElem
 ·rw[h.len,List.length_map]
 ·intro i h1 h2;have hl:i<l.length:=by simpa using h2
  rw[List.getElem_map];exact(h.at_ i l[i] ts[i] (List.getElem?_eq_getElem hl) (List.getElem?_eq_getElem h1)).eq (ha _ (List.getElem_mem hl))
theorem eM.list(h:eM n ok sp l ts):Tx ((l.map fun x=>n x+1).sum+2) (!(l.any fun x=>!ok x)) (cC (l.map sp)) (cC ts):=by
 refine⟨?_,fun hb=>?_⟩
 ·have h1:=Kt ts;have h2:=h.sum;omega
 ·rw[h.eq (fun x hx=>?_)]
  cases ho:ok x with
  |true=>rfl
  |false=>rw[List.any_eq_true.2 ⟨x,hx,by rw[ho];rfl⟩]at hb;cases hb
theorem vX{f:α→Nat}{x:α}{l:List α}(h:x∈l):f x≤(l.map f).sum:=by
 induction l with
 |nil=>cases h
 |cons y l ih=>
  simp only[List.map_cons,List.sum_cons];rcases List.mem_cons.1 h with rfl|h
  ·omega
  ·have:=ih h;omega
end
structure cJ(w0 w:World)(X:Nat)(f:Fl):Prop where
 below:Below w0.heap.size w0 w
 le:w0.heap.size≤X
 dJ:w.heap[X]?=some (.cells #[.int .i64 f.code] 95 (0,0))
theorem cJ.lt{w0 w:World}{X:Nat}{f:Fl}(h:cJ w0 w X f):X<w.heap.size:=ak h.dJ
theorem cJ.ext{w0 w w':World}{X:Nat}{f:Fl}(h:cJ w0 w X f)(hb:Below w.heap.size w w'):cJ w0 w' X f:=⟨h.below.trans (hb.mono h.below.size),h.le,(hb.block _ h.lt).trans h.dJ⟩
theorem cJ.turn{w0 w w':World}{X:Nat}{f:Fl}{T:Nat→Prop}(h:cJ w0 w X f)(ho:ag T w w')(hT:∀k,T k→w0.heap.size≤k∧k≠X):cJ w0 w' X f:=⟨h.below.trans (ho.below h.below.size (fun k hk=>(hT k hk).1)),h.le,(ho.block _ h.lt (fun ht=>(hT _ ht).2 rfl)).trans h.dJ⟩
theorem cJ.set{w0 w:World}{X:Nat}{f g:Fl}(h:cJ w0 w X f){v:Value}(hv:v=.int .i64 g.code):cJ w0 (w.setCell ⟨X,0,none⟩ v) X g:=by subst hv;exact⟨h.below.setCell (p:=⟨X,0,none⟩) h.le _,h.le,Go.Joins.block_setCell h.dJ (i:=0) _⟩
def Bp(w0 w:World)(X:Nat)(f:Fl)(u t:Bool)(n:Nat)(ok:Bool)(spec:ByteArray)(e:Ending)(w':World):Prop:=∃T,e=.returned (.string T)∧Tx n ok spec T∧cJ w0 w' X (f.add u t)∧ag (fun b=>b=X) w w'
theorem afS(f:Fl):(f.add true false).code=12:=by simp[Fl.add,Fl.code]
theorem Br(w0 w:World)(X:Nat)(f:Fl)(s:ByteArray)(h:cJ w0 w X f)(he:gI w0)(hs:s.size≤1048576):Calls Tryz.prog 75 #[an X,.string s] w (Bp w0 w X f (!aN s) false (aJ s) (aN s) (aG s)):=by
 have Q:=afI s w (he.ext h.below) hs;unfold Kz at Q;have H:=Lib.hid h;have HZ:=Lib.hid (tY s);unfold an
 cases hc:dZ s 0 []with
 |ok l=>rw[hc]at Q;(have ho:aN s=true:=by unfold aN;rw[hc]);rw[ho];have Q:=Lib.hid Q;clear h he hs hc ho;go_enter Tryz.func75,Tryz.ntmps75;go_wp2_with fail;refine Q.out.mono ?_;rintro e w2⟨rfl,hb⟩;have HP:=Lib.hid (show cJ w0 w2 X (f.add (!true) false)by rw[show(!true)=false from rfl,Fl.dO];exact H.out.ext hb);have HO:=Lib.hid (ag.of (T:=fun b=>b=X) hb);clear hb;go_wp2;go_ret;exact⟨_,rfl,Tx.of HZ.out,HP.out,HO.out⟩
 |no k i=>
  rw[hc]at Q;have ho:aN s=false:=by unfold aN;rw[hc]
  rw[ho];have Q:=Lib.hid Q;clear h he hs hc ho;go_enter Tryz.func75,Tryz.ntmps75;go_wp2_with fail;refine Q.out.mono ?_;rintro e w2⟨u,rfl,_,hb⟩;have P2:=H.out.ext hb;have c0:=Lib.cell_of_heap P2.dJ 0;have fr:=Go.Joins.unfrozen_of_block P2.dJ 0;have HP:=Lib.hid (show cJ w0 (w2.setCell ⟨X,0,none⟩ (.int .i64 12)) X (f.add (!false) false)from P2.set (g:=f.add true false) (by rw[afS]));have HO:=Lib.hid ((ag.of (T:=fun b=>b=X) hb).set (p:=⟨X,0,none⟩) (fun _=>rfl) (.int .i64 12));clear hb P2;go_wp2;go_ret
  exact⟨_,rfl,⟨Nat.zero_le _,fun h=>by cases h⟩,HP.out,HO.out⟩
theorem Ug(w:World)(base:Nat)(v:Value)(l:List ByteArray)(h:w.ownsRow base 9 1 v l.length (bo l))(hm:l.length≤1000000000000)(hz:(J l).size≤100000000000000):Calls Tryz.prog 74 #[v,.string ⟨#[44]⟩] w fun e w'=>e=.returned (.string (J l))∧Below w.heap.size w w':=by
 have hsz:(Lib.join (l.map (·.data.toList)) (⟨#[44]⟩:ByteArray).data.toList).length=(J l).size:=by unfold J;show _=(List.toArray _).size;simp
 rcases h.2 with⟨rfl,h0⟩|⟨g,cap,cur,rfl,h1,h2,h3,_⟩
 ·obtain rfl:=List.eq_nil_of_length_eq_zero h0;exact(Tryz.strings_Join_none none 0 ⟨#[44]⟩ w).mono (fun e w'⟨h1,h2⟩=>⟨h1,by rw[h2];exact Below.refl _ _⟩)
 ·exact Tryz.strings_Join g 0 cap l ⟨#[44]⟩ w (fun j x hx=>by have hj:=(List.getElem?_eq_some_iff.1 hx).1;rw[Nat.zero_add,World.ownsRow.cellAt h j (by omega)];simp[bo,hx]) (h.lt g rfl).2 (by omega) h3 (by rw[hsz];omega)
theorem KG(w:World)(base:Nat)(v:Value)(l:List ByteArray)(h:w.ownsRow base 9 1 v l.length (bo l))(hm:l.length≤1000000000000)(hz:(cC l).size≤100000000000000):Calls Tryz.prog 39 #[v] w fun e w'=>e=.returned (.string (cC l))∧Below w.heap.size w w':=by unfold cC at hz⊢;rw[ByteArray.size_append,ByteArray.size_append]at hz;have JN:=Ug w base v l h hm (by omega);obtain⟨jj,Bs⟩:∃jj,J l=jj:=⟨_,rfl⟩;rw[Bs]at JN hz⊢;have JN:=Lib.hid JN;(have bA:jj.size≤100000000000000:=by omega);clear h hm hz Bs;go_enter Tryz.func39,Tryz.ntmps39;go_wp2_with fail;go_at_call 74;refine JN.out.mono ?_;rintro e w2⟨rfl,hb⟩;have HB:=Lib.hid hb;clear hb;go_wp2;go_ret;exact⟨rfl,HB.out⟩
def ou(X:Nat)(w:World)(v:Value)(l:List ByteArray):Prop:=∃a c,v=.slice a l.length c∧∀(j:Nat)x,l[j]?=some x→∃b o,a=some ⟨b,o,none⟩∧b≠X∧b<w.heap.size∧w.cell? ⟨b,o+j,none⟩=some (.string x)
theorem ou.turn{X:Nat}{w w':World}{v:Value}{l:List ByteArray}(h:ou X w v l)(ho:ag (fun b=>b=X) w w'):ou X w' v l:=by obtain⟨a,c,hv,h⟩:=h;refine⟨a,c,hv,fun j x hx=>?_⟩;obtain⟨b,o,ha,hn,hl,h0⟩:=h j x hx;exact⟨b,o,ha,hn,Nat.lt_of_lt_of_le hl ho.size,by rw[←h0];unfold World.cell?;rw[ho.block b hl hn]⟩
theorem ou.cell{X:Nat}{w:World}{a:Option Addr}{n c:Nat}{l:List ByteArray}(h:ou X w (.slice a n c) l):∀(j:Nat)x,l[j]?=some x→∃b o,a=some ⟨b,o,none⟩∧b≠X∧b<w.heap.size∧w.cell? ⟨b,o+j,none⟩=some (.string x):=by obtain⟨a',c',h1,h2⟩:=h;cases h1;exact h2
def Uh(w0 w:World)(X:Nat)(f:Fl)(l:List ByteArray)(v k:Value)(wr:World):Prop:=∃(j:Nat)(ts:List ByteArray),k=.int .i64 j∧j≤l.length∧cJ w0 wr X (f.add ((l.take j).any fun s=>!aN s) false)∧ag (fun b=>b=X) w wr∧wr.ownsRow w.heap.size 9 1 v j (bo ts)∧eM aJ aN aG (l.take j) ts
theorem Ui(w0 w:World)(X:Nat)(f:Fl)(v:Value)(l:List ByteArray)(h:cJ w0 w X f)(he:gI w0)(hr:ou X w v l)(hs:∀s∈l,s.size≤1048576)(hz:(l.map fun s=>aJ s+1).sum+2≤100000000000000)(hl:l.length≤1100000):Calls Tryz.prog 40 #[an X,v] w (Bp w0 w X f (l.any fun s=>!aN s) false ((l.map fun s=>aJ s+1).sum+2) (!(l.any fun s=>!aN s)) (cC (l.map aG))):=by
 have HR:=Lib.hid hr;obtain⟨a,c,rfl,_⟩:=hr;have H:=Lib.hid h;have HE:=Lib.hid he;have HS:=Lib.hid hs;have HZ:=Lib.hid hz;obtain⟨n,hn⟩:∃n,l.length=n:=⟨_,rfl⟩;have HN:=Lib.hid hn;rw[hn]at hl HR⊢;clear h he hs hz hn;unfold an;go_enter Tryz.func40,Tryz.ntmps40;go_wp2_with fail;go_loopw[5,10](Uh w0 w X f l)(fun _ i _=>n-(intOf i).toNat);case atStart=>exact⟨0,[],rfl,Nat.zero_le _,by simpa[Fl.dO]using H.out,ag.refl _ _,by simpa[bo]using World.ownsRow_nil w w.heap.size 9 1,eM.nil⟩
 case round=>
  obtain⟨j,ts,rfl,hj,hp,ho,az,dy⟩:=hrel;rw[HN.out]at hj;obtain⟨ao,cap,rfl,_⟩:=aM az;have HP:=Lib.hid hp;have HO:=Lib.hid ho;have HW:=Lib.hid az;have HT:=Lib.hid dy;clear hp ho az dy;by_cases hlt:j<n
  ·have t1:decide ((j:Int)<(n:Int))=true:=decide_eq_true (by omega);have aT:decide (j<n)=true:=decide_eq_true hlt;have q1:IntKind.i64.wrap ((j:Int)+1)=(j:Int)+1:=IntWalk.i64_in _ (by omega);obtain⟨s,lM⟩:=bN l j (by rw[HN.out];exact hlt);obtain⟨b,o,rfl,_,_,c0⟩:=(HR.out.turn HO.out).cell j s lM;have TX:=Lib.hid (Br w0 wr X _ s HP.out HE.out (HS.out s (List.mem_of_getElem? lM)));have HJ:=Lib.hid lM;unfold an at TX;clear lM;go_wp2_with fail;refine TX.out.mono ?_;intro e w2 fO
   obtain⟨T,rfl,hT,fO,aE⟩:=fO;have pA:=Lib.hid hT;have kE:=Lib.hid fO;have jt:=Lib.hid aE;have HX:=H.out.lt;have sb:=Lib.hid (show w2.ownsRow w.heap.size 9 1 (.slice ao j cap) j (bo ts)from bu HW.out (fun g hg=>jt.out.block g (HW.out.lt g hg).2 (fun e=>by have:=(HW.out.lt g hg).1;omega)) (Nat.le_refl _));clear hT fO aE c0;go_wp2_with(at_builtin;refine iY w2 #[.string T] 9 rfl _ _ 96 rfl w.heap.size eK _ _ _ rfl sb.out rfl rfl ?c1 ?c2 ?c3 ?c4 ?_);case c1=>first|rfl|(intro u hu;simp at hu;subst hu;rfl)
   case c2=>unfold maxLen;omega
   case c3=>omega
   case c4=>exact Nat.le_trans HO.out.size jt.out.size
   intro v2 w3 d_ vY;have jO:ag (fun b=>b=X) w w3:=(((HO.out.trans jt.out).alloc _).grown vY (fun k hk bP=>by have:=(sb.out.lt k hk).1;omega))
   have jP:=(kE.out.ext (aj (Below.refl _ w2) (.cells #[.string T] 9))).turn (T:=fun b=>Value.ownBlock (.slice ao j cap)=some b) ((ag.refl (fun b=>Value.ownBlock (.slice ao j cap)=some b) (w2.alloc (.cells #[.string T] 9))).grown vY (fun k hk _=>hk)) (fun k hk=>by have h1:=(sb.out.lt k hk).1;have h2:=H.out.below.size;exact⟨by omega,by omega⟩)
   have R:Uh w0 w X f l v2 (.int .i64 ((j:Int)+1)) w3:=by
    refine⟨j+1,ts++[T],by go_num,by rw[HN.out];exact hlt,?_,jO,?_,HT.out.snoc HJ.out pA.out⟩
    ·rw[kf _ _ HJ.out];rw[Fl.add_add]at jP;exact jP
    ·have e2:bo (ts++[T])=bo ts++(#[Value.string T]:Array Value).toList:=by simp[bo]
     rw[e2];exact d_
   obtain⟨a2,c2,rfl,_⟩:=aM d_;have br:=Lib.hid R;clear R d_ vY jO jP;go_wp2;refine⟨?_,by simp[intOf];omega⟩;first|exact br.out|((repeat apply Exists.intro);exact⟨br.out,rfl⟩)
  ·have t1:decide ((j:Int)<(n:Int))=false:=decide_eq_false (by omega);have aT:decide (j<n)=false:=decide_eq_false hlt;have hE:l.take j=l:=kg (by rw[HN.out];exact hj) (by rw[HN.out];exact hlt);have hT:=HT.out;have hP:=HP.out;rw[hE]at hT hP;have hlen:ts.length=j:=by rw[hT.len,HN.out];omega
   have TL:=Lib.hid hT.list;have hW:=HW.out;rw[←hlen]at hW;have AR:=KG wr w.heap.size _ ts hW (by omega) (Nat.le_trans TL.out.size HZ.out);rw[hlen]at AR;have AR:=Lib.hid AR;have uS:=Lib.hid hP;clear hE hT hP hlen hW;go_wp2_with fail;refine AR.out.mono ?_;rintro e w2⟨rfl,hb⟩;have HF:=Lib.hid (uS.out.ext hb);have HG:=Lib.hid (HO.out.trans (ag.of hb));clear hb;go_wp2;go_ret;exact⟨_,rfl,TL.out,HF.out,HG.out⟩
def BW(B:Nat)(W:World):Type:={w':World//Below B W w'}
instance(B:Nat)(W:World):Nonempty (BW B W):=⟨⟨W,Below.refl B W⟩⟩
def BW.w{B:Nat}{W:World}(n:BW B W):World:=n.1
theorem BW.below{B:Nat}{W:World}(n:BW B W):Below B W n.w:=n.2
theorem Uj:∀a b:List UInt8,Op.bytesLess a b=cB a b
 |[],[]=>rfl
 |_::_,[]=>rfl
 |[],_::_=>rfl
 |a::x,b::y=>by have h:=Uj x y;rw[Bool.eq_iff_iff,Bh,Op.bytesLess,h];simp
structure mN(keys:List ByteArray)(o:List Nat):Prop where
 nodup:o.Nodup
 lt:∀i∈o,i<keys.length
 sorted:(o.map (bF keys)).Pairwise fun a b=>ek b a=false
 rest:∀a∈o,∀i,i<keys.length→i∉o→ek (bF keys i) (bF keys a)=false
theorem mN.nil(keys:List ByteArray):mN keys []:=⟨List.nodup_nil,fun _i h=>absurd h List.not_mem_nil,List.Pairwise.nil,fun _a h=>absurd h List.not_mem_nil⟩
theorem KR:∀(n:Nat)(o:List Nat),o.Nodup→(∀i∈o,i<n)→o.length≤n
 |0,o,_,h=>by
  cases o with
  |nil=>exact Nat.le_refl _
  |cons x o=>exact absurd (h x (List.mem_cons_self ..)) (Nat.not_lt_zero _)
 |n+1,o,hn,h=>by
  by_cases hm:n∈o
  ·have h1:=KR n (o.erase n) (hn.erase n) (fun i hi=>by have h2:=(hn.mem_erase_iff).1 hi;have:=h i h2.2;omega);have h2:=List.length_erase_of_mem hm;have h3:0<o.length:=List.length_pos_of_mem hm;omega
  ·have:=KR n o hn (fun i hi=>by have h1:=h i hi;have h2:i≠n:=fun e=>hm (e▸hi);omega);omega
theorem age{n:Nat}{o:List Nat}(hn:o.Nodup)(_h:∀i∈o,i<n)(hl:o.length<n):∃i,i<n∧i∉o:=by
 refine Classical.byContradiction fun hc=>?_;have qh:∀i,i<n→i∈o:=fun i hi=>Classical.byContradiction fun hm=>hc ⟨i,hi,hm⟩
 have key:∀(m:Nat)(q:List Nat),q.Nodup→(∀i,i<m→i∈q)→m≤q.length:=by
  intro m
  induction m with
  |zero=>intro q _ _;exact Nat.zero_le _
  |succ m ih=>intro q hq hm;have h1:=ih (q.erase m) (hq.erase m) (fun i hi=>(hq.mem_erase_iff).2 ⟨by omega,hm i (by omega)⟩);have h2:=List.length_erase_of_mem (hm m (by omega));have h3:0<q.length:=List.length_pos_of_mem (hm m (by omega));omega
 have:=key n o hn qh;omega
theorem mN.step{keys:List ByteArray}{o:List Nat}(h:mN keys o)(hl:o.length<keys.length):∃b,jq keys (fun i=>decide (i∈o)) keys.length=some b∧b<keys.length∧mN keys (o++[b]):=by
 obtain⟨i,hi,hni⟩:=age h.nodup h.lt hl
 cases hb:jq keys (fun i=>decide (i∈o)) keys.length with
 |none=>exact absurd hb (vU.EZ keys.length i hi (by simpa using hni))
 |some b=>
  obtain⟨h1,h2,h3⟩:=vU _ _ hb;have A4:b∉o:=by simpa using h2
  refine⟨b,rfl,h1,?_,?_,?_,?_⟩
  ·rw[List.nodup_append];exact⟨h.nodup,by simp,fun x hx y hy=>by rw[List.mem_singleton.1 hy];exact fun e=>A4 (e▸hx)⟩
  ·intro x hx;rcases List.mem_append.1 hx with hx|hx
   ·exact h.lt x hx
   ·rw[List.mem_singleton.1 hx];exact h1
  ·rw[List.map_append,List.pairwise_append];refine⟨h.sorted,by simp,fun x hx y hy=>?_⟩;obtain⟨a,ha,rfl⟩:=List.mem_map.1 hx;rw[List.map_cons,List.map_nil]at hy;rw[List.mem_singleton.1 hy];exact h.rest a ha b h1 A4
  ·intro x hx j hj hnj;have UE:j∉o:=fun hh=>hnj (List.mem_append_left _ hh);rcases List.mem_append.1 hx with hx|hx
   ·exact h.rest x hx j hj UE
   ·rw[List.mem_singleton.1 hx];exact h3 j hj (by simpa using UE)
theorem mN.perm{keys:List ByteArray}{o:List Nat}(h:mN keys o)(hl:o.length=keys.length):o.Perm (List.range keys.length):=by
 refine(List.perm_ext_iff_of_nodup h.nodup List.nodup_range).2 (fun i=>?_);rw[List.mem_range];refine⟨h.lt i,fun hi=>Classical.byContradiction fun hn=>?_⟩
 have:=KR keys.length (i::o) (List.nodup_cons.2 ⟨hn,h.nodup⟩) (fun j hj=>by
  rcases List.mem_cons.1 hj with rfl|hj
  ·exact hi
  ·exact h.lt j hj)
 rw[List.length_cons,hl]at this;omega
def sd(keys vals:List ByteArray)(o:List Nat):List KV:=o.map fun i=>(bF keys i,bF vals i)
theorem agi{keys vals:List ByteArray}{o:List Nat}(h:mN keys o)(hl:o.length=keys.length)(hv:vals.length=keys.length):(sd keys vals o).Perm (keys.zip vals):=by rw[Tz keys vals hv.symm];exact(h.perm hl).map _
theorem agj{keys vals:List ByteArray}{o:List Nat}(h:mN keys o):(sd keys vals o).Pairwise fun a b=>gj a b=true:=by unfold sd;rw[List.pairwise_map];have h1:=h.sorted;rw[List.pairwise_map]at h1;exact h1.imp (fun hh=>(E0 _ _).2 hh)
end Go.Proofs.YtcaiibkgajhohaaGreatDoor
namespace Go.Proofs
open Go.Shelf
def Tryz.agw:Go.Shelf.Ren:=⟨fun|6=>76|15=>113|14=>112|28=>147|29=>148|20=>139|21=>140|22=>141|23=>142|24=>143|25=>144|26=>145|27=>146|46=>168|47=>169|48=>170|49=>171|50=>172|57=>184|n=>n,fun|22=>101|24=>100|25=>167|3=>3|39=>217|0=>0|53=>252|55=>243|4=>4|46=>246|45=>245|50=>71|5=>5|9=>9|66=>271|70=>275|76=>284|77=>83|n=>n,fun|n=>n⟩
theorem Tryz.UQ:Go.Proofs.SlLaysF0.n6 Tryz.prog Tryz.agw:={mixed:=by kernel_rfl,f6:=⟨Tryz.f76.name,by decide,Tryz.func76.trans (congrArg some (by kernel_rfl))⟩,f14:=⟨Tryz.f112.name,by decide,Tryz.func112.trans (congrArg some (by kernel_rfl))⟩,f15:=Tryz.func113.trans (congrArg some (by kernel_rfl)),f20:=⟨Tryz.f139.name,by decide,Tryz.func139.trans (congrArg some (by kernel_rfl))⟩,f21:=⟨Tryz.f140.name,by decide,Tryz.func140.trans (congrArg some (by kernel_rfl))⟩,f22:=⟨Tryz.f141.name,by decide,Tryz.func141.trans (congrArg some (by kernel_rfl))⟩,f23:=⟨Tryz.f142.name,by decide,Tryz.func142.trans (congrArg some (by kernel_rfl))⟩,f24:=⟨Tryz.f143.name,by decide,Tryz.func143.trans (congrArg some (by kernel_rfl))⟩,f25:=⟨Tryz.f144.name,by decide,Tryz.func144.trans (congrArg some (by kernel_rfl))⟩,f26:=⟨Tryz.f145.name,by decide,Tryz.func145.trans (congrArg some (by kernel_rfl))⟩,f27:=⟨Tryz.f146.name,by decide,Tryz.func146.trans (congrArg some (by kernel_rfl))⟩,f28:=Tryz.func147.trans (congrArg some (by kernel_rfl)),f29:=Tryz.func148.trans (congrArg some (by kernel_rfl)),f46:=⟨Tryz.f168.name,by decide,Tryz.func168.trans (congrArg some (by kernel_rfl))⟩,f47:=Tryz.func169.trans (congrArg some (by kernel_rfl)),f48:=Tryz.func170.trans (congrArg some (by kernel_rfl)),f49:=⟨Tryz.f171.name,by decide,Tryz.func171.trans (congrArg some (by kernel_rfl))⟩,f50:=⟨Tryz.f172.name,by decide,Tryz.func172.trans (congrArg some (by kernel_rfl))⟩,f57:=⟨Tryz.f184.name,by decide,Tryz.func184.trans (congrArg some (by kernel_rfl))⟩,t0:=Tryz.underlying0,a0:=Tryz.isAgg0,z0:=Tryz.sizeOf0,v0:=Tryz.zeroValue0,t3:=Tryz.underlying3,a3:=Tryz.isAgg3,z3:=Tryz.sizeOf3,v3:=Tryz.zeroValue3,t4:=Tryz.underlying4,a4:=Tryz.isAgg4,z4:=Tryz.sizeOf4,v4:=Tryz.zeroValue4,t5:=Tryz.underlying5,a5:=Tryz.isAgg5,z5:=Tryz.sizeOf5,v5:=Tryz.zeroValue5,t9:=Tryz.underlying9,a9:=Tryz.isAgg9,z9:=Tryz.sizeOf9,v9:=Tryz.zeroValue9,t22:=Tryz.underlying101,a22:=Tryz.isAgg101,z22:=Tryz.sizeOf101,v22:=Tryz.zeroValue101,t25:=Tryz.underlying167,a25:=Tryz.isAgg167,z25:=Tryz.sizeOf167,v25:=Tryz.zeroValue167,t39:=Tryz.underlying217,a39:=Tryz.isAgg217,z39:=Tryz.sizeOf217,v39:=Tryz.zeroValue217,t45:=Tryz.underlying245,a45:=Tryz.isAgg245,z45:=Tryz.sizeOf245,v45:=Tryz.zeroValue245,t46:=Tryz.underlying246,a46:=Tryz.isAgg246,z46:=Tryz.sizeOf246,v46:=Tryz.zeroValue246,t50:=Tryz.underlying71,a50:=Tryz.isAgg71,z50:=Tryz.sizeOf71,v50:=Tryz.zeroValue71,t53:=Tryz.underlying252,a53:=Tryz.isAgg252,z53:=Tryz.sizeOf252,v53:=Tryz.zeroValue252,t55:=Tryz.underlying243,a55:=Tryz.isAgg243,z55:=Tryz.sizeOf243,v55:=Tryz.zeroValue243,t66:=Tryz.underlying271,a66:=Tryz.isAgg271,z66:=Tryz.sizeOf271,v66:=Tryz.zeroValue271,t70:=Tryz.underlying275,a70:=Tryz.isAgg275,z70:=Tryz.sizeOf275,v70:=Tryz.zeroValue275,t76:=Tryz.underlying284,a76:=Tryz.isAgg284,z76:=Tryz.sizeOf284,v76:=Tryz.zeroValue284,t77:=Tryz.underlying83,a77:=Tryz.isAgg83,z77:=Tryz.sizeOf83,v77:=Tryz.zeroValue83}
end Go.Proofs
namespace Go.Proofs.YtcaiibkgajhohaaGreatDoor
open Go.RowKit
def pG(w:World)(v:Value)(l:List aS):Prop:=∃a c,v=.slice a l.length c∧∀(j:Nat)x,l[j]?=some x→∃b o,a=some ⟨b,o,none⟩∧b<w.heap.size∧w.cell? ⟨b,o+j*2,none⟩=some (.string x.bZ)∧w.cell? ⟨b,o+j*2+1,none⟩=some (.string x.b7)
theorem pG.ext{w w':World}{v:Value}{l:List aS}(h:pG w v l)(hb:Below w.heap.size w w'):pG w' v l:=by obtain⟨a,c,hv,h⟩:=h;refine⟨a,c,hv,fun j x hx=>?_⟩;obtain⟨b,o,ha,hl,h0,h1⟩:=h j x hx;exact⟨b,o,ha,Nat.lt_of_lt_of_le hl hb.size,(aK hb hl _).trans h0,(aK hb hl _).trans h1⟩
theorem iU.ap{B:Nat}{w:World}{v:Value}{l:List aS}(h:iU B w v l):pG w v l:=by
 obtain⟨ao,cap,rfl,ha⟩:=aM h;refine⟨ao,cap,rfl,fun j x hx=>?_⟩;have hj:=(List.getElem?_eq_some_iff.1 hx).1;rcases ha with⟨h0,_⟩|⟨g,rfl,h1,h2⟩
 ·omega
 ·refine⟨g,0,rfl,h2,?_,?_⟩
  ·rw[Nat.zero_add];exact pY (enc:=qF) (k:=2) (j:=0) (fun _=>rfl) h hx (by decide)
  ·rw[Nat.zero_add];exact pY (enc:=qF) (k:=2) (fun _=>rfl) h hx (by decide)
def Fu(w:World)(a:Option Addr)(d:List dr):Prop:=∀(j:Nat)x,d[j]?=some x→∃b o a0 n0 k0 a1 n1 k1,a=some ⟨b,o,none⟩∧b<w.heap.size∧w.cell? ⟨b,o+j*2,none⟩=some (.slice a0 n0 k0)∧w.cell? ⟨b,o+j*2+1,none⟩=some (.slice a1 n1 k1)∧pG w (.slice a0 n0 k0) x.apps
theorem Fu.ext{w w':World}{a:Option Addr}{d:List dr}(h:Fu w a d)(hb:Below w.heap.size w w'):Fu w' a d:=by intro j x hx;obtain⟨b,o,a0,n0,k0,a1,n1,k1,ha,hl,h0,h1,h2⟩:=h j x hx;exact⟨b,o,a0,n0,k0,a1,n1,k1,ha,Nat.lt_of_lt_of_le hl hb.size,(aK hb hl _).trans h0,(aK hb hl _).trans h1,h2.ext hb⟩
theorem pG.slice{w:World}{a:Option Addr}{n c:Nat}{l:List aS}(h:pG w (.slice a n c) l):n=l.length∧∀(j:Nat)x,l[j]?=some x→∃b o,a=some ⟨b,o,none⟩∧b<w.heap.size∧w.cell? ⟨b,o+j*2,none⟩=some (.string x.bZ)∧w.cell? ⟨b,o+j*2+1,none⟩=some (.string x.b7):=by obtain⟨a',c',h1,h2⟩:=h;cases h1;exact⟨rfl,h2⟩
abbrev yj(B:Nat)(w:World)(v:Value)(n:Nat)(l:List aS):Prop:=w.ownsRow B 37 2 v n (l.flatMap qF)
theorem iU.n{B n:Nat}{w:World}{v:Value}{l:List aS}(h:iU B w v l)(hn:l.length=n):yj B w v n l:=hn▸h
theorem yj.a{B n:Nat}{w:World}{v:Value}{l:List aS}(h:yj B w v n l)(hn:l.length=n):iU B w v l:=by subst hn;exact h
def su(w:World)(v:Value)(l:List eI):Prop:=∃a c,v=.slice a l.length c∧∀(j:Nat)x,l[j]?=some x→∃b o,a=some ⟨b,o,none⟩∧b<w.heap.size∧w.cell? ⟨b,o+j*3,none⟩=some (.string x.name)∧w.cell? ⟨b,o+j*3+1,none⟩=some (.string x.value)∧w.cell? ⟨b,o+j*3+2,none⟩=some (.bool true)
theorem su.ext{w w':World}{v:Value}{l:List eI}(h:su w v l)(hb:Below w.heap.size w w'):su w' v l:=by obtain⟨a,c,hv,h⟩:=h;refine⟨a,c,hv,fun j x hx=>?_⟩;obtain⟨b,o,ha,hl,h0,h1,h2⟩:=h j x hx;exact⟨b,o,ha,Nat.lt_of_lt_of_le hl hb.size,(aK hb hl _).trans h0,(aK hb hl _).trans h1,(aK hb hl _).trans h2⟩
theorem su.nil(w:World):su w (.slice none 0 0) []:=⟨none,0,rfl,fun j x hx=>by simp at hx⟩
section
variable{α:Type}{f:α→List a_}{k:Nat}
theorem ail(hf:∀x,(f x).length=k)(l:List α):(l.flatMap f).length=l.length*k:=by
 induction l with
 |nil=>simp
 |cons a l ih=>rw[List.flatMap_cons,List.length_append,ih,hf,List.length_cons,Nat.add_mul,Nat.one_mul,Nat.add_comm]
theorem Wm(hf:∀x,(f x).length=k):∀(l:List α)(j i:Nat)(x:α),l[j]?=some x→i<k→(l.flatMap f)[j*k+i]?=(f x)[i]?
 |[],_,_,_,h,_=>by simp at h
 |a::l,0,i,x,h,hi=>by simp only[List.getElem?_cons_zero,Option.some.injEq]at h;subst h;rw[List.flatMap_cons,Nat.zero_mul,Nat.zero_add,List.getElem?_append_left (by rw[hf];exact hi)]
 |a::l,j+1,i,x,h,hi=>by rw[List.getElem?_cons_succ]at h;rw[List.flatMap_cons,List.getElem?_append_right (by rw[hf,Nat.add_mul];omega),hf,show(j+1)*k+i-k=j*k+i by rw[Nat.add_mul];omega];exact Wm hf l j i x h hi
theorem aim{S:Nat→Prop}{w:World}{v:Value}{l:List α}(hf:∀x,(f x).length=k)(hk:0<k)(h:Rd S w v (.list k (l.flatMap f))):∃(a:Option Addr)(c:Nat),v=.slice a l.length c∧∀j x,l[j]?=some x→∃b o,a=some ⟨b,o,none⟩∧S b∧∀i d,(f x)[i]?=some d→∃u,w.cell? ⟨b,o+(j*k+i),none⟩=some u∧Rd S w u d:=by
 obtain⟨a,n,c,rfl,hl,_,_,hc⟩:=h.jT;rw[ail hf]at hl;obtain rfl:l.length=n:=Nat.eq_of_mul_eq_mul_right hk hl;refine⟨a,c,rfl,fun j x hx=>?_⟩;have hj:j<l.length:=(List.getElem?_eq_some_iff.1 hx).1;obtain⟨b,o,rfl,hS,hcell⟩:=hc (by omega);refine⟨b,o,rfl,hS,fun i d hd=>?_⟩;have hi:i<k:=by rw[←hf x];exact(List.getElem?_eq_some_iff.1 hd).1
 have hg:=Wm hf l j i x hx hi;rw[hd]at hg;obtain⟨hlt,he⟩:=List.getElem?_eq_some_iff.1 hg;obtain⟨u,h1,h2⟩:=hcell _ hlt;exact⟨u,h1,he▸h2⟩
end
end Go.Proofs.YtcaiibkgajhohaaGreatDoor
