/- waybill: lemmas and walks, printed from longer texts. -/
import Derived.Test.YtcaiibkgajhohaaGreatDoorM02
import Derived.Laws.OwnMore
import Derived.Lib.SmallJoins
import Derived.Laws.BytesString
import Derived.Deep.AppendLies
import Derived.Shelf.Vars
set_option maxRecDepth 100000
set_option maxHeartbeats 8000000
namespace Go.Proofs.YtcaiibkgajhohaaGreatDoor
open Go.RowKit Go.Extern.Stop Go.Stop Go.Extern
def iZ(w:World):Prop:=w.cell? ⟨0,0,none⟩=some (.iface 192 (.agg #[.pointer (some ⟨6,29,none⟩)]))
theorem iZ.size{w:World}(h:iZ w):0<w.heap.size:=World.block_lt_of_cell? w ⟨0,0,none⟩ h
theorem iZ.ext{w w':World}(h:iZ w)(hb:Below w.heap.size w w'):iZ w':=by unfold iZ;rw[aK hb h.size];exact h
theorem iZ.alloc{w:World}(h:iZ w)(o:Obj):iZ (w.alloc o):=h.ext (aj (Below.refl _ _) o)
theorem Mi(e:Addr)(w:World)(hg:iZ w):Calls Tryz.prog 36 #[.iface 85 (.pointer (some e)),.iface 87 (.pointer (some ⟨w.heap.size,0,none⟩))] (w.alloc (.cells #[.pointer none] 85)) fun ev w'=>ev=.returned (.bool true)∧w'.cell? ⟨w.heap.size,0,none⟩=some (.pointer (some e))∧w.heap.size<w'.heap.size∧Below w.heap.size w w':=by refine(Xh e ⟨w.heap.size,0,none⟩ (.pointer none) _ (hg.alloc _) (by simp) (by simp)).mono ?_;rintro ev w'⟨rfl,rfl⟩;refine⟨rfl,World.cell?_setCell_same _ _ _ (u:=.pointer none) (jA _ (jA _ (jA _ (jA _ (by simp))))),by simp;omega,?_⟩;exact(aj (aj (aj (aj (aj (Below.refl _ _) _) _) _) _) _).setCell (Nat.le_refl _) _
def yE:List (Int×Int)→Int
 |[]=>0
 |x::_=>x.1
def FR:List (Int×Int)→Int
 |[]=>-1
 |x::_=>x.2
theorem FT(v:Value)(c:List (Int×Int))(w:World)(hg:iZ w)(h:Rd (Own w) w v (cz 85 c)):Calls Tryz.prog 15 #[v] w fun e w'=>e=.returned (.int .i64 (yE c))∧Below w.heap.size w w':=by
 cases c with
 |nil=>simp only[cz]at h;have e:=h.pO;subst e;clear h hg;go_enter Tryz.func15,Tryz.ntmps15;go_wp2;go_ret;exact⟨rfl,Below.refl _ _⟩
 |cons x r=>obtain⟨k,a⟩:=x;obtain⟨b,off,u,rfl,hS,c0,_,_,_⟩:=oF h;have A:=Lib.hid (Mi ⟨b,off,none⟩ w hg);have yF:b<w.heap.size:=hS;clear h hg hS;go_enter Tryz.func15,Tryz.ntmps15;go_wp2_with fail;refine A.out.mono ?_;rintro e w1⟨rfl,hc,hz,hb⟩;rw[←aK hb yF]at c0;have HB:=Lib.hid hb;clear hb;go_wp2;go_ret;exact⟨rfl,HB.out⟩
theorem Mj(v:Value)(c:List (Int×Int))(w:World)(hg:iZ w)(h:Rd (Own w) w v (cz 85 c)):Calls Tryz.prog 16 #[v] w fun e w'=>e=.returned (.int .i64 (FR c))∧Below w.heap.size w w':=by
 cases c with
 |nil=>simp only[cz]at h;have e:=h.pO;subst e;have hb:=Lib.hid (aj (Below.refl w.heap.size w) (.cells #[.pointer none] 85));clear h hg;go_enter Tryz.func16,Tryz.ntmps16;go_wp2;go_ret;exact⟨rfl,hb.out⟩
 |cons x r=>obtain⟨k,a⟩:=x;obtain⟨b,off,u,rfl,hS,_,c1,_,_⟩:=oF h;have A:=Lib.hid (Mi ⟨b,off,none⟩ w hg);have yF:b<w.heap.size:=hS;clear h hg hS;go_enter Tryz.func16,Tryz.ntmps16;go_wp2_with fail;refine A.out.mono ?_;rintro e w1⟨rfl,hc,hz,hb⟩;rw[←aK hb yF]at c1;have HB:=Lib.hid hb;clear hb;go_wp2;go_ret;exact⟨rfl,HB.out⟩
theorem Rd.fault{w:World}{k a:Int}{u:Value}{c:List (Int×Int)}(h:Rd (Own w) w u (cz 85 c)):Rd (Own (w.alloc (.cells #[.int .i64 k,.int .i64 a,u] 89))) (w.alloc (.cells #[.int .i64 k,.int .i64 a,u] 89)) (.iface 85 (.pointer (some ⟨w.heap.size,0,none⟩))) (cz 85 ((k,a)::c)):=by
 have h':=h.ext (aj (Below.refl _ _) (.cells #[.int .i64 k,.int .i64 a,u] 89));simp only[cz];refine .iface _ _ _ (.ptr _ _ _ (fun j=>(#[Value.int .i64 k,.int .i64 a,u][j]?).getD undef) (by show w.heap.size<_;simp) (fun j hj=>?_) (fun j hj=>?_))
 ·have hj':j=0∨j=1∨j=2:=by simp at hj;omega
  rcases hj' with rfl|rfl|rfl<;>simp
 ·have hj':j=0∨j=1∨j=2:=by simp at hj;omega
  rcases hj' with rfl|rfl|rfl
  ·exact .int _ _
  ·exact .int _ _
  ·exact h'
theorem ri(k a:Int)(w:World):Calls Tryz.prog 42 #[.int .i64 k,.int .i64 a] w fun e w'=>e=.returned (.iface 85 (.pointer (some ⟨w.heap.size,0,none⟩)))∧w'=w.alloc (.cells #[.int .i64 k,.int .i64 a,.nilIface] 89):=by go_enter Tryz.func42,Tryz.ntmps42;go_wp2;go_ret;exact⟨rfl,rfl⟩
theorem wG{S:Nat→Prop}(k a:Int)(u:Value)(c:List (Int×Int))(w:World)(h:Rd S w u (cz 85 c)):Calls Tryz.prog 25 #[.int .i64 k,.int .i64 a,u] w fun e w'=>e=.returned (.iface 85 (.pointer (some ⟨w.heap.size,0,none⟩)))∧w'=w.alloc (.cells #[.int .i64 k,.int .i64 a,u] 89):=by
 cases c with
 |nil=>simp only[cz]at h;have e:=h.pO;subst e;clear h;go_enter Tryz.func25,Tryz.ntmps25;go_wp2;go_ret;exact⟨rfl,rfl⟩
 |cons x r=>obtain⟨k',a'⟩:=x;obtain⟨b,off,u,rfl,_⟩:=oF h;clear h;go_enter Tryz.func25,Tryz.ntmps25;go_wp2;go_ret;exact⟨rfl,rfl⟩
theorem Rd.failed(k a:Int)(w:World):Rd (Own (w.alloc (.cells #[.int .i64 k,.int .i64 a,.nilIface] 89))) (w.alloc (.cells #[.int .i64 k,.int .i64 a,.nilIface] 89)) (.iface 85 (.pointer (some ⟨w.heap.size,0,none⟩))) (cz 85 [(k,a)]):=Rd.fault (c:=[]) (by simp only[cz];exact .mW)
theorem Rd.Cx(k a:Int)(w:World):Rd (fun b=>b=w.heap.size) (w.alloc (.cells #[.int .i64 k,.int .i64 a,.nilIface] 89)) (.iface 85 (.pointer (some ⟨w.heap.size,0,none⟩))) (cz 85 [(k,a)]):=by
 simp only[cz];refine .iface _ _ _ (.ptr _ _ _ (fun j=>(#[Value.int .i64 k,.int .i64 a,.nilIface][j]?).getD undef) rfl (fun j hj=>?_) (fun j hj=>?_))
 ·have hj':j=0∨j=1∨j=2:=by simp at hj;omega
  rcases hj' with rfl|rfl|rfl<;>simp
 ·have hj':j=0∨j=1∨j=2:=by simp at hj;omega
  rcases hj' with rfl|rfl|rfl
  ·exact .int _ _
  ·exact .int _ _
  ·exact .mW
def dK(w:World)(k:Nat)(i:Int)(u:Value)(w':World):Prop:=Rd (dY w w') w' u (cz 85 [((k:Int),i)])∧Below w.heap.size w w'
def Mx(w:World)(r:Sc Nat)(e:Ending)(w':World):Prop:=match r with
  |.ok n=>e=.returned (.tuple #[.int .i64 n,.nilIface])∧w=w'
  |.no k i=>∃u,e=.returned (.tuple #[.int .i64 0,u])∧dK w k i u w'
def F9(w:World)(k:Nat)(i:Int)(e:Ending)(w':World):Prop:=∃u,e=.returned u∧dK w k i u w'
theorem XN{w w0 w1:World}{k:Nat}{i:Int}(h0:Below w.heap.size w w0)(h1:w1=w0.alloc (.cells #[.int .i64 k,.int .i64 i,.nilIface] 89)):dK w k i (.iface 85 (.pointer (some ⟨w0.heap.size,0,none⟩))) w1:=by subst h1;exact⟨(Rd.Cx (k:Int) i w0).wide (fun b e=>⟨by have:=h0.size;omega,by rw[e];simp⟩),aj h0 _⟩
theorem dK.form{w w':World}{k:Nat}{i:Int}{u:Value}(h:dK w k i u w'):∃p,u=.iface 85 (.pointer (some p)):=by obtain⟨b,off,u,rfl,_⟩:=oF h.1;exact⟨_,rfl⟩
theorem dK.after{a b c:World}{k:Nat}{i:Int}{u:Value}(h:dK b k i u c)(hb:Below a.heap.size a b):dK a k i u c:=⟨h.1.wide (fun x hx=>⟨by have:=hx.1;have:=hb.size;omega,hx.2⟩),aF hb h.2⟩
theorem fails(k:Nat)(i:Int)(w:World):Calls Tryz.prog 42 #[.int .i64 k,.int .i64 i] w (F9 w k i):=(ri k i w).mono fun _ _⟨he,hw⟩=>⟨_,he,XN (Below.refl _ _) hw⟩
theorem yM(v:Value)(B:ByteArray)(w:World)(h:Rd (Own w) w v (dF B)):Calls Tryz.prog 152 #[v] w (F9 w 10 B.size):=by obtain⟨a,c,rfl,_,_,_⟩:=h.eY;clear h;go_enter Tryz.func152,Tryz.ntmps152;go_wp2_with fail;refine(fails 10 B.size w).mono ?_;rintro e w1⟨u,rfl,hf⟩;have HF:=Lib.hid hf;clear hf;go_wp2;go_ret;exact⟨_,rfl,HF.out⟩
def ku(l:List Nat)(c:Nat):Int:=if l.contains c then(l.idxOf c:Int)else-1
theorem XO(l:List UInt8)(c:Nat)(hc:c<256):Go.Lib.indexByte l (c:Int).toNat.toUInt8=ku (l.map (·.toNat)) c:=by
 induction l with
 |nil=>rfl
 |cons b l ih=>
  have hb:(b==(c:Int).toNat.toUInt8)=(b.toNat==c):=by
   rw[Int.toNat_natCast,Bool.eq_iff_iff,beq_iff_eq,beq_iff_eq];constructor
   ·intro h;rw[h];simp;omega
   ·intro h;apply UInt8.toNat.inj;rw[h];simp;omega
  unfold Go.Lib.indexByte;rw[hb,ih,List.map_cons];unfold ku;rw[List.contains_cons,List.idxOf_cons];by_cases hx:b.toNat=c
  ·simp[hx]
  ·have uH:(b.toNat==c)=false:=by simpa using hx
   have fS:(c==b.toNat)=false:=by rw[beq_eq_false_iff_ne];exact fun h=>hx h.symm
   rw[uH,fS,Bool.false_or,if_neg (by simp)];by_cases h1:(l.map (·.toNat)).contains c=true
   ·rw[if_pos h1,if_pos h1,if_neg (by simp<;>omega)];simp
   ·rw[if_neg h1,if_neg h1,if_pos (by rfl)]
theorem CG{l:List Nat}{c:Nat}:decide (0≤ku l c)=l.contains c:=by
 unfold ku;by_cases h:l.contains c=true
 ·rw[if_pos h,h];exact decide_eq_true (Int.natCast_nonneg _)
 ·rw[if_neg h];simp only[Bool.not_eq_true]at h;rw[h];rfl
theorem yN(s:ByteArray)(l:List Nat)(hl:s.data.toList.map (·.toNat)=l)(c:Nat)(hc:c<256)(w:World):Calls Tryz.prog 81 #[.string s,.int .u8 c] w fun e w'=>e=.returned (.int .i64 (ku l c))∧w=w':=(Tryz.strings_IndexByte s _ w).mono fun e w'⟨he,hw⟩=>⟨by rw[he,XO _ c hc,hl],hw.symm⟩
theorem yO(v:Value)(B:ByteArray)(i:Nat)(s:ByteArray)(l:List Nat)(hl:s.data.toList.map (·.toNat)=l)(w:World)(h:Rd (Own w) w v (dF B))(hm:B.size≤1100000)(hi:i≤1100000):Calls Tryz.prog 154 #[v,.int .i64 i,.string s] w fun e w'=>e=.returned (.bool (dB l B i))∧w=w':=by
 obtain⟨a,c,rfl,_,_,hc⟩:=h.eY;by_cases hlt:i<B.size
 ·obtain⟨b,off,rfl,_,x0⟩:=hc (by omega);have x1:=x0 i hlt;have CI:=Lib.hid (yN s l hl (af B i) (dm B i) w);have hx:=CG (l:=l) (c:=af B i);rw[←Xz hlt]at hx;have t1:decide ((i:Int)<(B.size:Int))=true:=decide_eq_true (by omega);generalize ku l (af B i)=x at*
  cases ho:dB l B i with
  |true=>rw[ho]at hx;clear h x0 hc hl ho;go_enter Tryz.func154,Tryz.ntmps154;go_wp2_with fail;refine CI.out.mono ?_;rintro e w1⟨rfl,rfl⟩;go_wp2;go_ret;exact⟨rfl,rfl⟩
  |false=>rw[ho]at hx;clear h x0 hc hl ho;go_enter Tryz.func154,Tryz.ntmps154;go_wp2_with fail;refine CI.out.mono ?_;rintro e w1⟨rfl,rfl⟩;go_wp2;go_ret;exact⟨rfl,rfl⟩
 ·rw[XC (by omega)];have t1:decide ((i:Int)<(B.size:Int))=false:=decide_eq_false (by omega);clear h hc hl;go_enter Tryz.func154,Tryz.ntmps154;go_wp2;go_ret;exact⟨rfl,rfl⟩
def My(B:ByteArray)(e:Nat)(k:Value):Prop:=∃j:Nat,k=.int .i64 j∧j≤e∧skip ir B j=e
theorem Mz{c:Nat}(h:ir c=true):48≤c∧c≤57:=by simp[ir]at h;exact h
theorem MA{c:Nat}(h:ir c=false):c<48∨57<c:=by simp[ir]at h;omega
theorem CJ(v:Value)(B:ByteArray)(i:Nat)(w:World)(h:Rd (Own w) w v (dF B))(hm:B.size≤1100000)(hi:i≤B.size):Calls Tryz.prog 155 #[v,.int .i64 i] w (Mx w (fi B i)):=by
 have HS:=Lib.hid (yM v B w h);obtain⟨a,c,rfl,_,_,hc⟩:=h.eY;have HC:=Lib.hid hc;have hD:fi B i=fi B i:=rfl;conv at hD=>rhs;unfold fi
 have uI:=Cz ir B i;have hle:=yK ir B i hi;have hE:=CA ir B _ i rfl;generalize he:skip ir B i=e at*;have HD:=Lib.hid hD;have HE:=Lib.hid hE;have XP:=Lib.hid he;clear h hc hD hE he;go_enter Tryz.func155,Tryz.ntmps155;go_wp2_with fail;go_loop[1](My B e)(fun k=>B.size-(intOf k).toNat);case atStart=>exact⟨i,rfl,uI,XP.out⟩
 case round=>
  obtain⟨j,rfl,hj,hs⟩:=hrel;by_cases hlt:j<e
  ·have hd:ir (af B j)=true:=by
    cases hx:ir (af B j)with
    |true=>rfl
    |false=>rw[sE (fun _=>hx)]at hs;omega
   rw[yJ (by omega) hd]at hs;obtain⟨q1,q2⟩:=Mz hd;obtain⟨b,off,rfl,_,x0⟩:=HC.out (by omega);have x1:=x0 j (by omega);have t1:decide ((j:Int)<(B.size:Int))=true:=decide_eq_true (by omega);have t2:decide ((48:Int)≤(af B j:Int))=true:=decide_eq_true (by omega);have t3:decide ((af B j:Int)≤57)=true:=decide_eq_true (by omega);have R:My B e (.int .i64 (j+1)):=⟨j+1,by go_num,by omega,hs⟩;have HR:=Lib.hid R;clear R hs hd x0;go_wp2;refine⟨?_,by simp[intOf];omega⟩
   have R:=HR.out;first|exact R|((repeat apply Exists.intro);exact⟨R,rfl⟩)
  ·obtain rfl:j=e:=by omega
   clear hs;by_cases hsz:j<B.size
   ·have hd:=HE.out hsz;obtain⟨b,off,rfl,_,x0⟩:=HC.out (by omega);have x1:=x0 j (by omega);have t1:decide ((j:Int)<(B.size:Int))=true:=decide_eq_true (by omega);have b9:=dm B j
    have q:(decide ((48:Int)≤(af B j:Int))=false)∨(decide ((48:Int)≤(af B j:Int))=true∧decide ((af B j:Int)≤57)=false):=by
     rcases MA hd with q|q
     ·exact .inl (decide_eq_false (by omega))
     ·exact .inr ⟨decide_eq_true (by omega),decide_eq_false (by omega)⟩
    clear x0 hd;by_cases ni:i<j
    ·have t4:decide ((i:Int)<(j:Int))=true:=decide_eq_true (by omega);rcases q with q|⟨q,q2⟩;all_goals go_wp2;go_ret2;rw[HD.out,if_pos ni];exact⟨rfl,rfl⟩
    ·have t4:decide ((i:Int)<(j:Int))=false:=decide_eq_false (by omega);have t5:((j:Int)==(B.size:Int))=false:=beq_eq_false_iff_ne.2 (by omega);have MC:j=i:=by omega
     rcases q with q|⟨q,q2⟩;all_goals have HJ:=Lib.hid MC;clear MC;go_wp2_with fail;refine(fails 11 j w).mono ?_;rintro ev w1⟨u,rfl,hf⟩;have HF:=Lib.hid hf;clear hf;go_wp2;go_ret2;rw[HD.out,if_neg ni,if_neg (by omega),←HJ.out];exact⟨_,rfl,HF.out⟩
   ·obtain rfl:j=B.size:=by omega
    have t1:decide ((B.size:Int)<(B.size:Int))=false:=decide_eq_false (by omega);by_cases ni:i<B.size
    ·have t4:decide ((i:Int)<(B.size:Int))=true:=decide_eq_true (by omega);go_wp2;go_ret2;rw[HD.out,if_pos ni];exact⟨rfl,rfl⟩
    ·have t4:decide ((i:Int)<(B.size:Int))=false:=decide_eq_false (by omega);have t5:((B.size:Int)==(B.size:Int))=true:=beq_self_eq_true _;go_wp2_with fail;refine HS.out.mono ?_;rintro ev w1⟨u,rfl,hf⟩;have HF:=Lib.hid hf;clear hf;go_wp2;go_ret2;rw[HD.out,if_neg ni,if_pos (by omega)];exact⟨_,rfl,HF.out⟩
theorem CX{a b:Int}(h:a=b):Ending.returned (.int .i64 a)=.returned (.int .i64 b):=by rw[h]
theorem wN(n:Int)(w:World):Calls Tryz.prog 186 #[.int .i64 n] w fun e w'=>e=.returned (.int .i64 (cY n))∧w=w':=by
 by_cases h1:n<55296
 ·have hd:cY n=0:=by unfold cY;rw[if_neg (by omega),if_neg (by omega)]
  have HD:=Lib.hid hd;clear hd;have t1:decide (n<55296)=true:=decide_eq_true h1;go_enter Tryz.func186,Tryz.ntmps186;go_wp2;go_ret;exact⟨CX HD.out.symm,rfl⟩
 ·have t1:decide (n<55296)=false:=decide_eq_false h1;by_cases h2:57343<n
  ·have hd:cY n=0:=by unfold cY;rw[if_neg (by omega),if_neg (by omega)]
   have HD:=Lib.hid hd;clear hd;have t2:decide (57343<n)=true:=decide_eq_true h2;go_enter Tryz.func186,Tryz.ntmps186;go_wp2;go_ret;exact⟨CX HD.out.symm,rfl⟩
  ·have t2:decide (57343<n)=false:=decide_eq_false h2;by_cases h3:n<56320
   ·have hd:cY n=1:=by unfold cY;rw[if_pos (by omega)]
    have HD:=Lib.hid hd;clear hd;have t3:decide (n<56320)=true:=decide_eq_true h3;go_enter Tryz.func186,Tryz.ntmps186;go_wp2;go_ret;exact⟨CX HD.out.symm,rfl⟩
   ·have hd:cY n=2:=by unfold cY;rw[if_neg (by omega),if_pos (by omega)]
    have HD:=Lib.hid hd;clear hd;have t3:decide (n<56320)=false:=decide_eq_false h3;go_enter Tryz.func186,Tryz.ntmps186;go_wp2;go_ret;exact⟨CX HD.out.symm,rfl⟩
def yU(B:ByteArray)(i:Nat):ByteArray:=⟨B.data.extract i B.data.size⟩
theorem CY(B:ByteArray)(i:Nat):(yU B i).size=B.size-i:=by show(B.data.extract i B.data.size).size=_;simp
theorem MT(B:ByteArray)(i j:Nat):af (yU B i) j=af B (i+j):=by
 unfold af yU;simp only[Array.getElem?_extract];split
 ·rfl
 ·rw[Array.getElem?_eq_none (by simp at*;omega)]
theorem MU(s:ByteArray)(j:Nat):(s.get! j).toNat=af s j:=by
 cases s with
 |mk bs=>show(bs[j]!).toNat=(bs[j]?.getD 0).toNat;rw[Array.getElem!_eq_getD,Array.getD_eq_getD_getElem?];rfl
theorem Ye(B:ByteArray)(i:Nat)(h:i<B.size):Go.Lib.decodeGo (yU B i)=bR B i:=by unfold Go.Lib.decodeGo;rw[if_neg (by rw[CY];omega),Go.Lib.decode_at,CY];simp only[MU,MT];unfold bR;simp
def Gm(w:World)(r:Sc (Nat×Nat))(e:Ending)(w':World):Prop:=match r with
  |.ok x=>e=.returned (.tuple #[.int .i64 x.1,.int .i64 x.2,.nilIface])∧Below w.heap.size w w'
  |.no k i=>∃u,e=.returned (.tuple #[.int .i64 0,.int .i64 0,.iface 85 (.pointer (some u))])∧dK w k i (.iface 85 (.pointer (some u))) w'
def nu(w:World):Prop:=Go.Lib.Utf8Tabs 4 5 w
theorem nu.ext{w w':World}(h:nu w)(hb:Below w.heap.size w w'):nu w':=Utf8Tabs_below h hb
theorem Yf(B:ByteArray)(i:Nat):(bR B i).1<1114112∧(bR B i).2<5:=by have h0:=dm B i;have h1:=dm B (i+1);have h2:=dm B (i+2);have h3:=dm B (i+3);unfold bR Go.Lib.decodeN;(repeat' split);all_goals simp only<;>omega
theorem MV(v:Value)(B:ByteArray)(i:Nat)(w:World)(h:Rd (Own w) w v (dF B))(ht:nu w)(hm:B.size≤1100000)(hi:i<B.size):Calls Tryz.prog 131 #[v,.int .i64 i] w (Gm w (lW B i)):=by
 obtain⟨a,c,rfl,_,gY,hc⟩:=h.eY;obtain⟨b,off,rfl,_,x0⟩:=hc (by omega);have D:=Tryz.utf8_DecodeRune (yU B i) b (off+i) (c-i) w ht (fun j hj=>by rw[CY]at hj;rw[Nat.add_assoc,x0 (i+j) (by omega),MU,MT]);rw[Ye B i hi,CY]at D;have hcs:lW B i=lW B i:=rfl;conv at hcs=>rhs;unfold lW
 rw[if_neg (by omega)]at hcs;have hlt:=Yf B i;rcases hx:bR B i with⟨r,k⟩;rw[hx]at D hcs hlt;simp only at D hlt;obtain⟨hr,hk⟩:=hlt;have HD:=Lib.hid D;have wO:=Lib.hid hcs;have t1:decide ((i:Int)<0)=false:=decide_eq_false (by omega);have t2:decide ((B.size:Int)<(i:Int))=false:=decide_eq_false (by omega);have t3:((i:Int)==(B.size:Int))=false:=beq_eq_false_iff_ne.2 (by omega);have q1:(i:Int)<(c:Int):=by omega
 clear h hc x0 D hcs hx ht;go_enter Tryz.func131,Tryz.ntmps131;go_wp2_with fail;refine HD.out.mono ?_;rintro e w1⟨rfl,hb⟩;have HB:=Lib.hid hb;clear hb;by_cases bj:r=65533
 ·subst bj;by_cases jD:k=1
  ·subst jD;have HC:=Lib.hid (wO.out.trans (if_pos rfl));clear wO;go_wp2_with fail;refine(fails 12 i w1).mono ?_;rintro ev w2⟨u,rfl,hf⟩;obtain⟨p,rfl⟩:=hf.form;have HF:=Lib.hid (hf.after HB.out);clear hf;go_wp2;go_ret3;rw[HC.out];exact⟨_,rfl,HF.out⟩
  ·have t4:((k:Int)==1)=false:=beq_eq_false_iff_ne.2 (by omega);have HC:=Lib.hid (wO.out.trans (if_neg (fun e=>jD (Prod.mk.inj e).2)));clear wO;go_wp2;go_ret3;rw[HC.out];exact⟨rfl,HB.out⟩
 ·have t4:((r:Int)==65533)=false:=beq_eq_false_iff_ne.2 (by omega);have HC:=Lib.hid (wO.out.trans (if_neg (fun e=>bj (Prod.mk.inj e).1)));clear wO;go_wp2;go_ret3;rw[HC.out];exact⟨rfl,HB.out⟩
def Gn(hi lo:Int):Int:=65536+(hi-55296)*1024+lo-56320
theorem Yg(hi lo:Int)(w:World)(h1:55296≤hi)(h2:hi<56320)(h3:56320≤lo)(h4:lo<57344):Calls Tryz.prog 187 #[.int .i64 hi,.int .i64 lo] w fun e w'=>e=.returned (.tuple #[.int .i64 (Gn hi lo),.bool true])∧w=w':=by(have e1:cY hi=1:=by unfold cY;rw[if_pos (by omega)]);(have e2:cY lo=2:=by unfold cY;rw[if_neg (by omega),if_pos (by omega)]);have H1:=wN hi w;have H2:=wN lo w;rw[e1]at H1;rw[e2]at H2;have H1:=Lib.hid H1;have H2:=Lib.hid H2;clear e1 e2;go_enter Tryz.func187,Tryz.ntmps187;go_wp2_with fail;refine H1.out.mono ?_;rintro e w1⟨rfl,rfl⟩;go_wp2_with fail;refine H2.out.mono ?_;rintro e w1⟨rfl,rfl⟩;go_wp2;go_ret2;exact⟨rfl,rfl⟩
theorem MW(hi lo:Int)(w:World)(h:¬(55296≤hi∧hi<56320∧56320≤lo∧lo<57344)):Calls Tryz.prog 187 #[.int .i64 hi,.int .i64 lo] w fun e w'=>e=.returned (.tuple #[.int .i64 0,.bool false])∧w=w':=by
 have H1:=Lib.hid (wN hi w);have H2:=Lib.hid (wN lo w);by_cases e1:cY hi=1
 ·have e2:cY lo≠2:=by
   unfold cY at e1⊢;split at e1
   ·split
    ·decide
    ·rw[if_neg (by omega)];decide
   ·split at e1<;>cases e1
  have t1:(cY hi !=1)=false:=by simp[e1]
  have t2:(cY lo !=2)=true:=bne_iff_ne.2 e2;clear h e1 e2;go_enter Tryz.func187,Tryz.ntmps187;go_wp2_with fail;refine H1.out.mono ?_;rintro e w1⟨rfl,rfl⟩;go_wp2_with fail;refine H2.out.mono ?_;rintro e w1⟨rfl,rfl⟩;go_wp2;go_ret2;exact⟨rfl,rfl⟩
 ·have t1:(cY hi !=1)=true:=bne_iff_ne.2 e1;clear h e1;go_enter Tryz.func187,Tryz.ntmps187;go_wp2_with fail;refine H1.out.mono ?_;rintro e w1⟨rfl,rfl⟩;go_wp2;go_ret2;exact⟨rfl,rfl⟩
def gp{α:Type}(B:ByteArray)(r:Sc α):Prop:=∀k i,r=.no k i→0≤i∧i≤(B.size:Int)
theorem gp.ok{α:Type}{B:ByteArray}(a:α):gp B (.ok a):=fun k i h=>by cases h
theorem gp.no{α:Type}{B:ByteArray}{k:Nat}{i:Int}(h0:0≤i)(h:i≤(B.size:Int)):gp (α:=α) B (.no k i):=fun k' i' e=>by cases e;exact⟨h0,h⟩
theorem gp.bind{α β:Type}{B:ByteArray}{r:Sc α}{f:α→Sc β}(h:gp B r)(hf:∀a,r=.ok a→gp B (f a)):gp B (r.bind f):=by
 cases r with
 |ok a=>exact hf a rfl
 |no k i=>intro k' i' e;cases e;exact h k i rfl
variable{B:ByteArray}
def nw(B:ByteArray):Nat→Nat→List Nat→Sc (List Nat)
 |0,i,acc=>if i<B.size then .no 12 i else .ok acc
 |f+1,i,acc=>if i<B.size then(if bR B i=(65533,1)then .no 12 i else nw B f (i+(bR B i).2) (acc++[(bR B i).1]))else .ok acc
def dZ(B:ByteArray)(i:Nat)(acc:List Nat):Sc (List Nat):=nw B (B.size-i) i acc
theorem wR{B:ByteArray}{i:Nat}(hi:i<B.size):0<(bR B i).2∧i+(bR B i).2≤B.size:=by have:=Mt (B.size-i) (af B i) (af B (i+1)) (af B (i+2)) (af B (i+3)) (by omega);unfold bR;omega
theorem YK(B:ByteArray):∀n f g i acc,B.size-i=n→n≤f→n≤g→nw B f i acc=nw B g i acc:=by
 intro n
 induction n using Nat.strongRecOn with
 |ind n ih=>
  intro f g i acc hn hf hg;by_cases hi:i<B.size
  ·cases f with
   |zero=>omega
   |succ f=>
    cases g with
    |zero=>omega
    |succ g=>
     have hd:=wR hi;rw[nw,nw,if_pos hi,if_pos hi];split
     ·rfl
     ·exact ih (B.size-(i+(bR B i).2)) (by omega) f g _ _ rfl (by omega) (by omega)
  ·cases f<;>cases g<;>simp only[nw,if_neg hi]
theorem y9{B:ByteArray}{i:Nat}{acc:List Nat}(hi:i<B.size):dZ B i acc=if bR B i=(65533,1)then .no 12 i else dZ B (i+(bR B i).2) (acc++[(bR B i).1]):=by
 have hd:=wR hi;unfold dZ
 cases hf:B.size-i with
 |zero=>omega
 |succ f=>
  rw[nw,if_pos hi];split
  ·rfl
  ·exact YK B _ _ _ _ _ rfl (by omega) (by omega)
theorem wS{B:ByteArray}{i:Nat}{acc:List Nat}(hi:¬i<B.size):dZ B i acc=.ok acc:=by unfold dZ;cases B.size-i<;>simp only[nw,if_neg hi]
theorem y_{B:ByteArray}{i k:Nat}(h1:1≤k)(h4:k≤4)(hk:i+k≤B.size)(hh:fT (af B i) (af B (i+1)) (af B (i+2)) (af B (i+3)) k=true):bR B i=((k9 (af B i) (af B (i+1)) (af B (i+2)) (af B (i+3)) k).toNat,k)∧bR B i≠(65533,1)∧bm (bR B i).1=[af B i,af B (i+1),af B (i+2),af B (i+3)].take k:=by obtain⟨e1,e2⟩:=MQ (dm B i) (dm B (i+1)) (dm B (i+2)) (B.size-i) (by omega) k h1 h4 (by omega) hh;have e:bR B i=((k9 (af B i) (af B (i+1)) (af B (i+2)) (af B (i+3)) k).toNat,k):=e1;refine⟨e,by rw[e];exact e2,?_⟩;rw[e];unfold fT at hh;simp only[Bool.and_eq_true,beq_iff_eq]at hh;exact hh.2
def fF:List Nat:=[34,92,8,12,10,13,9]
def pX:List Nat:=[34,92,98,102,110,114,116]
def c_(d:Nat):Nat:=if d<10 then 48+d else 55+d
def cO(c:Nat):List Nat:=if fF.contains c then[92,pX[fF.idxOf c]?.getD 0]else if c<32 then[92,117,48,48,c_ (c/16),c_ (c%16)]else[c]
theorem C5(c:Nat):1≤(cO c).length∧(cO c).length≤6:=by unfold cO;split<;>(try split)<;>simp
theorem YM:∀c:Fin 256,fF.contains c.val=true→∃x:Fin 256,cO c.val=[92,x.val]∧x.val≠117∧sG x.val=some c.val:=by decide+kernel
theorem YN:∀c:Fin 256,fF.contains c.val=false→c.val<32→cO c.val=[92,117,48,48,c_ (c.val/16),c_ (c.val%16)]∧km (c_ (c.val/16))=true∧km (c_ (c.val%16))=true∧16*oI (c_ (c.val/16))+oI (c_ (c.val%16))=c.val:=by decide+kernel
def dC(B:ByteArray):List Nat:=B.data.toList.map (·.toNat)
def ny(B:ByteArray):List Nat:=34::((dC B).flatMap cO++[34])
def aG(B:ByteArray):ByteArray:=⟨((ny B).map UInt8.ofNat).toArray⟩
def fj(B:ByteArray)(i:Nat):Nat:=1+(((dC B).take i).flatMap cO).length
section
variable{α β:Type}{enc:α→List β}{k:Nat}
theorem za(hk:∀x,(enc x).length=k):∀xs:List α,(xs.flatMap enc).length=xs.length*k
 |[]=>by simp
 |x::xs=>by rw[List.flatMap_cons,List.length_append,za hk xs,hk,List.length_cons,Nat.add_mul];omega
theorem Gz(hk:∀x,(enc x).length=k):∀(xs:List α)(i j:Nat)(x:α),xs[i]?=some x→j<k→(xs.flatMap enc)[i*k+j]?=(enc x)[j]?
 |[],i,j,x,h,_=>by simp at h
 |y::ys,0,j,x,h,hj=>by simp at h;subst h;rw[List.flatMap_cons,List.getElem?_append_left (by rw[hk];omega)];simp
 |y::ys,i+1,j,x,h,hj=>by simp at h;rw[List.flatMap_cons,List.getElem?_append_right (by rw[hk,Nat.add_mul];omega),hk,←Gz hk ys i j x h hj];congr 1;rw[Nat.add_mul];omega
theorem Nj(hk:∀x,(enc x).length=k){y:α}{u:β}{j:Nat}(hj:j<k):∀(xs:List α)(i:Nat)(x:α),xs[i]?=some x→enc y=(enc x).set j u→(xs.flatMap enc).set (i*k+j) u=(xs.set i y).flatMap enc
 |[],i,x,h,_=>by simp at h
 |z::zs,0,x,h,he=>by simp at h;subst h;rw[List.flatMap_cons,List.set_cons_zero,List.flatMap_cons,he,List.set_append_left _ _ (by rw[hk];omega)];simp
 |z::zs,i+1,x,h,he=>by simp at h;rw[List.flatMap_cons,List.set_cons_succ,List.flatMap_cons,List.set_append_right _ _ (by rw[hk,Nat.add_mul];omega),hk,←Nj hk hj zs i x h he];congr 2;rw[Nat.add_mul];omega
end
section
variable{α:Type}{enc:α→List Value}{k:Nat}{w:World}{base g n cap:Nat}{e:TypeId}{xs:List α}
theorem pY(hk:∀x,(enc x).length=k)(az:w.ownsRow base e k (.slice (some ⟨g,0,none⟩) n cap) n (xs.flatMap enc)){i j:Nat}{x:α}(hx:xs[i]?=some x)(hj:j<k):w.cell? ⟨g,i*k+j,none⟩=(enc x)[j]?:=by have hl:=az.1;rw[za hk]at hl;have hi:=(List.getElem?_eq_some_iff.1 hx).1;have h1:(i+1)*k≤xs.length*k:=Nat.mul_le_mul_right _ hi;rw[Nat.add_mul]at h1;rw[az.cellAt _ (by omega),Gz hk xs i j x hx hj]
theorem YV(hk:∀x,(enc x).length=k)(az:w.ownsRow base e k (.slice (some ⟨g,0,none⟩) n cap) n (xs.flatMap enc)){i j:Nat}{x y:α}{u:Value}(hx:xs[i]?=some x)(hj:j<k)(he:enc y=(enc x).set j u):(w.setCell ⟨g,i*k+j,none⟩ u).ownsRow base e k (.slice (some ⟨g,0,none⟩) n cap) n ((xs.set i y).flatMap enc):=by have:=(az.stored (i*k+j) u).1;rwa[Nj hk hj xs i x hx he]at this
end
theorem aM{w:World}{base:Nat}{e:TypeId}{sz n:Nat}{v:Value}{xs:List Value}(h:w.ownsRow base e sz v n xs):∃ao cap,v=.slice ao n cap∧(n=0∧ao=none∨∃g,ao=some ⟨g,0,none⟩∧base≤g∧g<w.heap.size):=by
 have hlt:=h.lt;rcases h.2 with⟨rfl,rfl⟩|⟨g,cap,cur,rfl,_⟩
 ·exact⟨none,0,rfl,.inl ⟨rfl,rfl⟩⟩
 ·exact⟨_,cap,rfl,.inr ⟨g,rfl,hlt g rfl⟩⟩
theorem bu{w w':World}{base base':Nat}{e:TypeId}{sz n:Nat}{v:Value}{xs:List Value}(h:w.ownsRow base e sz v n xs)(hb:∀g,v.ownBlock=some g→w'.heap[g]?=w.heap[g]?)(hB:base'≤base):w'.ownsRow base' e sz v n xs:=by
 refine⟨h.1,?_⟩;rcases h.2 with h2|⟨g,cap,cur,rfl,h3,hg,h4⟩
 ·exact .inl h2
 ·exact .inr ⟨g,cap,cur,rfl,Nat.le_trans hB h3,by rw[hb g rfl];exact hg,h4⟩
structure ag(T:Nat→Prop)(w w':World):Prop where
 os:w'.os=w.os
 tape:w'.tape=w.tape
 output:w'.output=w.output
 size:w.heap.size≤w'.heap.size
 block:∀k,k<w.heap.size→¬T k→w'.heap[k]?=w.heap[k]?
theorem ag.refl(T:Nat→Prop)(w:World):ag T w w:=⟨rfl,rfl,rfl,Nat.le_refl _,fun _ _ _=>rfl⟩
theorem ag.of{T:Nat→Prop}{w w':World}(h:Below w.heap.size w w'):ag T w w':=⟨h.os,h.tape,h.output,h.size,fun k hk _=>h.block k hk⟩
theorem ag.trans{T:Nat→Prop}{a b c:World}(h:ag T a b)(k:ag T b c):ag T a c:=⟨k.os.trans h.os,k.tape.trans h.tape,k.output.trans h.output,Nat.le_trans h.size k.size,fun j hj hn=>(k.block j (Nat.lt_of_lt_of_le hj h.size) hn).trans (h.block j hj hn)⟩
theorem ag.wide{T T':Nat→Prop}{a b:World}(h:ag T a b)(hT:∀k,k<a.heap.size→T k→T' k):ag T' a b:=⟨h.os,h.tape,h.output,h.size,fun k hk hn=>h.block k hk (fun ht=>hn (hT k hk ht))⟩
theorem ag.below{T:Nat→Prop}{B:Nat}{a b:World}(h:ag T a b)(hB:B≤a.heap.size)(hT:∀k,T k→B≤k):Below B a b:=⟨h.os,h.tape,h.output,h.size,fun k hk=>h.block k (by omega) (fun ht=>by have:=hT k ht;omega)⟩
theorem ag.alloc{T:Nat→Prop}{a b:World}(h:ag T a b)(o:Obj):ag T a (b.alloc o):=h.trans (.of (aj (Below.refl _ _) o))
theorem ag.set{T:Nat→Prop}{a b:World}(h:ag T a b){p:Addr}(hp:p.block<a.heap.size→T p.block)(u:Value):ag T a (b.setCell p u):=⟨h.os,h.tape,h.output,by simpa using h.size,fun k hk hn=>(Below.heap_setCell b p u k (fun e=>hn (by rw[e];exact hp (by omega)))).trans (h.block k hk hn)⟩
theorem ag.grown{T:Nat→Prop}{a b c:World}{row:Option Nat}(h:ag T a b)(hg:b.grownBy c row)(hr:∀k,row=some k→k<a.heap.size→T k):ag T a c:=⟨hg.os.trans h.os,hg.tape.trans h.tape,hg.output.trans h.output,Nat.le_trans h.size hg.size,fun k hk hn=>(hg.block k (Nat.lt_of_lt_of_le hk h.size) (fun e=>hn (hr k e.symm hk))).trans (h.block k hk hn)⟩
theorem wT:iq Tryz.prog 106 3 1 8 (.int .i64 0):=⟨Tryz.underlying106,by kernel_rfl,rfl,by decide⟩
def lZ(l:List Nat):List Value:=l.map fun n:Nat=>.int .i64 (n:Int)
def oO(l:List Nat):a_:=.list 1 (l.map fun n:Nat=>.int .i64 (n:Int))
theorem C8{S:Nat→Prop}{w:World}(l:List Nat):bp S w (lZ l) (l.map fun n:Nat=>a_.int .i64 (n:Int)):=⟨by simp[lZ],fun i u d h1 h2=>by
 simp only[lZ,List.getElem?_map]at h1 h2
 cases hl:l[i]? with
 |none=>rw[hl]at h1;cases h1
 |some n=>rw[hl]at h1 h2;cases h1;cases h2;exact .int _ _⟩
theorem YW{B:ByteArray}(h:¬0<B.size):B=ByteArray.empty:=by
 cases B with
 |mk d=>(have:d.size=0:=by have h':¬0<d.size:=h;omega);rw[Array.eq_empty_of_size_eq_zero this];rfl
def jb(B:ByteArray):List Value:=B.data.toList.map fun x=>Value.int .u8 (x.toNat:Nat)
def pZ(B:ByteArray):List a_:=B.data.toList.map fun x=>a_.int .u8 (x.toNat:Nat)
theorem YX(B:ByteArray):dF B=.list 1 (pZ B):=rfl
theorem YY{S:Nat→Prop}{w:World}(B:ByteArray):bp S w (jb B) (pZ B):=⟨by simp[jb,pZ],fun i u d hu hd=>by simp only[jb,pZ,List.getElem?_map,Option.map_eq_some_iff]at hu hd;obtain⟨x,hx,rfl⟩:=hu;obtain⟨y,hy,rfl⟩:=hd;rw[hx]at hy;cases hy;exact .int _ _⟩
theorem size_push(P:ByteArray)(x:UInt8):(P.push x).size=P.size+1:=by show(P.data.push x).size=P.data.size+1;exact Array.size_push _
def tG(w:World):Prop:=2<w.heap.size∧∃m,w.cell? ⟨2,0,none⟩=some (.int .i64 m)
theorem tG.ext{w w':World}(h:tG w)(hb:Below w.heap.size w w'):tG w':=by obtain⟨h1,m,h2⟩:=h;exact⟨Nat.lt_of_lt_of_le h1 hb.size,m,(aK hb h1 0).trans h2⟩
theorem acj{w:World}(h:w.ShapedOpen Tryz.prog):tG w:=by have hg:2<Tryz.prog.globals.size:=of_decide_eq_true (by kernel_rfl);obtain⟨m,hm⟩:=cell_of_shapedOpen_int (P:=Tryz.prog) (g:=2) (t:=3) (zero:=#[.int .i64 0]) (k:=.i64) h hg (by kernel_rfl) rfl (by kernel_rfl) (by kernel_rfl) Tryz.underlying3;refine⟨?_,m,hm⟩;exact World.block_lt_of_cell? w ⟨2,0,none⟩ hm
end Go.Proofs.YtcaiibkgajhohaaGreatDoor
