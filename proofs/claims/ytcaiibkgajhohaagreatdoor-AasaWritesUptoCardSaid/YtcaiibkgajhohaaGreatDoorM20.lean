/- waybill: lemmas and walks, printed from longer texts. -/
import Derived.Test.YtcaiibkgajhohaaGreatDoorM19
import Derived.Lib.Strings
import Derived.Lib.Slices
import Derived.Lib.Walk
import Derived.Lib.Builder
import Derived.Lib.AppendStr
import Derived.Lib.UnsafeStr
import Derived.Lib.MakeNoZero
import Derived.Laws.Externs
import Derived.Laws.Bits128
set_option maxRecDepth 100000
set_option maxHeartbeats 16000000
namespace Go.Proofs.YtcaiibkgajhohaaGreatDoor
open Go.RowKit
theorem QI:(Tryz.prog.info? 211).map (·.size)=some 2:=by kernel_rfl
theorem ac1:liesAt Tryz.prog Tryz.prog.depth 211 (2/Tryz.prog.cellsOf 211) 0 211 1=true:=by kernel_rfl
theorem QJ:(Tryz.prog.info? 5).map (fun i=>(i.zero,i.size,i.bytes))=some (some (.int .u8 0),1,1):=by kernel_rfl
abbrev Jf(B b:Nat)(p:Value)(l:List UInt8)(w:World):Prop:=Lib.BuilderAt 211 5 B b p (Lib.byteCells l) w
abbrev pd(B b:Nat)(l:List UInt8)(w:World):Prop:=Lib.IsBuilder 211 5 B b (Lib.byteCells l) w
def Kept(b:Nat)(w w':World):Prop:=∀k,k≠b→k<w.heap.size→(∀cs,w.heap[k]?≠some (.cells cs 5 (0,0)))→w'.heap[k]?=w.heap[k]?
theorem Kept.refl(b:Nat)(w:World):Kept b w w:=fun _ _ _ _=>rfl
theorem Kept.trans{b:Nat}{w w1 w2:World}(h:Kept b w w1)(hz:w.heap.size≤w1.heap.size)(h2:Kept b w1 w2):Kept b w w2:=fun k h1 hk hr=>by have e:=h k h1 hk hr;rw[h2 k h1 (by omega) (fun cs=>by rw[e];exact hr cs),e]
theorem Kept.write{b:Nat}{w w1 wx w2:World}{B n:Nat}{v v':Value}{l:List Value}(h:∀k,k≠b→w1.heap[k]?=w.heap[k]?)(hz:w.heap.size≤w1.heap.size)(hx:∀k,k<w1.heap.size→wx.heap[k]?=w1.heap[k]?)(hzx:w1.heap.size≤wx.heap.size)(az:w1.ownsRow B 5 1 v n l)(hg:wx.grownBy w2 v.ownBlock):Kept b w (w2.setCell ⟨b,1,none⟩ v'):=fun k h1 hk hr=>by
 rw[Below.heap_setCell _ _ _ _ h1,hg.block k (by omega) (fun e=>?_),hx k (by omega),h k h1];rcases az.2 with⟨rfl,_⟩|⟨g,cap,cur,rfl,_,qe,_⟩
 ·simp[Value.ownBlock]at e
 ·simp only[Value.ownBlock,Option.some.injEq]at e;subst e;rw[h k h1]at qe;exact hr _ qe
theorem ac3(b:Nat)(w:World)(h0:w.cell? ⟨b,0,none⟩=some (.pointer (some ⟨b,0,none⟩))):Calls Tryz.prog 135 #[.pointer (some ⟨b,0,none⟩)] w fun e w'=>e=.returned (.tuple #[])∧w'=w:=by obtain⟨j,hj,_⟩:=Option.map_eq_some_iff.1 QI;go_enter Tryz.func135,Tryz.ntmps135;go_wp2;rw[Lib.run_neq_ptr_same w _ Tryz.underlying209 hj];go_wp2;go_end0;exact⟨rfl,rfl⟩
theorem ac4(b:Nat)(w:World)(h0:w.cell? ⟨b,0,none⟩=some (.pointer none))(iB:w.shape? b=some (211,2))(hfz:w.frozen? ⟨b,0,none⟩=false):Calls Tryz.prog 135 #[.pointer (some ⟨b,0,none⟩)] w fun e w'=>e=.returned (.tuple #[])∧w'=w.setCell ⟨b,0,none⟩ (.pointer (some ⟨b,0,none⟩)):=by
 obtain⟨j,hj,lX⟩:=Option.map_eq_some_iff.1 QI;go_enter Tryz.func135,Tryz.ntmps135;go_wp2;rw[Lib.run_to_unsafe w ⟨b,0,none⟩ Tryz.underlying209 Tryz.underlying148 hj (by rw[lX];decide) iB (Nat.zero_lt_succ 1)];simp only[Result.andThen];rw[Oper.upon_value];go_wp2;rw[run_callFunc_extern Tryz.func165 (by kernel_rfl) (by kernel_rfl) (by kernel_rfl) (e:=Extern.AbiNoEscape.same) (by kernel_rfl)];rw[Lib.run_noEscape];simp only[Result.andThen];rw[Oper.upon_value];go_wp2
 rw[Lib.run_from_unsafe w ⟨b,0,none⟩ Tryz.underlying148 Tryz.underlying209 hj iB ac1];simp only[Result.andThen];rw[Oper.upon_value];go_wp2;go_end0;exact⟨rfl,rfl⟩
theorem QK(B b:Nat)(l:List UInt8)(w:World)(h:pd B b l w):Calls Tryz.prog 135 #[.pointer (some ⟨b,0,none⟩)] w fun e w'=>e=.returned (.tuple #[])∧(Jf B b (.pointer (some ⟨b,0,none⟩)) l w'∧Below B w w'∧w.heap.size≤w'.heap.size∧∀k,k≠b→w'.heap[k]?=w.heap[k]?):=by
 rcases h with h|h
 ·refine(ac4 b w h.cell0 h.shape h.frozen0).mono ?_;rintro e w'⟨rfl,rfl⟩;exact⟨rfl,h.used _,(Below.refl B w).setCell (p:=⟨b,0,none⟩) h.1 _,by simp,fun k hk=>Below.heap_setCell _ _ _ _ hk⟩
 ·refine(ac3 b w h.cell0).mono ?_;rintro e w'⟨rfl,rfl⟩;exact⟨rfl,h,Below.refl B _,Nat.le_refl _,fun _ _=>rfl⟩
theorem An(B b:Nat)(l:List UInt8)(c:UInt8)(w:World)(h:pd B b l w)(hlen:l.length≤10000000)(eZ:B≤w.heap.size):Calls Tryz.prog 137 #[.pointer (some ⟨b,0,none⟩),.int .u8 c.toNat] w fun e w'=>e=.returned .nilIface∧(pd B b (l++[c]) w'∧Below B w w'∧Kept b w w'):=by
 obtain⟨i0,hi,bT,bW,bA⟩:=info_parts QJ;have HC:=Lib.hid (QK B b l w h);clear h;have xB:(Lib.byteCells l).length=l.length:=Lib.byteCells_length l;go_enter Tryz.func137,Tryz.ntmps137;go_wp2_with fail;refine HC.out.mono ?_;rintro e w1⟨rfl,h1,ar,bW,jD⟩;obtain⟨hB,v,fR,az,hne⟩:=h1;rw[xB]at az;have HK:=Lib.hid jD;have Jg:=Lib.hid bW;clear jD bW;have c0:w1.cell? ⟨b,0,none⟩=some (.pointer (some ⟨b,0,none⟩)):=by rw[Lib.cell_of_heap fR];rfl
 have c1:w1.cell? ⟨b,1,none⟩=some v:=by rw[Lib.cell_of_heap fR];rfl
 go_wp2_with(at_builtin;refine wpList_append_own _ rfl _ _ 22 rfl B 5 i0 (.int .u8 0) 1 1 Tryz.underlying22 hi bT bW bA rfl (by decide) _ _ _ rfl (az.alloc _) ⟨w1.heap.size,0,none⟩ 1 1 [.int .u8 c.toNat] rfl rfl ?c1 ?c2 ?c3 ?c4 ?c5 ?_);case c1=>intro j u hj;match j,hj with|0,hj=>simp at hj;subst hj;simp[Addr.add]
 case c2=>intro u hu;simp at hu;subst hu;rfl
 case c3=>unfold maxLen;omega
 case c4=>omega
 case c5=>have:=ar.size;simp;omega
 intro v' w2 Ao cZ _
 have hlt:b<w1.heap.size:=by
  rcases Nat.lt_or_ge b w1.heap.size with h'|h'
  ·exact h'
  ·simp[Array.getElem?_eq_none h']at fR
 have ah:w2.heap[b]?=some (.cells #[.pointer (some ⟨b,0,none⟩),v] 211 (0,0)):=by rw[cZ.block b (by simp;omega) (fun e=>hne e.symm),Lib.alloc_old w1 _ b hlt];exact fR
 have d0:w2.cell? ⟨b,0,none⟩=some (.pointer (some ⟨b,0,none⟩)):=by rw[Lib.cell_of_heap ah];rfl
 have d1:w2.cell? ⟨b,1,none⟩=some v:=by rw[Lib.cell_of_heap ah];rfl
 have f1:w2.frozen? ⟨b,1,none⟩=false:=Lib.frozen_of_heap ah 1
 obtain⟨g,cap,rfl⟩:∃g cap,v'=.slice (some ⟨g,0,none⟩) (l.length+1) cap:=by
  rcases Ao.2 with⟨_,h0⟩|⟨g,cap,cur,hv,_⟩
  ·omega
  ·exact⟨g,cap,hv⟩
 have eO:Lib.byteCells (l++[c])=Lib.byteCells l++[.int .u8 c.toNat]:=by simp[Lib.byteCells]
 have Jh:(Lib.byteCells (l++[c])).length=l.length+1:=by rw[Lib.byteCells_length];simp
 go_wp2;go_ret;refine⟨rfl,.inr ?_,?_,?_⟩
 ·exact Lib.BuilderAt.put hB ah (bs':=Lib.byteCells (l++[c])) (by rw[Jh,eO];exact Ao) (by decide)
 ·exact((ar.alloc (by have:=ar.size;omega) _).grown cZ (by have:=ar.size;simp;omega) (fun k hk=>(az.lt k hk).1)).setCell (p:=⟨b,1,none⟩) hB _
 ·exact Kept.write HK.out Jg.out (fun k hk=>Below.heap_alloc w1 _ k hk) (by simp) az cZ
theorem ac6(s:ByteArray):Lib.strCells s=Lib.byteCells s.data.toList:=by simp[Lib.strCells,Lib.byteCells]
theorem ac7(B b:Nat)(l:List UInt8)(s:ByteArray)(w:World)(h:pd B b l w)(hlen:l.length+s.size≤10000000)(eZ:B≤w.heap.size):Calls Tryz.prog 109 #[.pointer (some ⟨b,0,none⟩),.string s] w fun e w'=>e=.returned (.tuple #[.int .i64 s.size,.nilIface])∧(pd B b (l++s.data.toList) w'∧Below B w w'∧Kept b w w'):=by
 obtain⟨i0,hi,bT,bW,bA⟩:=info_parts QJ;have HC:=Lib.hid (QK B b l w h);clear h;have xB:(Lib.byteCells l).length=l.length:=Lib.byteCells_length l;go_enter Tryz.func109,Tryz.ntmps109;go_wp2_with fail;refine HC.out.mono ?_;rintro e w1⟨rfl,h1,ar,bW,jD⟩;obtain⟨hB,v,fR,az,hne⟩:=h1;rw[xB]at az;have HK:=Lib.hid jD;have Jg:=Lib.hid bW;clear jD bW;have c0:w1.cell? ⟨b,0,none⟩=some (.pointer (some ⟨b,0,none⟩)):=by rw[Lib.cell_of_heap fR];rfl
 have c1:w1.cell? ⟨b,1,none⟩=some v:=by rw[Lib.cell_of_heap fR];rfl
 go_wp2_with(at_builtin;refine Lib.wpList_append_own_string _ rfl _ _ 22 9 rfl B 5 i0 Tryz.underlying22 Tryz.underlying9 hi bT bW bA _ _ _ rfl az s rfl ?c3 ?c4 ?c5 ?_);case c3=>unfold maxLen;omega
 case c4=>omega
 case c5=>have:=ar.size;omega
 intro v' w2 Ao cZ _
 have hlt:b<w1.heap.size:=by
  rcases Nat.lt_or_ge b w1.heap.size with h'|h'
  ·exact h'
  ·simp[Array.getElem?_eq_none h']at fR
 have ah:w2.heap[b]?=some (.cells #[.pointer (some ⟨b,0,none⟩),v] 211 (0,0)):=by rw[cZ.block b hlt (fun e=>hne e.symm)];exact fR
 have d0:w2.cell? ⟨b,0,none⟩=some (.pointer (some ⟨b,0,none⟩)):=by rw[Lib.cell_of_heap ah];rfl
 have d1:w2.cell? ⟨b,1,none⟩=some v:=by rw[Lib.cell_of_heap ah];rfl
 have f1:w2.frozen? ⟨b,1,none⟩=false:=Lib.frozen_of_heap ah 1
 obtain⟨ao,n',cap,rfl⟩:∃ao n' cap,v'=.slice ao n' cap:=by
  rcases Ao.2 with⟨hv,_⟩|⟨g,cap,cur,hv,_⟩
  ·exact⟨_,_,_,hv⟩
  ·exact⟨_,_,_,hv⟩
 have eO:Lib.byteCells (l++s.data.toList)=Lib.byteCells l++Lib.strCells s:=by rw[ac6];simp[Lib.byteCells]
 have Jh:(Lib.byteCells (l++s.data.toList)).length=l.length+s.size:=by rw[Lib.byteCells_length,List.length_append];rfl
 go_wp2;go_ret2;refine⟨rfl,.inr ?_,?_,?_⟩
 ·exact Lib.BuilderAt.put hB ah (bs':=Lib.byteCells (l++s.data.toList)) (by rw[Jh,eO];exact Ao) (by decide)
 ·exact(ar.grown cZ (by have:=ar.size;omega) (fun k hk=>(az.lt k hk).1)).setCell (p:=⟨b,1,none⟩) hB _
 ·exact Kept.write HK.out Jg.out (fun k hk=>rfl) (Nat.le_refl _) az cZ
theorem ac_(S:ByteArray)(i j:Nat)(h:i≤j)(hj:j≤S.size)(x:ByteArray)(hx:S.extract i j=x)(W:World):(Instr.slice 9 (.string S) (some (.int .i64 (i:Int))) (some (.int .i64 (j:Int))) none).run Tryz.prog W=.ok (.string x) W:=by(have e2:(0:Int)≤(j:Int):=by omega);(have e3:(j:Int)≤(S.size:Int):=by omega);(have e4:(i:Int)≤(j:Int):=by omega);(have e5:(0:Int)≤(i:Int):=by omega);simp[Instr.slice,run_underlying Tryz.underlying9,Instr.sliceBounds,run_sliceBound,h,hj,hx]
theorem ada(S:ByteArray)(i:Nat)(h:i≤S.size)(x:ByteArray)(hx:S.extract i S.size=x)(W:World):(Instr.slice 9 (.string S) (some (.int .i64 (i:Int))) none none).run Tryz.prog W=.ok (.string x) W:=by simp[Instr.slice,run_underlying Tryz.underlying9,Instr.sliceBounds,run_sliceBound,h,hx]
def Eb(s:ByteArray)(j i:Nat):Nat:=if i<j then fI (af s i)else af s i
structure vB(s:ByteArray)(w:World)(X j:Nat)(wr:World):Prop where
 below:Below w.heap.size w wr
 cell:∀i,i<s.size→wr.cell? ⟨X,i,none⟩=some (.int .u8 (Eb s j i:Nat))
 fz:∀i,i<s.size→wr.frozen? ⟨X,i,none⟩=false
 lt:X<wr.heap.size
 ge:w.heap.size≤X
theorem vB.keep{s:ByteArray}{w wr:World}{X j:Nat}(h:vB s w X j wr)(hj:¬(65≤af s j∧af s j≤90)):vB s w X (j+1) wr:=by
 refine⟨h.below,fun i hi=>?_,h.fz,h.lt,h.ge⟩;rw[h.cell i hi];unfold Eb;by_cases h1:i<j
 ·rw[if_pos h1,if_pos (by omega)]
 ·by_cases h2:i=j
  ·subst h2;rw[if_neg h1,if_pos (by omega)];unfold fI;rw[if_neg hj]
  ·rw[if_neg h1,if_neg (by omega)]
theorem vB.put{s:ByteArray}{w wr:World}{X j:Nat}(h:vB s w X j wr)(hj:j<s.size):vB s w X (j+1) (wr.setCell ⟨X,j,none⟩ (.int .u8 (fI (af s j):Nat))):=by
 refine⟨h.below.setCell h.ge _,fun i hi=>?_,fun i hi=>?_,by simp[World.setCell];exact h.lt,h.ge⟩
 ·by_cases h2:i=j
  ·subst h2;rw[World.cell?_setCell_same _ _ _ (h.cell i hi)];unfold Eb;rw[if_pos (by omega)]
  ·have hne:(⟨X,j,none⟩:Addr)≠⟨X,i,none⟩:=fun e=>h2 (by injection e with _ h _;exact h.symm);rw[World.cell?_setCell_other _ _ _ _ hne,h.cell i hi];unfold Eb;by_cases h1:i<j
   ·rw[if_pos h1,if_pos (by omega)]
   ·rw[if_neg h1,if_neg (by omega)]
 ·rw[World.frozen?_setCell];exact h.fz i hi
def og(aa:List Nat):Nat→Nat→Nat
 |0,_=>0
 |f+1,k=>if k=0 then 1 else match aa[k]? with
   |some u=>og aa f u+1
   |none=>0
def mG(aa:List Nat)(k:Nat):Nat:=og aa (k+1) k
theorem Sv{aa:List Nat}(hw:dL aa)(x:Nat):∀f k,k<aa.length→og (aa++[x]) f k=og aa f k
 |0,_,_=>rfl
 |f+1,k,hk=>by
  rw[og,og];split
  ·rfl
  ·rename_i h0;rw[List.getElem?_append_left hk]
   cases hu:aa[k]? with
   |none=>rfl
   |some u=>have:=hw k u (by omega) hu;simp only;rw[Sv hw x f u (by omega)]
theorem Kd{aa:List Nat}(hw:dL aa)(x:Nat){k:Nat}(hk:k<aa.length):mG (aa++[x]) k=mG aa k:=Sv hw x _ k hk
def tS(js:List JN)(aa:List Nat)(n:Nat):Nat:=(List.range n).foldl (fun a i=>match js[i]? with
  |some x=>if x.kind<5 then a else max a (mG aa i)
  |none=>a) 0
def ej(js:List JN)(aa:List Nat):Nat:=tS js aa js.length
def oh(aa:List Nat):List Op→Prop
 |[]=>True
 |o::r=>(r≠[]→mG aa o.id.toNat=r.length)∧oh aa r
theorem oh.top{aa:List Nat}{o o':Op}{r:List Op}(h:oh aa (o::r))(hi:o'.id=o.id):oh aa (o'::r):=⟨fun e=>by rw[hi];exact h.1 e,h.2⟩
theorem oh.after{aa:List Nat}{r:List Op}(h:oh aa r):oh aa (jc r):=by
 cases r with
 |nil=>exact h
 |cons o r=>exact h.top rfl
theorem oh.more{aa:List Nat}(hw:dL aa)(x:Nat):∀{l:List Op},j3 aa.length l→oh aa l→oh (aa++[x]) l
 |[q],_,h=>⟨fun e=>absurd rfl e,trivial⟩
 |o::p::r,hg,h=>⟨fun e=>by rw[Kd hw x (by have:=hg.1;have:=hg.2.1;omega)];exact h.1 e,h.2.more hw x hg.2.2⟩
structure BI(s:PS):Prop where
 pi:PI s
 len:s.aa.length=s.js.length
 wf:dL s.aa
 ch:oh s.aa s.stack
def tU(m:Bd)(d:Nat):Prop:=d=0∨(d:Int)≤m.deep
structure Bf(B:ByteArray)(s s':PS)(t:Tok):Prop where
 bi:BI s'
 deep:ej s.js s.aa≤ej s'.js s'.aa
 len:s.js.length≤s'.js.length
 ok:∀m':Bd,tU m' (ej s'.js s'.aa)→(s'.js.length:Int)≤m'.nodes→ca B m' s t=.ok s'
 many:∀m':Bd,(s.js.length:Int)≤m'.nodes→m'.nodes<s'.js.length→∃p,ca B m' s t=.no 15 p
 over:∀m':Bd,(s'.js.length:Int)≤m'.nodes→(ej s.js s.aa:Int)≤m'.deep→m'.deep<ej s'.js s'.aa→∃p,ca B m' s t=.no 13 p
theorem Bf.same{B:ByteArray}{s s':PS}{t:Tok}(hb:BI s)(hp:PI s')(hj:s'.js=s.js)(hu:s'.aa=s.aa)(hc:oh s.aa s'.stack)(h:∀m':Bd,ca B m' s t=.ok s'):Bf B s s' t:=⟨⟨hp,by rw[hj,hu];exact hb.len,by rw[hu];exact hb.wf,by rw[hu];exact hc⟩,by rw[hj,hu];exact Nat.le_refl _,by rw[hj];exact Nat.le_refl _,fun m' _ _=>h m',fun m' h1 h2=>by rw[hj]at h2;omega,fun m' _ h1 h2=>by rw[hj,hu]at h2;omega⟩
theorem tU.mono{m:Bd}{d e:Nat}(h:tU m e)(hd:d≤e):tU m d:=by unfold tU at*;omega
def ju(d:Nat):ByteArray:=⟨#[UInt8.ofNat (c_ d)]⟩
def vZ(n:Nat):ByteArray:=⟨#[UInt8.ofNat (c_ (n/16)),UInt8.ofNat (c_ (n%16))]⟩
def Uk(n:Nat)(w:World)(nv ov:Value)(wr:World):Prop:=(∃q,wr=w.drewN q)∧((nv=.int .u64 (n:Nat)∧ov=.string ⟨#[]⟩)∨(16≤n∧nv=.int .u64 ((n/16:Nat):Int)∧ov=.string (ju (n%16))))
def Fe(n:Nat)(w:World)(ov:Value)(wr:World):Prop:=(∃q,wr=w.drewN q)∧(ov=.string (vZ n)∨n<16∧ov=.string (ju n))
theorem afT:∀d:Fin 16,(⟨#[48,49,50,51,52,53,54,55,56,57,65,66,67,68,69,70]⟩:ByteArray).extract d.val (d.val+1)=ju d.val:=by decide
theorem afU(w:World)(a b:Nat):(w.drewN a).drewN b=w.drewN (a+b):=by simp[World.drewN,Nat.add_assoc]
theorem Ff(k:IntKind)(S:ByteArray)(d:Nat)(h:d+1≤S.size)(x:ByteArray)(hx:S.extract d (d+1)=x)(W:World):(Instr.slice 9 (.string S) (some (.int k (d:Int))) (some (.int k ((d:Int)+1))) none).run Tryz.prog W=.ok (.string x) W:=by(have e1:((d:Int)+1).toNat=d+1:=by omega);(have e2:(0:Int)≤(d:Int)+1:=by omega);(have e3:(d:Int)+1≤(S.size:Int):=by omega);(have e4:(d:Int)≤(d:Int)+1:=by omega);simp[Instr.slice,run_underlying Tryz.underlying9,Instr.sliceBounds,run_sliceBound,e1,e2,e3,e4,hx]
def Fg:Value→Nat
 |.string s=>s.size
 |_=>0
theorem KH(n:Nat):ju (n/16)++ju (n%16)=vZ n:=by(have:∀a b:UInt8,(⟨#[a]⟩:ByteArray)++⟨#[b]⟩=⟨#[a,b]⟩:=fun a b=>by apply toList_inj;rfl);exact this _ _
theorem afV(n:Nat)(w:World)(hn:n<256):Calls Tryz.prog 150 #[.int .u64 n,.int .u64 16,.int .i64 2] w fun e w'=>e=.returned (.string (vZ n))∧Below w.heap.size w w':=by
 have FS:=Lib.hid afT;go_enter Tryz.func150,Tryz.ntmps150;go_wp2_with fail;obtain⟨S,hS⟩:∃S:ByteArray,(⟨#[48,49,50,51,52,53,54,55,56,57,65,66,67,68,69,70]⟩:ByteArray)=S:=⟨_,rfl⟩;rw[hS]at FS⊢;have Aj:S.size=16:=by rw[←hS];rfl
 clear hS;go_loopw[0,8](Uk n w)(fun a _ _=>(intOf a).toNat);case atStart=>exact⟨⟨0,rfl⟩,.inl ⟨rfl,rfl⟩⟩
 case round=>
  obtain⟨⟨q,rfl⟩,hrel⟩:=hrel;obtain⟨d,hd⟩:∃d,n%16=d:=⟨_,rfl⟩;obtain⟨p,hp⟩:∃p,n/16=p:=⟨_,rfl⟩;have afW:d<16:=by omega
  have afX:p<16:=by omega
  have F1:S.extract d (d+1)=ju d:=FS.out ⟨d,afW⟩;have F2:S.extract p (p+1)=ju p:=FS.out ⟨p,afX⟩;have HE:=Lib.hid (show ju p++ju d=vZ n by rw[←hp,←hd];exact KH n);have HP:=Lib.hid hp;have HD:=Lib.hid hd;have z1:(ju d).size=1:=rfl;have z2:(ju p).size=1:=rfl;rcases hrel with⟨rfl,rfl⟩|⟨h16,rfl,rfl⟩
  ·have tm:(n:Int).tmod 16=(d:Int):=by rw[Int.tmod_eq_emod_of_nonneg (by omega)];omega
   have td:(n:Int).tdiv 16=(p:Int):=by rw[Int.tdiv_eq_ediv_of_nonneg (by omega)];omega
   have ae:ju d++(⟨#[]⟩:ByteArray)=ju d:=ByteArray.append_empty;have wr1:IntKind.u64.wrap ((d:Int)+1)=(d:Int)+1:=IntWalk.u64_in _ (by omega);have sl:=Ff .u64 S d (by omega) _ F1;by_cases h0:p=0
   ·have t0:((p:Int)==0)=true:=beq_iff_eq.2 (by omega);have uc:n<16:=by omega
    have HDN:=Lib.hid (show d=n by omega);clear hp hd F1 F2 h0;go_wp2;go_quiet(fail);go_wp2_with fail;go_loopw[8](Fe n w)(fun v _=>2-Fg v);case atStart=>refine⟨⟨_,rfl⟩,.inr ⟨uc,?_⟩⟩;rw[HDN.out]
    case round=>
     obtain⟨⟨q2,rfl⟩,hrel⟩:=hrel;clear sl;rcases hrel with rfl|⟨uc,rfl⟩
     ·go_wp2;go_ret;exact⟨rfl,eW _ (Below.refl _ _)⟩
     ·have zn:(ju n).size=1:=rfl;have R:Fe n w (.string (⟨#[48]⟩++ju n)) (w.drewN q2):=⟨⟨q2,rfl⟩,.inl (by(have h1:n/16=0:=by omega);(have h2:n%16=n:=by omega);rw[←KH,h1,h2];rfl)⟩;have HR:=Lib.hid R;clear R uc;go_wp2;refine⟨?_,by simp[Fg,ByteArray.size_append,zn,show(⟨#[48]⟩:ByteArray).size=1 from rfl]⟩;have R:=HR.out;first|exact R|((repeat apply Exists.intro);exact⟨R,rfl⟩)
   ·have t0:((p:Int)==0)=false:=beq_eq_false_iff_ne.2 (by omega);have uc:16≤n:=by omega
    have R:∀k,Uk n w (.int .u64 (p:Int)) (.string (ju d)) ((w.drewN q).drewN k):=fun k=>⟨⟨q+k,afU _ _ _⟩,.inr ⟨uc,by rw[hp],by rw[hd]⟩⟩;have HR:=Lib.hid R;have hlt:p<n:=by omega
    have HLT:=Lib.hid hlt;clear hp hd F1 F2 R uc hlt;go_wp2;go_quiet(fail);go_wp2;refine⟨?_,by have:=HLT.out;simp[intOf];omega⟩;have R:=HR.out;first|exact R _|simpa using R _
  ·have tm:(p:Int).tmod 16=(p:Int):=by rw[Int.tmod_eq_emod_of_nonneg (by omega)];omega
   have td:(p:Int).tdiv 16=0:=by rw[Int.tdiv_eq_ediv_of_nonneg (by omega)];omega
   have wr1:IntKind.u64.wrap ((p:Int)+1)=(p:Int)+1:=IntWalk.u64_in _ (by omega);have sl:=Ff .u64 S p (by omega) _ F2;rw[hp,hd];have he:=HE.out;clear hp hd F1 F2;go_wp2;go_quiet(fail);go_wp2_with fail;go_loopw[8](Fe n w)(fun v _=>2-Fg v);case atStart=>exact⟨⟨_,rfl⟩,.inl (by first|exact congrArg _ HE.out|rfl)⟩
   case round=>
    obtain⟨⟨q2,rfl⟩,hrel⟩:=hrel;clear sl;rcases hrel with rfl|⟨uc,rfl⟩
    ·go_wp2;go_ret;exact⟨rfl,eW _ (Below.refl _ _)⟩
    ·have zn:(ju n).size=1:=rfl;have R:Fe n w (.string (⟨#[48]⟩++ju n)) (w.drewN q2):=⟨⟨q2,rfl⟩,.inl (by(have h1:n/16=0:=by omega);(have h2:n%16=n:=by omega);rw[←KH,h1,h2];rfl)⟩;have HR:=Lib.hid R;clear R uc;go_wp2;refine⟨?_,by simp[Fg,ByteArray.size_append,zn,show(⟨#[48]⟩:ByteArray).size=1 from rfl]⟩;have R:=HR.out;first|exact R|((repeat apply Exists.intro);exact⟨R,rfl⟩)
end Go.Proofs.YtcaiibkgajhohaaGreatDoor
