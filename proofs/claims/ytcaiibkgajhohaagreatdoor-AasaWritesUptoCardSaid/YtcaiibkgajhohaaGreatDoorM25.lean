/- waybill: lemmas and walks, printed from longer texts. -/
import Derived.Test.YtcaiibkgajhohaaGreatDoorM24
import Derived.Lib.LaidU8T
import Derived.PinnedBridge
import Derived.RangeFuncNested
import Derived.RangeFuncBound
import Derived.RangeFuncCalls
import Derived.RangeFuncLeaves
import Derived.Shelf.Abstract
import Derived.Shelf.RegionOpen
import Derived.OwnWalkIn
import Derived.TacticsInMore
import Derived.LoopNIn
import Derived.LoopIn
set_option maxRecDepth 100000
set_option maxHeartbeats 4000000
namespace Go.Proofs.YtcaiibkgajhohaaGreatDoor
open Go.ChangeShapes Go.WideShapes Go.RowKit Go.Lib
def M9:Go.Shelf.Ren:=⟨fun n=>n,fun|5=>5|119=>288|138=>290|139=>291|n=>n,fun|3=>4|4=>5|n=>n⟩
theorem M_:U8Types Tryz.prog M9:=⟨Tryz.underlying5,Tryz.underlying288,Tryz.underlying290,Tryz.underlying291⟩
theorem Na:U8Extra Tryz.prog M9:=⟨by kernel_rfl,by kernel_rfl,by kernel_rfl,by kernel_rfl,by kernel_rfl,by kernel_rfl,by kernel_rfl⟩
theorem Nb:(Rows.laid_unicode_utf8_acceptRanges:DataW Unit)=acceptData:=by kernel_rfl
theorem Nc:Rows.laid_unicode_utf8_first=firstData:=Pinned.utf8First_eq
theorem Yz{l:List Value}(h:l.length=2):∃a b,l=[a,b]:=by match l,h with|[a,b],_=>exact⟨a,b,rfl⟩
theorem YA{fuel:Nat}{fs:Array Field}{tt:TypeId}{W:World}{cs:List Value}{d0 d1:DataW Unit}{p:List MemPlace}(ht:Tryz.prog.underlying tt=some (.struct fs))(h:DataW.trod (fun _=>()) Tryz.prog W 0 (fun _=>true) false fuel tt cs=some (.agg [d0,d1],p)):∃(n:Nat)(x0 x1:DataW Unit×List MemPlace),x0.1=d0∧x1.1=d1∧cs.length=Tryz.prog.cellsOf tt∧(∀f,fs[0]?=some f→DataW.trod (fun _=>()) Tryz.prog W 0 (fun _=>true) false n f.type ((cs.drop f.offset).take (Tryz.prog.cellsOf f.type))=some x0)∧(∀f,fs[1]?=some f→DataW.trod (fun _=>()) Tryz.prog W 0 (fun _=>true) false n f.type ((cs.drop f.offset).take (Tryz.prog.cellsOf f.type))=some x1):=by obtain⟨xs,m,_,hx,hl,oH,hf⟩:=DataW.trod_struct ht h;(have fS:xs.map (·.1)=[d0,d1]:=by have:=congrArg Prod.fst hx;simpa using this.symm);(obtain⟨x0,x1,rfl⟩:∃x0 x1,xs=[x0,x1]:=by match xs,fS with|[x0,x1],_=>exact⟨x0,x1,rfl⟩);simp only[List.map_cons,List.map_nil,List.cons.injEq,and_true]at fS;exact⟨m,x0,x1,fS.1,fS.2,hl,fun f kY=>hf 0 f kY,fun f pW=>hf 1 f pW⟩
theorem YB{W:World}{fuel:Nat}{cs:List Value}{s:List UInt8}{n:Int}{p:List MemPlace}(h:DataW.trod (fun _=>()) Tryz.prog W 0 (fun _=>true) false fuel 220 cs=some (.agg [.lit (.string s),.lit (.int .i64 n)],p)):cs=[.string ⟨s.toArray⟩,.int .i64 n]:=by
 obtain⟨m,x0,x1,e0,e1,hl,kY,pW⟩:=YA Tryz.underlying220 h;have f0:=kY _ rfl;have f1:=pW _ rfl;have c0:Tryz.prog.cellsOf 9=1:=by kernel_rfl
 have c1:Tryz.prog.cellsOf 3=1:=by kernel_rfl
 have ct:Tryz.prog.cellsOf 220=2:=by kernel_rfl
 change DataW.trod _ _ _ _ _ _ _ 9 ((cs.drop 0).take (Tryz.prog.cellsOf 9))=some x0 at f0;change DataW.trod _ _ _ _ _ _ _ 3 ((cs.drop 1).take (Tryz.prog.cellsOf 3))=some x1 at f1;rw[c0]at f0;rw[c1]at f1;rw[ct]at hl;obtain⟨s',k0,hd,_⟩:=DataW.trod_string Tryz.underlying9 f0;obtain⟨n',k1,Gt,_⟩:=DataW.trod_int Tryz.underlying3 f1;rw[hd]at e0;rw[Gt]at e1;simp only[DataW.lit.injEq,Lit.string.injEq,Lit.int.injEq,true_and]at e0 e1;subst e0;subst e1;obtain⟨y0,y1,rfl⟩:=Yz hl
 have g0:[y0]=[Value.string s']:=k0;have g1:[y1]=[Value.int .i64 n']:=k1;rw[(List.cons.inj g0).1,(List.cons.inj g1).1]
theorem Nd{W:World}(h:VarReads Tryz.prog W "waybill/scan.words" Rows.laid_waybill_scan_words):uM W:=by
 obtain⟨g,t,cs,fuel,p,hg,wQ,y5,hd⟩:=h;obtain rfl:=Option.some.inj ((show Tryz.prog.globalNamed "waybill/scan.words"=some 1 by kernel_rfl).symm.trans hg);obtain rfl:=Option.some.inj ((show(Tryz.prog.globals[1]?).map (·.type)=some 221 by kernel_rfl).symm.trans wQ);have ce:Tryz.prog.cellsOf 220=2:=by kernel_rfl
 have key:∀i,i<3→∀s n,([DataW.agg [.lit (.string [116,114,117,101]),.lit (.int .i64 9)],.agg [.lit (.string [102,97,108,115,101]),.lit (.int .i64 10)],.agg [.lit (.string [110,117,108,108]),.lit (.int .i64 11)]]:List (DataW Unit))[i]?=some (.agg [.lit (.string s),.lit (.int .i64 n)])→W.cell? ⟨1,i*2,none⟩=some (.string ⟨s.toArray⟩)∧W.cell? ⟨1,i*2+1,none⟩=some (.int .i64 n):=by
  intro i hi s n hs;obtain⟨YC,d,q,y7,he⟩:=array_elem Tryz.underlying221 hd i hi;rw[hs]at y7;obtain rfl:=Option.some.inj y7;rw[ce]at he;have hc:=YB he;have e0:=congrArg (·[0]?) hc;have e1:=congrArg (·[1]?) hc;simp only[List.getElem?_take,List.getElem?_drop]at e0 e1;constructor
  ·rw[World.var?_cell hg y5 (i*2),←Array.getElem?_toList];simpa using e0
  ·rw[World.var?_cell hg y5 (i*2+1),←Array.getElem?_toList];simpa using e1
 have k0:=key 0 (by decide) _ _ rfl;have k1:=key 1 (by decide) _ _ rfl;have k2:=key 2 (by decide) _ _ rfl;exact⟨k0.1,k0.2,k1.1,k1.2,k2.1,k2.2⟩
noncomputable def C3(c:Array Value):Obj→Obj
 |.cells _ t frozen=>.cells c t frozen
 |o=>o
noncomputable def Gu(os:Os):World:=let w0:=Mo os;{w0 with heap:=((w0.heap.modify 1 (C3 #[.string ⟨#[116,114,117,101]⟩,.int .i64 9,.string ⟨#[102,97,108,115,101]⟩,.int .i64 10,.string ⟨#[110,117,108,108]⟩,.int .i64 11])).modify 4 (C3 (firstTab.map fun z=>Value.int .u8 z).toArray)).modify 5 (C3 ((List.range 16).flatMap fun i=>[Value.int .u8 (accLo i:Int),Value.int .u8 (accHi i:Int)]).toArray)}
def gQ(Z:Nat→Prop)(W W':World):Prop:=W.heap.size≤W'.heap.size∧∀k,Z k→W'.heap[k]?=W.heap[k]?
theorem gQ.refl(Z:Nat→Prop)(W:World):gQ Z W W:=⟨Nat.le_refl _,fun _ _=>rfl⟩
theorem gQ.trans{Z:Nat→Prop}{a b c:World}(h:gQ Z a b)(k:gQ Z b c):gQ Z a c:=⟨Nat.le_trans h.1 k.1,fun j hj=>(k.2 j hj).trans (h.2 j hj)⟩
theorem gQ.only{Z T:Nat→Prop}{a b:World}(h:ag T a b)(hZ:∀k,Z k→k<a.heap.size∧¬T k):gQ Z a b:=⟨h.size,fun k hk=>h.block k (hZ k hk).1 (hZ k hk).2⟩
def xo(Z:Nat→Prop)(W W':World):Nat→Prop:=fun k=>Z k∨(W.heap.size≤k∧k<W'.heap.size)
def abR(Z:Nat→Prop)(de leave:World→Prop)(W:World):Exit→Act→World→Prop
 |.normal,_,W'=>gQ Z W W'∧de W'
 |.ret,_,W'=>gQ Z W W'∧leave W'
 |_,_,_=>False
def abS(Z:Nat→Prop)(de leave:World→Prop)(W:World)(e:Ending)(W':World):Prop:=(e=.returned (.bool true)∧gQ Z W W'∧de W')∨(e=.returned (.bool false)∧leave W')
structure zZ(W0 Wv:World)(vv:Value)(D:Nat){β:Type}(J:(Nat→Prop)→β→ai→World→Prop):Prop where
 re:∀{Z b st W},J Z b st W→aC W0 Wv vv W D st
 keep:∀{Z b st ff W W'},J Z b st W→bG W0 Wv vv W D ff W'→J (xo Z W W') b ff W'
 vp:∀{Z b st W},J Z b st W→∀k,Z k→k<W.heap.size∧k≠W0.heap.size
def IU{β:Type}(Z:Nat→Prop)(J Jx:(Nat→Prop)→β→ai→World→Prop)(R:Bool×β×ai)(e:Ending)(W':World):Prop:=(∃v,e=.returned v)∧∃Z',(∀k,Z k→Z' k)∧((R.1=true∧J Z' R.2.1 R.2.2 W')∨(R.1=false∧∃Z0,Jx Z0 R.2.1 R.2.2 W'))
def PQ(W0 Wv:World)(vv:Value)(D:Nat)(n gf:Nat)(lb:Array Value)(own:Nat→Prop){β:Type}(cnt:β→Nat)(step:β→ai→Nat→ByteArray→Bool×β×ai)(b0:β)(lD:ai)(R:Bool×β×ai)(w:World):Prop:=∀(l:Nat)(J Jx:(Nat→Prop)→β→ai→World→Prop)(Z:Nat→Prop)(W:World),Below w.heap.size w W→zZ W0 Wv vv D J→(∀k,own k→Z k)→(∀Z b st k t W,J Z b st W→st.bad=false→t.size≤1100000→cnt b<cnt b0+100000→YieldAt Fence.wide (n-1) Tryz.prog l #[.int .i64 (k:Nat),.string t] W (abS Z (fun W'=>(step b st k t).1=true∧J Z (step b st k t).2.1 (step b st k t).2.2 W') (fun W'=>(step b st k t).1=false∧Jx Z (step b st k t).2.1 (step b st k t).2.2 W') W))→J Z b0 lD W→CallsIn Fence.wide n Tryz.prog gf (#[.func (.yield l) #[] #[]]++lb) W (IU Z J Jx R)
section
variable{W0 Wv:World}{vv:Value}{D:Nat}
theorem IW{β:Type}{n gf rs:Nat}{lb:Array Value}{own:Nat→Prop}{cnt:β→Nat}{step:β→ai→Nat→ByteArray→Bool×β×ai}{b0:β}{lD:ai}{R:Bool×β×ai}{J Jx:(Nat→Prop)→β→ai→World→Prop}{Z0:Nat→Prop}{g:Operand}{ps:Array Tmp}{assign body:Code}{Q:Exit→Act→World→Prop}{a:Act}{w:World}(hrs:w.heap.size=rs)(hg:a.eval g=.func (.func gf) #[] lb)(eg:∀args w,(callFunc gf args).run Tryz.prog w=.ok (.enter gf args) w)(kA:ps.size=2)(hT:PQ W0 Wv vv D (n-1) gf lb own cnt step b0 lD R w)(hJ:zZ W0 Wv vv D J)(z6:∀Z b st W l o,J Z b st W→Z l→rs≤l→J Z b st (W.putObj l o))(PR:∀Z b st W l o,Jx Z b st W→Z l→rs≤l→Jx Z b st (W.putObj l o))(hZ:∀k,own k→Z0 k)(h0:J Z0 b0 lD w)(abU:∀(l k:Nat)(t:ByteArray)(W:World),assign.wpIn (Fence.wide.inRound l) (n-1-1) Tryz.prog (Exit.then (fun a₁ W'=>W'=W∧∀Z b st W2,J Z b st W2→st.bad=false→t.size≤1100000→cnt b<cnt b0+100000→body.wpIn (Fence.wide.inRound l) (n-1-1) Tryz.prog (abR Z (fun W'=>(step b st k t).1=true∧J Z (step b st k t).2.1 (step b st k t).2.2 W') (fun W'=>(step b st k t).1=false∧Jx Z (step b st k t).2.1 (step b st k t).2.2 W') W2) a₁ W2) (fun _ _ _=>False)) {tmps:=(ps.zip #[.int .i64 (k:Nat),.string t]).foldl (fun t(p,v)=>t.setIfInBounds p v) a.tmps,defers:=[]} W)(hdone:∀(M:Nat)Z(W:World),rs≤M→R.1=true→J Z R.2.1 R.2.2 W→W.heap[M]?=some (.deferred (some []))→Q .normal {a with defers:={target:=.collected M,args:=#[]}::a.defers} W)(abV:∀(M:Nat)Z(W:World),rs≤M→R.1=false→Jx Z R.2.1 R.2.2 W→W.heap[M]?=some (.deferred (some []))→Code.ret.wpIn Fence.wide n Tryz.prog Q {a with defers:={target:=.collected M,args:=#[]}::a.defers} W):(Code.rangeFunc g ps assign body).wpIn Fence.wide n Tryz.prog Q a w:=by
 subst hrs;refine wpIn_rangeFunc ?_;intro fn PU;obtain⟨rec,nP⟩:∃rec:LoopState→Option Code→Loop,rec=fun st pe=>{state:=st,pending:=pe,fn,tmps:=a.tmps,params:=ps,assign,body,defers:=w.heap.size}:=⟨_,rfl⟩;obtain⟨W1,aH⟩:∃W1,(w.alloc (.deferred (some []))).alloc (.loop (rec .ready none))=W1:=⟨_,rfl⟩
 have hL1:W1.heap[w.heap.size+1]?=some (.loop (rec .ready none)):=by rw[←aH];have:=World.alloc_heap_new (w.alloc (.deferred (some []))) (.loop (rec .ready none));rwa[World.size_alloc]at this
 have hK1:W1.heap[w.heap.size]?=some (.deferred (some [])):=by rw[←aH];exact(Below.heap_alloc _ _ _ (by simp)).trans (World.alloc_heap_new w _)
 have ar:Below w.heap.size w W1:=by rw[←aH];exact aj (aj (Below.refl _ w) _) _
 have bW:W1.heap.size=w.heap.size+2:=by rw[←aH];simp
 have hI1:J (xo Z0 w W1) b0 lD W1:=hJ.keep h0 (bG.of (hJ.re h0) ar);refine⟨w.heap.size+1,[{target:=.collected w.heap.size,args:=#[]}],W1,{target:=.fn (.func gf) lb,args:=#[.func (.yield (w.heap.size+1)) #[] #[]]},W1,gf,#[.func (.yield (w.heap.size+1)) #[] #[]]++lb,W1,?_,?_,?_,?_,fun h=>(by cases h),?_⟩
 ·rw[←aH,nP];exact run_enterLoop_outer _ _ _ _ _
 ·simp only[resolve,hg];simp[go_sem]
 ·intro f' hf';exact trivial
 ·simp[invoke,go_sem,eg]
 ·refine(hT (w.heap.size+1) (fun Z b st W=>J Z b st W∧(Z (w.heap.size+1)∧Z w.heap.size)∧W.heap[w.heap.size+1]?=some (.loop (rec .ready none))∧W.heap[w.heap.size]?=some (.deferred (some []))) (fun Z b st W=>Jx Z b st W∧(Z (w.heap.size+1)∧Z w.heap.size)∧W.heap[w.heap.size+1]?=some (.loop (rec .done (some .ret)))∧W.heap[w.heap.size]?=some (.deferred (some []))) (xo Z0 w W1) W1 ar ⟨fun h=>hJ.re h.1,fun{Z b st ff W W'}h hp=>?_,fun h=>hJ.vp h.1⟩ (fun k hk=>.inl (hZ k hk)) ?_ ⟨hI1,⟨.inr ⟨by omega,by omega⟩,.inr ⟨by omega,by omega⟩⟩,hL1,hK1⟩).mono ?_
  ·obtain⟨hj,⟨z1,z2⟩,hl,hk⟩:=h;have n1:=hJ.vp hj _ z1;have n2:=hJ.vp hj _ z2;exact⟨hJ.keep hj hp,⟨.inl z1,.inl z2⟩,(hp.only.block _ n1.1 n1.2).trans hl,(hp.only.block _ n2.1 n2.2).trans hk⟩
  ·rintro Z b st k t W⟨hj,⟨z1,z2⟩,hl,hk⟩hb ht qu;have hlt:w.heap.size+1<W.heap.size:=(Array.getElem?_eq_some_iff.1 hl).1;have hy:=run_yield (P:=Tryz.prog) (args:=#[.int .i64 (k:Nat),.string t]) hl (by rw[nP];exact kA.symm);rw[nP]at hy;refine⟨fn,_,assign,body,hy,roundIn_of_wpIn trivial (wpIn_mono (abU _ k t W) ?_)⟩
   have eG:(W.putObj (w.heap.size+1) (.loop {rec .ready none with state:=.busy})).heap[w.heap.size+1]?=some (.loop {rec .ready none with state:=.busy}):=World.putObj_heap_same hlt;rintro e0 a1 W0' hq;cases e0;case' normal=>skip
   all_goals first|exact hq.elim|skip
   obtain⟨hw0,ab0⟩:=hq;rw[hw0];refine⟨_,run_beginRound hl (by rw[nP]),wpIn_mono (ab0 Z b st _ (z6 _ _ _ _ _ _ hj z1 (by omega)) hb ht qu) ?_⟩;rintro e a3 W3 hp
   cases e with
   |normal=>
    obtain⟨xp,iT,xq⟩:=hp;have fN:=(xp.2 _ z1).trans eG;have hr:=run_endRound (P:=Tryz.prog) none fN;have e2:(W3.putObj (w.heap.size+1) (.loop (rec .ready none))).heap[w.heap.size+1]?=some (.loop (rec .ready none)):=World.putObj_heap_same (Array.getElem?_eq_some_iff.1 fN).1
    have ho:∀j,j≠w.heap.size+1→Z j→(W3.putObj (w.heap.size+1) (.loop (rec .ready none))).heap[j]?=W.heap[j]?:=fun j hj hz=>(World.putObj_heap_other hj).trans ((xp.2 j hz).trans (World.putObj_heap_other hj));refine⟨_,_,hr,.inl ⟨rfl,⟨?_,fun j hz=>?_⟩,iT,?_⟩⟩
    ·have:=xp.1;simpa using this
    ·by_cases e:j=w.heap.size+1
     ·subst e;rw[nP]at e2 hl⊢;exact e2.trans hl.symm
     ·have:=ho j e hz;rw[nP]at this⊢;exact this
    ·have h1:=z6 _ _ _ _ (w.heap.size+1) (.loop (rec .ready none)) xq z1 (by omega);have h2:=(ho w.heap.size (by omega) z2).trans hk;rw[nP]at h1 h2 e2⊢;exact⟨h1,⟨z1,z2⟩,e2,h2⟩
   |ret=>
    obtain⟨xp,iT,xq⟩:=hp;have fN:=(xp.2 _ z1).trans eG;have hr:=run_endRound (P:=Tryz.prog) (some .ret) fN;have e2:(W3.putObj (w.heap.size+1) (.loop (rec .done (some .ret)))).heap[w.heap.size+1]?=some (.loop (rec .done (some .ret))):=World.putObj_heap_same (Array.getElem?_eq_some_iff.1 fN).1;have h1:=PR _ _ _ _ (w.heap.size+1) (.loop (rec .done (some .ret))) xq z1 (by omega)
    have h2:(W3.putObj (w.heap.size+1) (.loop (rec .done (some .ret)))).heap[w.heap.size]?=some (.deferred (some [])):=(World.putObj_heap_other (by omega)).trans ((xp.2 _ z2).trans ((World.putObj_heap_other (by omega)).trans hk));refine⟨_,_,hr,.inr ⟨rfl,iT,?_⟩⟩;rw[nP]at h1 h2 e2⊢;exact⟨h1,⟨z1,z2⟩,e2,h2⟩
   |exit id=>exact hp.elim
   |goto t=>exact hp.elim
   |panic ch=>exact hp.elim
   |outgrown=>exact hp.elim
  ·rintro e W2⟨⟨v,rfl⟩,Z',_,(⟨hR,hj,⟨z1,z2⟩,hl,hk⟩|⟨hR,Z3,hj,⟨z1,z2⟩,hl,hk⟩)⟩
   ·have hr:=run_endLoop (P:=Tryz.prog) hl (by rw[nP];simp);have hq:=hdone w.heap.size Z' _ (Nat.le_refl _) hR (z6 _ _ _ _ (w.heap.size+1) (.loop {rec .ready none with state:=.exhausted}) hj z1 (by omega)) ((World.putObj_heap_other (by omega)).trans hk);rw[nP]at hr hq;exact⟨none,_,hr,hq⟩
   ·have hr:=run_endLoop (P:=Tryz.prog) hl (by rw[nP];simp);have hq:=abV w.heap.size Z3 _ (Nat.le_refl _) hR (PR _ _ _ _ (w.heap.size+1) (.loop {rec .done (some .ret)with state:=.exhausted}) hj z1 (by omega)) ((World.putObj_heap_other (by omega)).trans hk);rw[nP]at hr hq;exact⟨some .ret,_,hr,hq⟩
end
theorem Eg{js:List JN}(hT:∀id,(iD js id).size≤1100000)(st:ai)(id:Nat):(bD js st id).1.size≤1100000:=by
 unfold bD;split
 ·exact hT id
 ·exact Nat.zero_le _
section
variable{W0 Wv:World}{vv:Value}{base D T:Nat}{s:PS}{nodes:Int}{tv:Value}{ns:List aW}
theorem Jn(hV:dA W0 base D T s nodes tv ns)(hS:ij W0)(hT:∀id,(iD s.js id).size≤1100000)(st:ai)(id:Nat)(w:World)(h:aC W0 Wv vv w D st):Calls Tryz.prog 182 #[an W0.heap.size,.int .i64 id] w fun e w'=>e=.returned (.string (lz cg s.js st id).1)∧bG W0 Wv vv w D (lz cg s.js st id).2 w':=by
 have TX:=Lib.hid (D1 hV st id w h);have hz:=Eg hT st id;unfold lz;obtain⟨r,hr⟩:∃r,bD s.js st id=r:=⟨_,rfl⟩;rw[hr]at TX hz⊢;obtain⟨t,s1⟩:=r;dsimp only at TX hz⊢
 cases hb:s1.bad with
 |true=>
  rw[if_pos rfl];unfold fL;clear hr h hV hS hT hz;have zp:=Lib.hid hb;clear hb;go_enter Tryz.func182,Tryz.ntmps182;go_wp2_with fail;refine TX.out.mono ?_;rintro e w2⟨rfl,hp⟩;have HP:=Lib.hid hp;obtain⟨ev,c0,c1,c2,_,da⟩:=hp.re.cells;rw[zp.out]at da;obtain⟨h,_⟩|⟨_,b,rfl⟩:=da
  ·cases h
  clear hp;go_wp2;go_ret;exact⟨rfl,HP.out⟩
 |false=>
  rw[if_neg (by decide),Bool.false_or];have FL:=Lib.hid (fun W x(hR:aC W0 Wv vv W D s1)=>zY hV s1 id 85 x W hR);have CK:=Lib.hid (fun W(hR:aC W0 Wv vv W D s1)=>adl t s1.vars vv W (hS.ext hR.below) hR.acf hz);obtain⟨q,hq⟩:∃q,vn t s1.vars=q:=⟨_,rfl⟩;rw[hq]at CK;rw[show cg.Pf t s1.vars=q from hq];have cM:=Lib.hid (show(q=true→(⟨!q,s1.vars⟩:ai)=s1)∧(q=false→(⟨!q,s1.vars⟩:ai)=s1.fail)from⟨fun e=>by subst e;cases s1;cases hb;rfl,fun e=>by subst e;rfl⟩);have zp:=Lib.hid hb
  clear hr h hV hS hT hz hq hb;go_enter Tryz.func182,Tryz.ntmps182;go_wp2_with fail;refine TX.out.mono ?_;rintro e w2⟨rfl,hp⟩;have HP:=Lib.hid hp;obtain⟨ev,c0,c1,c2,_,da⟩:=hp.re.cells;rw[zp.out]at da;obtain⟨_,rfl⟩|⟨h,_⟩:=da
  ·have CK2:=Lib.hid (CK.out w2 hp.re);clear hp;go_wp2_with fail;refine CK2.out.mono ?_;rintro e w3⟨c,⟨aw,u,rfl,he⟩,e_⟩;have kC:=Lib.hid (HP.out.more aw);obtain⟨rfl,rfl⟩|⟨hc,p,rfl⟩:=lE he
   ·have hq:=e_.1 rfl;have HQ:=Lib.hid hq;clear aw he e_ hq c0 c1 c2;go_wp2;go_ret;exact⟨rfl,by rw[cM.out.1 HQ.out];exact kC.out⟩
   ·have hq:q=false:=by
     cases q with
     |false=>rfl
     |true=>exact absurd (e_.2 rfl) hc
    have HQ:=Lib.hid hq;have WR:=Lib.hid (wG 11 0 _ c w3 he);have dx:=Lib.hid (aj (Below.refl _ w3) (.cells #[.int .i64 11,.int .i64 0,.iface 85 (.pointer (some p))] 89));have Jo:=Lib.hid (FL.out _ (.pointer (some ⟨w3.heap.size,0,none⟩)) (kC.out.re.ext dx.out));clear aw he e_ hq hc c0 c1 c2;go_wp2_with fail;refine WR.out.mono ?_;rintro e w4⟨rfl,rfl⟩;go_wp2_with fail;refine Jo.out.mono ?_;rintro e w5⟨rfl,hp⟩;have vC:=Lib.hid ((kC.out.more dx.out).trans hp);clear hp;go_wp2;go_ret
    exact⟨rfl,by rw[cM.out.2 HQ.out];exact vC.out⟩
  ·cases h
theorem adp(hV:dA W0 base D T s nodes tv ns)(hS:ij W0)(hT:∀id,(iD s.js id).size≤1100000)(st:ai)(id:Nat)(key:ByteArray)(w:World)(h:aC W0 Wv vv w D st):Calls Tryz.prog 161 #[an W0.heap.size,.int .i64 id,.string key] w fun e w'=>e=.returned (.tuple #[.string (gO cg s.js s.aa st id key).1.1,.bool (gO cg s.js s.aa st id key).1.2])∧bG W0 Wv vv w D (gO cg s.js s.aa st id key).2 w':=by
 have ME:=Lib.hid (qw hV st id key w h);unfold gO
 cases hm:dV s.js s.aa st id key with
 |none=>rw[hm]at ME;unfold ez at ME;unfold fL;have H:=Lib.hid h;clear hm h hV hS hT;go_enter Tryz.func161,Tryz.ntmps161;go_wp2_with fail;refine ME.out.mono ?_;rintro e w2⟨rfl,ah⟩;have HP:=Lib.hid (bG.of H.out ah);clear ah;go_wp2;go_ret2;exact⟨rfl,HP.out⟩
 |some k=>
  rw[hm]at ME;unfold ez at ME;dsimp only;have CK:=Lib.hid (fun W(hR:aC W0 Wv vv W D st)=>Jn hV hS hT st k W hR);obtain⟨r,hr⟩:∃r,lz cg s.js st k=r:=⟨_,rfl⟩;rw[hr]at CK⊢;have H:=Lib.hid h;clear hm h hV hS hT hr;go_enter Tryz.func161,Tryz.ntmps161;go_wp2_with fail;refine ME.out.mono ?_;rintro e w2⟨rfl,ah⟩;have HP:=Lib.hid (bG.of H.out ah);clear ah;go_wp2_with fail;refine(CK.out w2 HP.out.re).mono ?_;rintro e w3⟨rfl,hp⟩;have kC:=Lib.hid (HP.out.trans hp);clear hp;go_wp2;go_ret2;exact⟨rfl,kC.out⟩
end
end Go.Proofs.YtcaiibkgajhohaaGreatDoor
