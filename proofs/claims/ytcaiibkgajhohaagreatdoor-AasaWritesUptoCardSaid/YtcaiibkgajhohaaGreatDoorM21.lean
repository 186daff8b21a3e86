/- waybill: lemmas and walks, printed from longer texts. -/
import Derived.Test.YtcaiibkgajhohaaGreatDoorM20
set_option maxRecDepth 100000
set_option maxHeartbeats 4000000
namespace Go.Proofs.YtcaiibkgajhohaaGreatDoor
open Go.RowKit
abbrev iS(w:World)(u:Value)(c:List (Int×Int)):Prop:=Rd (Own w) w u (cz 85 c)
theorem iS.nil{w:World}:iS w .nilIface []:=by show Rd _ _ _ (cz _ []);simp only[cz];exact .mW
def ID(w:World)(c:List (Int×Int))(e:Ending)(w':World):Prop:=Below w.heap.size w w'∧∃u,e=.returned u∧iS w' u c
theorem IE(s:ByteArray)(w:World)(ht:nu w)(hm:s.size≤1100000):Calls Tryz.prog 34 #[.string s] w (ID w (jK s)):=by
 by_cases hz:1024<s.size
 ·have t1:decide ((1024:Int)<(s.size:Int))=true:=decide_eq_true (by omega);have aT:decide (1024<s.size)=true:=decide_eq_true hz;have hg:jK s=[(14,1024)]:=by unfold jK;rw[if_pos hz]
  rw[hg];have HF:=Lib.hid (Rd.failed 14 1024 w);have HB:=Lib.hid (aj (Below.refl w.heap.size w) (.cells #[.int .i64 14,.int .i64 1024,.nilIface] 89));clear hz hg;go_enter Tryz.func34,Tryz.ntmps34;go_wp2_with fail;go_at_call 42;refine(ri _ _ _).mono ?_;rintro e w1⟨rfl,rfl⟩;go_wp2;go_ret;exact⟨HB.out,_,rfl,HF.out⟩
 ·have t1:decide ((1024:Int)<(s.size:Int))=false:=decide_eq_false (by omega);have aT:decide (1024<s.size)=false:=decide_eq_false hz;have hg:jK s=tC s:=by unfold jK;rw[if_neg hz]
  rw[hg];obtain⟨W0,cap,hcv,gY,dc,bT,hcell⟩:=yR s w;have L:=zq (S:=Own W0) (B:=s) (b:=w.heap.size) bT gY hcell;have VD:=IC _ s W0 L (ht.ext dc) hm;unfold tC;obtain⟨R,hR⟩:∃R,dZ s 0 []=R:=⟨_,rfl⟩;rw[hR]at VD⊢;have VD:=Lib.hid VD;have je:=Lib.hid dc;clear hm L dc bT hcell gY hR hz hg ht;go_enter Tryz.func34,Tryz.ntmps34;go_wp2_with fail;go_at_call 64;refine VD.out.mono ?_;intro e w1 hp
  cases R with
  |ok l=>obtain⟨rfl,hb⟩:=hp;have HB:=Lib.hid (je.out.trans (hb.mono je.out.size));clear hb;go_wp2;go_ret;exact⟨HB.out,_,rfl,iS.nil⟩
  |no k p=>obtain⟨u,rfl,hf⟩:=hp;have HB:=Lib.hid (je.out.trans (hf.2.mono je.out.size));have HE:Hid (iS w1 _ [((k:Nat),p)]):=Lib.hid (hf.1.wide (fun b hb=>hb.2));clear hf;go_wp2;go_ret;exact⟨HB.out,_,rfl,HE.out⟩
theorem DW{js:List JN}{key:ByteArray}:∀(l:List Nat)(a:Int),(∀k∈l,bh js k≠key)→l.foldl (fun a k=>if bh js k=key then(k:Int)else a) a=a
 |[],_,_=>rfl
 |k::l,a,h=>by rw[List.foldl_cons,if_neg (h k (by simp))];exact DW l a (fun k' hk=>h k' (by simp[hk]))
def dI(js:List JN)(id kind:Int):Int×Int:=if 0≤id then match js[id.toNat]? with
  |some x=>if x.kind=kind∨kind=2∧x.kind=1 then(0,0)else(32,x.at_)
  |none=>(30,id)else(30,id)
theorem IG{js:List JN}{i:Nat}{x:JN}(hx:js[i]?=some x)(kind:Int):dI js i kind=if x.kind=kind∨kind=2∧x.kind=1 then(0,0)else(32,x.at_):=by unfold dI;rw[if_pos (by omega),Int.toNat_natCast,hx]
theorem IH{js:List JN}{id:Int}(h:¬(0≤id∧id<js.length))(kind:Int):dI js id kind=(30,id):=by
 unfold dI;by_cases h0:0≤id
 ·rw[if_pos h0,List.getElem?_eq_none (by omega)]
 ·rw[if_neg h0]
def gz(js:List JN)(k:Nat):JN:=(js[k]?).getD jz
theorem P9{α:Type} [Inhabited α](p:α→Bool)(zs:List α):(zs.any p=false∧Go.Lib.idxBy (fun _ y=>p y) (zs.take zs.length) default=-1)∨∃k,k<zs.length∧zs.any p=true∧p zs[k]! =true∧Go.Lib.idxBy (fun _ y=>p y) (zs.take zs.length) default=((k:Nat):Int)∧∀j,j<k→p zs[j]! =false:=by
 have hm:∀m,m≤zs.length→(∀j,j<m→p zs[j]! =false)∨∃k,k<m∧p zs[k]! =true∧∀j,j<k→p zs[j]! =false:=by
  intro m
  induction m with
  |zero=>exact fun _=>.inl fun j hj=>absurd hj (Nat.not_lt_zero _)
  |succ m ih=>
   intro oG;rcases ih (by omega)with h|⟨k,hk,h1,h2⟩
   ·cases hp:p zs[m]! with
    |true=>exact .inr ⟨m,by omega,hp,h⟩
    |false=>
     refine .inl (fun j hj=>?_);by_cases e:j=m
     ·rw[e];exact hp
     ·exact h j (by omega)
   ·exact .inr ⟨k,by omega,h1,h2⟩
 rcases hm zs.length (Nat.le_refl _)with h|⟨k,hk,h1,h2⟩
 ·refine .inl ⟨?_,Go.Lib.idxBy_miss _ _ _ _ h⟩;rw[List.any_eq_false];intro x hx;obtain⟨j,hj,rfl⟩:=List.mem_iff_getElem.1 hx;have:=h j hj;rw[getElem!_pos zs j hj]at this;simp[this]
 ·refine .inr ⟨k,hk,?_,h1,Go.Lib.idxBy_hit _ _ _ _ _ hk (Nat.le_refl _) h1 h2,h2⟩;rw[List.any_eq_true];exact⟨zs[k],List.getElem_mem hk,by rw[getElem!_pos zs k hk]at h1;exact h1⟩
structure tE where
 nm:ByteArray
 am:ByteArray
 sz:Int
instance:Inhabited tE:=⟨⟨fL,fL,0⟩⟩
def D2:List UInt8:=[97,98,99,100,101,102,103,104,105,106,107,108,109,110,111,112,113,114,115,116,117,118,119,120,121,122]
def D3:List UInt8:=[65,66,67,68,69,70,71,72,73,74,75,76,77,78,79,80,81,82,83,84,85,86,87,88,89,90]
def I4:List UInt8:=[48,49,50,51,52,53,54,55,56,57]
def hxB:List UInt8:=[97,98,99,100,101,102,65,66,67,68,69,70]
def j6:List tE:=[⟨⟨#[97,108,112,104,97]⟩,⟨(D2++D3).toArray⟩,1⟩,⟨⟨#[117,112,112,101,114]⟩,⟨D3.toArray⟩,1⟩,⟨⟨#[108,111,119,101,114]⟩,⟨D2.toArray⟩,1⟩,⟨⟨#[100,105,103,105,116]⟩,⟨I4.toArray⟩,1⟩,⟨⟨#[97,108,110,117,109]⟩,⟨(D2++D3++I4).toArray⟩,1⟩,⟨⟨#[120,100,105,103,105,116]⟩,⟨(I4++hxB).toArray⟩,1⟩,⟨⟨#[114,101,103,105,111,110]⟩,⟨D3.toArray⟩,2⟩,⟨⟨#[108,97,110,103]⟩,⟨D2.toArray⟩,2⟩]
def mv(x:tE):List Value:=[.string x.nm,.string x.am,.int .i64 x.sz]
def xr:Array Value:=(j6.flatMap mv).toArray
def mw(w:World):Prop:=∃fr,w.heap[3]?=some (.cells xr 261 fr)
theorem mw.ext{w w':World}(h:mw w)(hb:Below w.heap.size w w'):mw w':=by obtain⟨fr,h⟩:=h;exact⟨fr,by rw[hb.block _ (Array.getElem?_eq_some_iff.1 h).1];exact h⟩
theorem ab8(t:ByteArray):(j6.any fun x=>decide (x.nm=t))=o6 t:=by unfold o6 PB j6;rfl
theorem flat3:∀(l:List tE)(j i:Nat)(v:Value),j<l.length→(mv l[j]!)[i]?=some v→(l.flatMap mv)[j*3+i]?=some v
 |[],j,i,v,h,_=>absurd h (Nat.not_lt_zero _)
 |x::l,0,i,v,_,h=>by have hi:i<3:=(List.getElem?_eq_some_iff.1 h).1;rw[List.flatMap_cons,List.getElem?_append_left (by show 0*3+i<3;omega),Nat.zero_mul,Nat.zero_add];exact h
 |x::l,j+1,i,v,hl,h=>by rw[List.flatMap_cons,List.getElem?_append_right (by show 3≤_;omega),show(j+1)*3+i-(mv x).length=j*3+i by show _-3=_;omega];exact flat3 l j i v (by simpa using hl) h
theorem mw.at{w:World}(h:mw w)(j:Nat)(hj:j<8)(i:Nat)(v:Value)(hv:(mv j6[j]!)[i]?=some v):w.cell? ⟨3,0+j*3+i,none⟩=some v:=by obtain⟨fr,h⟩:=h;have:=Lib.cell_of_heap h (0+j*3+i);rw[this,Nat.zero_add];unfold xr;rw[List.getElem?_toArray];exact flat3 j6 j i v hj hv
theorem ab9(t:ByteArray)(B:Nat)(w:World)(hB:B<w.heap.size)(hcell:w.cell? ⟨B,0,none⟩=some (.string t)):PredBelow Tryz.prog 159 #[.pointer (some ⟨B,0,none⟩)] (fun x=>.agg (mv x).toArray) (fun x=>decide (x.nm=t)) w:=fun W x hb=>by
 have hc:W.cell? ⟨B,0,none⟩=some (.string t):=(hb.cell (p:=⟨B,0,none⟩) hB).trans hcell;have hBW:B<W.heap.size:=Nat.lt_of_lt_of_le hB hb.size;have hne:B≠W.heap.size:=by omega
 obtain⟨q,rN⟩:∃q,decide (x.nm=t)=q:=⟨_,rfl⟩
 have hq:(x.nm.toList==t.toList)=q:=by
  by_cases e:x.nm=t
  ·rw[←rN,iL e,decide_eq_true e]
  ·rw[←rN,mX e,decide_eq_false e]
 show Calls Tryz.prog 159 #[.agg #[.string x.nm,.string x.am,.int .i64 x.sz],.pointer (some ⟨B,0,none⟩)] W fun e w'=>e=.returned (.bool (decide (x.nm=t)))∧Below w.heap.size w w';rw[rN];clear rN;go_enter Tryz.func159,Tryz.ntmps159;go_wp2;go_ret;exact⟨rfl,hb.alloc hb.size _⟩
theorem vu(w:World)(cs ds:Array Value)(T U:TypeId):((w.alloc (.cells cs T)).alloc (.cells ds U)).heap[w.heap.size]?=some (.cells cs T (0,0))∧((w.alloc (.cells cs T)).alloc (.cells ds U)).heap[w.heap.size+1]?=some (.cells ds U (0,0))∧Below w.heap.size w ((w.alloc (.cells cs T)).alloc (.cells ds U)):=by have h1:=heap_alloc_new w (.cells cs T);have h2:=heap_alloc_new (w.alloc (.cells cs T)) (.cells ds U);refine⟨?_,by simpa using h2,aj (aj (Below.refl _ _) _) _⟩;exact((aj (Below.refl _ _) (Obj.cells ds U)).block _ (ak h1)).trans h1
theorem aca{w:World}(h:mw w):3<w.heap.size:=by obtain⟨fr,h⟩:=h;exact ak h
theorem I5(x:tE):(mv x)[0]?=some (.string x.nm)∧(mv x)[1]?=some (.string x.am)∧(mv x)[2]?=some (.int .i64 x.sz):=⟨rfl,rfl,rfl⟩
theorem acb(t:ByteArray)(w:World)(h:mw w):Calls Tryz.prog 128 #[.string t] w fun e w'=>(∃(a b:ByteArray)(c:Int),e=.returned (.tuple #[.agg #[.string a,.string b,.int .i64 c],.bool (o6 t)]))∧Below w.heap.size w w':=by
 have eg:∀args w,(callFunc 159 args).run Tryz.prog w=.ok (.enter 159 args) w:=enters_of Tryz.func159 (by kernel_rfl) rfl;have BX:=Lib.hid (vu w #[.string t] #[.string ⟨#[]⟩,.string ⟨#[]⟩,.int .i64 0] 9 233)
 have K:=fun(W:World)(hc:mw W)(hB:w.heap.size<W.heap.size)(hcell:W.cell? ⟨w.heap.size,0,none⟩=some (.string t))=>AnyQ.slices_IndexFunc Tryz.ab4 3 Tryz.isAgg233 Tryz.sizeOf233 mv (fun _=>rfl) (fun x=>decide (x.nm=t)) 159 #[.pointer (some ⟨w.heap.size,0,none⟩)] eg 3 0 8 8 j6 W (ab9 t w.heap.size W hB hcell) (Nat.le_refl _) (by decide) (aca hc) (fun j hj i v hv=>hc.at j hj i v hv)
 change∀(W:World)(hc:mw W)(hB:w.heap.size<W.heap.size)(hcell:W.cell? ⟨w.heap.size,0,none⟩=some (.string t)),Calls Tryz.prog 158 _ _ _ at K;have az:=ab8 t;rcases P9 (fun x:tE=>decide (x.nm=t)) j6 with⟨h1,h2⟩|⟨k,hk,h1,_,h2,_⟩
 ·rw[az]at h1;rw[h1];change Go.Lib.idxBy _ (j6.take 8) default=_ at h2;simp only[h2]at K;have K:=Lib.hid K;have H:=Lib.hid h;clear h1 h2 h az eg;go_enter Tryz.func128,Tryz.ntmps128;go_wp2_with fail;obtain⟨Wa,bU⟩:∃Wa,((w.alloc (Obj.cells #[Value.string t] 9)).alloc (Obj.cells #[Value.string ⟨#[]⟩,Value.string ⟨#[]⟩,Value.int .i64 0] 233))=Wa:=⟨_,rfl⟩;rw[bU]at BX⊢;have BA:=Lib.hid BX.out.2.2;refine(K.out Wa (H.out.ext BA.out) (ak BX.out.1) (Lib.cell_of_heap BX.out.1 0)).mono ?_
  rintro e w1⟨rfl,ar⟩;have X6:=(ar.block _ (ak BX.out.2.1)).trans BX.out.2.1;have mr:=Lib.cell_of_heap X6 0;have mu:=Lib.cell_of_heap X6 1;have I6:=Lib.cell_of_heap X6 2;have g6:=fun i=>Go.Joins.unfrozen_of_block X6 i;have hs6:=ak X6;have BB:=Lib.hid (aF BA.out ar);clear X6 ar bU;go_wp2
  have HB:=Lib.hid (((BB.out.setCell (p:=⟨w.heap.size+1,0,none⟩) (Nat.le_succ _) (.string ⟨#[]⟩)).setCell (p:=⟨w.heap.size+1,1,none⟩) (Nat.le_succ _) (.string ⟨#[]⟩)).setCell (p:=⟨w.heap.size+1,2,none⟩) (Nat.le_succ _) (.int .i64 0));refine bodyPost_ret (v:=.tuple #[.agg #[.string ⟨#[]⟩,.string ⟨#[]⟩,.int .i64 0],.bool false]) (by simp[results,Tryz.results128,go_sem,mr,mu,I6]) rfl ⟨⟨_,_,_,rfl⟩,HB.out⟩
 ·rw[az]at h1;rw[h1];change Go.Lib.idxBy _ (j6.take 8) default=_ at h2;simp only[h2]at K;have hk:k<8:=hk;have K:=Lib.hid K;have H:=Lib.hid h;have AT:=Lib.hid (fun W(hc:mw W)i v hv=>hc.at k hk i v hv);obtain⟨x,hx⟩:∃x,j6[k]! =x:=⟨_,rfl⟩;rw[hx]at AT;have t1:decide ((k:Int)<0)=false:=decide_eq_false (by omega);have t2:¬(k:Int)<0:=by omega
  clear h1 h2 h az eg hx;go_enter Tryz.func128,Tryz.ntmps128;go_wp2_with fail;obtain⟨Wa,bU⟩:∃Wa,((w.alloc (Obj.cells #[Value.string t] 9)).alloc (Obj.cells #[Value.string ⟨#[]⟩,Value.string ⟨#[]⟩,Value.int .i64 0] 233))=Wa:=⟨_,rfl⟩;rw[bU]at BX⊢;have BA:=Lib.hid BX.out.2.2;refine(K.out Wa (H.out.ext BA.out) (ak BX.out.1) (Lib.cell_of_heap BX.out.1 0)).mono ?_;rintro e w1⟨rfl,ar⟩;have X6:=(ar.block _ (ak BX.out.2.1)).trans BX.out.2.1;have mr:=Lib.cell_of_heap X6 0
  have mu:=Lib.cell_of_heap X6 1;have I6:=Lib.cell_of_heap X6 2;have g6:=fun i=>Go.Joins.unfrozen_of_block X6 i;have hs6:=ak X6;have BB:=Lib.hid (aF BA.out ar);have HC:=(H.out.ext BA.out).ext ar;have d0:=AT.out w1 HC 0 _ (I5 x).1;have d1:=AT.out w1 HC 1 _ (I5 x).2.1;have d2:=AT.out w1 HC 2 _ (I5 x).2.2;simp only[Nat.zero_add,Nat.add_zero]at d0 d1 d2;clear X6 ar bU HC;go_wp2
  have HB:=Lib.hid (((BB.out.setCell (p:=⟨w.heap.size+1,0,none⟩) (Nat.le_succ _) (.string x.nm)).setCell (p:=⟨w.heap.size+1,1,none⟩) (Nat.le_succ _) (.string x.am)).setCell (p:=⟨w.heap.size+1,2,none⟩) (Nat.le_succ _) (.int .i64 x.sz));refine bodyPost_ret (v:=.tuple #[.agg #[.string x.nm,.string x.am,.int .i64 x.sz],.bool true]) (by simp[results,Tryz.results128,go_sem,mr,mu,I6]) rfl ⟨⟨_,_,_,rfl⟩,HB.out⟩
theorem P_(t:ByteArray)(w:World)(h:mw w):Calls Tryz.prog 97 #[.string t] w fun e w'=>e=.returned (.bool (o6 t))∧Below w.heap.size w w':=by have SO:=Lib.hid (acb t w h);obtain⟨q,hq⟩:∃q,o6 t=q:=⟨_,rfl⟩;rw[hq]at SO⊢;clear h hq;go_enter Tryz.func97,Tryz.ntmps97;go_wp2_with fail;refine SO.out.mono ?_;rintro e w1⟨⟨a,b,c,rfl⟩,ar⟩;have HB:=Lib.hid (aj ar (.cells #[.string a,.string b,.int .i64 c] 233));clear ar;go_wp2;go_ret;exact⟨rfl,HB.out⟩
theorem aeZ{B:ByteArray}{t:Tok}{x:ByteArray}(h:fa B t=some x):x.size≤4*B.size:=by
 unfold fa at h;split at h
 ·rename_i y hy;split at h
  ·rename_i hc;split at h
   ·rename_i z hz;cases h;have hs:=rq hy;obtain⟨rfl,h7⟩:=hc;have:=GB (by omega) hz;have:=C9 z.1;omega
   ·cases h
  ·cases h
 ·cases h
def tV(K:Nat)(s:PS):Prop:=(∀x∈s.js,x.key.size≤K)∧(∀o∈s.stack,o.key.size≤K)
theorem vT{K:Nat}{o:Op}{r:List Op}(h1:o.key.size≤K)(h2:∀p∈r,p.key.size≤K):∀p∈o::r,p.key.size≤K:=fun p hp=>by
 rcases List.mem_cons.1 hp with rfl|hp
 ·exact h1
 ·exact h2 p hp
theorem Kh{K:Nat}{r:List Op}(h:∀o∈r,o.key.size≤K):∀o∈jc r,o.key.size≤K:=by
 cases r with
 |nil=>exact h
 |cons o r=>exact vT (show(sP o).key.size≤K from h o (by simp)) (fun p hp=>h p (by simp[hp]))
theorem SF{K:Nat}{B:ByteArray}{o:Op}{k:Int}{t:Tok}(h:o.key.size≤K):(gZ B o k t).key.size≤K:=by
 unfold gZ;simp only;split
 ·exact h
 ·exact Nat.zero_le _
theorem ae0{K:Nat}{B:ByteArray}{m:Bd}{s s':PS}{t:Tok}(hK:∀t x,fa B t=some x→x.size≤K)(hk:tV K s)(h:ca B m s t=.ok s'):tV K s':=by
 unfold ca at h
 cases hs:s.stack with
 |nil=>rw[hs]at h;cases h;exact hk
 |cons o r=>
  rw[hs]at h;simp only at h;have ho:o.key.size≤K:=hk.2 o (by rw[hs];simp);have hr:∀p∈r,p.key.size≤K:=fun p hp=>hk.2 p (by rw[hs];simp[hp]);have hw:∀{a b:PS},(eD t:Sc PS)=.ok b→tV K b:=fun h=>by unfold eD at h;split at h<;>cases h
  have hv:fc B m s o r t=.ok s'→tV K s':=fun h=>by
   unfold fc at h;split at h
   ·exact hw (a:=s) h
   ·split at h
    ·cases h
    ·split at h
     ·cases h
      exact⟨fun x hx=>by
       rcases List.mem_append.1 hx with hx|hx
       ·exact hk.1 x hx
       ·rw[List.mem_singleton.1 hx];exact SF ho,Kh (vT ho hr)⟩
     ·split at h
      ·cases h
      ·cases h
       exact⟨fun x hx=>by
        rcases List.mem_append.1 hx with hx|hx
        ·exact hk.1 x hx
        ·rw[List.mem_singleton.1 hx];exact SF ho,vT (Nat.zero_le _) (vT ho hr)⟩
  have hy:jF B s o r t=.ok s'→tV K s':=fun h=>by
   unfold jF at h;split at h
   ·exact hw (a:=s) h
   ·split at h
    ·rename_i x hx;cases h;exact⟨hk.1,vT (hK _ _ hx) hr⟩
    ·cases h
  have hb:kx s o r t=.ok s'→tV K s':=fun h=>by
   unfold kx at h;split at h
   ·cases h;exact⟨hk.1,Kh hr⟩
   ·split at h
    ·exact hw (a:=s) h
    ·cases h;exact⟨hk.1,vT ho hr⟩
  split at h
  ·split at h
   ·cases h;exact hk
   ·exact hw (a:=s) h
  ·split at h
   ·split at h
    ·cases h;exact⟨hk.1,vT ho hr⟩
    ·exact hw (a:=s) h
   ·split at h
    ·exact hb h
    ·split at h
     ·split at h
      ·cases h;exact⟨hk.1,Kh hr⟩
      ·split at h
       ·exact hy h
       ·exact hv h
     ·split at h
      ·exact hy h
      ·exact hv h
theorem SH{K:Nat}{B:ByteArray}{m:Bd}(hK:∀t x,fa B t=some x→x.size≤K):∀f i s s',tV K s→gq B m f i s=.ok s'→tV K s'
 |0,i,s,s',hk,h=>by cases h;exact hk
 |f+1,i,s,s',hk,h=>by
  rw[gq]at h;obtain⟨t,hn,h⟩:=Sc.dT h;obtain⟨s2,ht,h⟩:=Sc.dT h;have h2:=ae0 hK hk ht;split at h
  ·cases h;exact h2
  ·exact SH hK f _ s2 s' h2 h
theorem ae1{B:ByteArray}{m:Bd}{s:PS}(h:fU B m=.ok s)(k:Nat):(bh s.js k).size≤4*B.size:=by
 unfold fU at h;split at h
 ·cases h
 ·have hk:=SH (K:=4*B.size) (fun t x hx=>aeZ hx) _ _ _ _ ⟨fun x hx=>by simp[fG]at hx,fun o ho=>by simp[fG]at ho;subst ho;exact Nat.zero_le _⟩ h;unfold bh;split
  ·rename_i x hx;exact hk.1 x (List.mem_of_getElem? hx)
  ·exact Nat.zero_le _
theorem ae2{B:ByteArray}{m:Bd}{s s':PS}{t:Tok}(h:ca B m s t=.ok s'):s'.js.length≤s.js.length+1∧(t.kind=0→s'.js.length=s.js.length):=by unfold ca fc jF kx eD eE at h;(repeat' split at h);all_goals first|(cases h;done)|(cases h;exact⟨by simp,fun _=>rfl⟩)|(cases h;exact⟨by simp,fun h0=>absurd h0 (EU (by assumption))⟩)
theorem SI(B:ByteArray)(m:Bd):∀f(i:Int)s s',(s.js.length:Int)≤i→i≤B.size→gq B m f i s=.ok s'→s'.js.length≤B.size
 |0,i,s,s',h1,h2,h=>by cases h;omega
 |f+1,i,s,s',h1,h2,h=>by
  rw[gq]at h;obtain⟨t,hn,h⟩:=Sc.dT h;obtain⟨s2,ht,h⟩:=Sc.dT h;have hs:=rq hn;have hl:=ae2 ht;split at h
  ·rename_i h0;cases h;have:=hl.2 h0;omega
  ·exact SI B m f t.cK s2 s' (by omega) (by omega) h
theorem ae3{B:ByteArray}{m:Bd}{s:PS}(h:fU B m=.ok s):s.js.length≤B.size:=by
 unfold fU at h;split at h
 ·cases h
 ·exact SI B m _ 0 fG s (Int.le_refl _) (by omega) h
end Go.Proofs.YtcaiibkgajhohaaGreatDoor
