/- waybill: lemmas and walks, printed from longer texts. -/
import Derived.Test.YtcaiibkgajhohaaGreatDoorM16
import Derived.Maps.OwnOps
import Derived.Maps.Views
import Derived.StringKeys
set_option maxRecDepth 100000
set_option maxHeartbeats 8000000
namespace Go.Proofs.YtcaiibkgajhohaaGreatDoor
open Go.RowKit Go.WideMaps Go.Maps
def ic(js:List JN)(l:List Nat)(key:ByteArray):Int:=l.foldl (fun a k=>if bh js k=key then(k:Int)else a) 0
theorem OO(js:List JN)(l:List Nat)(k:Nat)(key:ByteArray):ic js (l++[k]) key=if bh js k=key then(k:Int)else ic js l key:=by simp[ic]
def rB(js:List JN)(all:List Nat)(k:Nat):Bool:=ic js all (bh js k)==(k:Int)
def et(js:List JN)(all:List Nat):List Nat:=all.filter (rB js all)
def rC(s:ByteArray):Lit:=.string s.data.toList
theorem aaN{a b:ByteArray}(h:rC a=rC b):a=b:=by unfold rC at h;injection h with h;cases a;cases b;simp only at h;congr 1;exact Array.toList_inj.1 h
theorem aaO(s:ByteArray):WideAt.IsKeyLit (rC s):=by unfold rC WideAt.IsKeyLit;trivial
abbrev Dy(n:Int):DataW Unit:=.lit (.int .i64 n)
def zF(js:List JN)(l:List Nat)(D:DataW Unit):Prop:=IsMap D∧∀key:ByteArray,D.atKey (rC key) (Dy 0)=Dy (ic js l key)
theorem aaP(js:List JN):zF js [] (.map []):=⟨isMap_empty,fun _=>rfl⟩
theorem zF.put{js:List JN}{l:List Nat}{D:DataW Unit}(h:zF js l D)(k:Nat):zF js (l++[k]) (D.put (rC (bh js k)) (Dy k)):=by
 refine⟨h.1.put _ _,fun key=>?_⟩;rw[OO];by_cases e:bh js k=key
 ·rw[if_pos e,←e];exact atKey_put_same h.1 (aaO _) _ _
 ·rw[if_neg e,atKey_put_other (fun h=>e (aaN h).symm)];exact h.2 key
theorem Ic{P:Program}{k:TypeId}{R:Value→Option (DataW Unit×List MemPlace)}{w w':World}{b n:Nat}{D:DataW Unit}(h:w.ownsMap P k R b n D)(hb:w'.heap[b]?=w.heap[b]?):w'.ownsMap P k R b n D:=by obtain⟨es,c,h1,h2⟩:=h;exact⟨es,c,hb.trans h1,h2⟩
theorem OP:Keyed Tryz.prog 9:=string_keyed Tryz.underlying9
theorem aaQ(w:World):(zeroValue 3).run Tryz.prog w=.ok (.int .i64 0) w:=by kernel_rfl
theorem aaR{P:Program}(t k e:TypeId)(n:Nat)(w:World)(ht:P.underlying t=some (.map k e)):(Instr.makeMap t (some (.int .i64 (n:Int)))).run P w=.ok (.map (some w.heap.size)) (w.alloc (.map #[] 0)):=by simp[Instr.makeMap,run_underlying ht,go_sem]
def Ie(js:List JN)(all:List Nat)(W:World)(k:Value)(wr:World):Prop:=∃(j:Nat)(D:DataW Unit),k=.int .i64 j∧j≤all.length∧wr.ownsMap Tryz.prog 9 (plainElem Tryz.prog 3) W.heap.size j D∧zF js (all.take j) D∧Below W.heap.size W wr
def qg(js:List JN)(all:List Nat)(j:Nat):List Nat:=(all.take j).filter (rB js all)
theorem aaS(js:List JN)(all:List Nat)(j:Nat):(qg js all j).length≤j:=by have:=List.length_filter_le (rB js all) (all.take j);unfold qg;simp at this⊢;omega
def Dz(js:List JN)(all:List Nat)(W:World)(D:DataW Unit)(v k:Value)(wr:World):Prop:=∃(j:Nat),k=.int .i64 j∧j≤all.length∧wr.ownsMap Tryz.prog 9 (plainElem Tryz.prog 3) W.heap.size all.length D∧Below W.heap.size W wr∧W.heap.size+1≤wr.heap.size∧wr.ownsRow (W.heap.size+1) 3 1 v (qg js all j).length (lZ (qg js all j))
theorem aaT(w:World)(base D T:Nat)(s:PS)(nodes:Int)(tv:Value)(ns:List aW)(i:Nat)(x:JN)(h:gx w base D s nodes T tv ns)(hj:s.js.length≤100000)(hx:s.js[i]?=some x)(h6:x.kind=6)(OQ:∀k,(bh s.js k).size≤maxLen):Calls Tryz.prog 55 #[an D,.int .i64 i] w fun e w'=>∃v,e=.returned (.tuple #[v,.nilIface])∧Rd (dY w w') w' v (oO (et s.js (kids s.aa i)))∧Below w.heap.size w w':=by
 have jZ:=(List.getElem?_eq_some_iff.1 hx).1;have hl:=h.len;have s8:=h.de.len;have cD:=h.cD;have oX:=ak h.doc;have OF:=Lib.hid (fun ob(kv:Value)(hk:Rd (Own (w.alloc ob)) (w.alloc ob) kv (.list 1 (([6]:List Int).map (.int .i64))))=>vg (w.alloc ob) base D T s nodes tv ns i kv [6] (h.below (aj (Below.refl _ _) ob)) (by omega) hk (by decide))
 have K6:=Lib.hid (show Rd (Own (w.alloc (.cells #[.int .i64 6] 3))) (w.alloc (.cells #[.int .i64 6] 3)) (.slice (some ⟨w.heap.size,0,none⟩) 1 1) (.list 1 (([6]:List Int).map (.int .i64)))from by
  have ho:=World.ownsRow_lit (base:=w.heap.size) (e:=3) (size:=1) w #[.int .i64 6] 1 (Nat.le_refl _) (by decide) rfl;refine mY ho ⟨rfl,fun j u d hu hd=>?_⟩ (fun g hg=>(ho.lt g hg).2)
  cases j with
  |zero=>simp at hu hd;subst hu;subst hd;exact .int _ _
  |succ j=>simp at hu)
 have ar:=Lib.hid (fun ob:Obj=>aj (Below.refl _ w) ob);have H:=Lib.hid h;have HX:=Lib.hid hx;have OS:=Lib.hid OQ;clear h hx OQ;go_enter Tryz.func55,Tryz.ntmps55;go_wp2_with fail;refine(OF.out _ _ K6.out).mono ?_;intro e w2 hp
 have sF:e=.returned (.tuple #[.agg #[.int .i64 x.kind,.string x.key,.string x.text,.int .i64 x.at_],.nilIface])∧Below (w.alloc (.cells #[.int .i64 6] 3)).heap.size (w.alloc (.cells #[.int .i64 6] 3)) w2:=by
  rcases hp with⟨i',x',hi,uH,h⟩|⟨hn,_⟩
  ·obtain rfl:i=i':=by omega
   obtain rfl:x'=x:=by rw[HX.out]at uH;exact(Option.some.inj uH).symm
   rcases h with⟨_,h1,h2⟩|⟨h1,_⟩
   ·exact⟨h1,h2⟩
   ·exact absurd (by rw[h6];simp) h1
  ·omega
 obtain⟨rfl,ah⟩:=sF;have aP:=Lib.hid (fun ob=>aj (aF (ar.out _) ah) ob);clear hp ah;have tn:∀ob,(w2.alloc ob).cell? ⟨D,0,none⟩=some (an T):=fun ob=>(aK (aP.out ob) oX 0).trans cD;have KD:=Lib.hid (fun ob=>G1 T tv ns s.aa nodes i (w2.alloc ob) ((H.out.below (aP.out ob)).tree) H.out.de (by omega) (by omega));go_wp2_with fail;refine(KD.out _).mono ?_;rintro e w3⟨v3,rfl,iu,aw⟩;have nJ:∀k∈kids s.aa i,k<s.js.length:=fun k hk=>by have:=(fk.1 hk).2.1;omega
 have fm:=zh s.aa i;generalize qh:kids s.aa i=all at*;have If:=Lib.hid qh;clear qh;have cF:=Lib.hid (aF (aP.out _) aw);obtain⟨a,c,rfl,_,fh,dg⟩:=iu.oT;have zG:∀j(hj:j<all.length),∃b off,a=some ⟨b,off,none⟩∧b<w3.heap.size∧w3.cell? ⟨b,off+j,none⟩=some (.int .i64 (all[j]:Nat)):=fun j hj=>by obtain⟨b,off,h1,h2,h3⟩:=dg (by omega);exact⟨b,off,h1,h2.2,h3 j hj⟩
 have oY:=Lib.hid zG;have OT:=Lib.hid nJ;have dP:=aaR (P:=Tryz.prog) 184 9 3 all.length w3 Tryz.underlying184;have DA:=Lib.hid (fun(W:World)(hW:Below w3.heap.size w3 W)(k:Nat)=>OI W base D T s nodes tv ns k (H.out.below (aF cF.out hW)) (by omega));have R0:Ie s.js all w3 (.int .i64 0) (w3.alloc (.map #[] 0)):=⟨0,.map [],rfl,Nat.zero_le _,World.ownsMap_made _ _ _ _,aaP _,aj (Below.refl _ _) _⟩;have eF:=Lib.hid R0;clear aw iu dg zG nJ R0 tn KD OF K6 aP;go_wp2_with fail
 go_loopw[36](Ie s.js all w3)(fun k _=>all.length-(intOf k).toNat);case atStart=>exact eF.out
 case round=>
  obtain⟨j,DD,rfl,hja,rD,rE,dE⟩:=hrel;by_cases hlt:j<all.length
  ·have t1:decide ((j:Int)<(all.length:Int))=true:=decide_eq_true (by omega);have aT:decide (j<all.length)=true:=decide_eq_true hlt;have q1:IntKind.i64.wrap ((j:Int)+1)=(j:Int)+1:=IntWalk.i64_in _ (by omega);obtain⟨b,off,rfl,ry,hcc⟩:=oY.out j hlt;have OU:=(aK dE ry (off+j)).trans hcc;have eQ:all.take (j+1)=all.take j++[all[j]]:=List.take_succ_eq_append_getElem hlt;have yT:=OT.out all[j] (List.getElem_mem hlt)
   have OV:(Lit.int .i64 ((all[j]:Nat):Int)).wf=true:=WalkArith.wf_i64 (by omega);generalize all[j]=k at*;have DK:=Lib.hid (DA.out wr dE k);have DB:=Lib.hid eQ;have Ig:=Lib.hid rE;have zH:=Lib.hid rD;have gK:=Lib.hid dE;have HWF:=Lib.hid OV;have oG:j<maxLen:=by simp[maxLen];omega
   clear eQ rE rD dE OV dP hcc;go_wp2_with fail;refine DK.out.mono ?_;rintro e w5⟨rfl,bg⟩;have hbm:w3.heap.size<wr.heap.size:=by have:=zH.out.lt;exact this
   have zI:=Ic zH.out (bg.block _ hbm);have lp:=Lib.hid (aF gK.out bg);have rF:Hid (keyOf Tryz.prog 9 (.string (bh s.js k))=some (rC (bh s.js k))):=Lib.hid (keyOf_string_mk Tryz.underlying9 (OS.out k));have xd:=Lib.hid zI;clear bg zI;go_wp2_with(at_mapUpdate;refine wpList_mapUpdate_own _ rfl _ _ _ 184 rfl 9 3 OP Tryz.underlying184 _ w3.heap.size j _ rfl xd.out oG _ _ _ rfl rfl rF.out _ [] (plainElem_int Tryz.underlying3 HWF.out) ?_);intro w6 lq OX
   have R1:Ie s.js all w3 (.int .i64 ((j:Int)+1)) w6:=⟨j+1,_,by go_num,hlt,lq,by rw[DB.out];exact Ig.out.put k,lp.out.grown OX lp.out.size (fun g hg=>by cases hg;exact Nat.le_refl _)⟩;have vf:=Lib.hid R1;clear lq OX R1;go_wp2;refine⟨?_,by simp[intOf];omega⟩;have R:=vf.out;first|exact R|((repeat apply Exists.intro);exact⟨R,rfl⟩)
  ·have t1:decide ((j:Int)<(all.length:Int))=false:=decide_eq_false (by omega);have aT:decide (j<all.length)=false:=decide_eq_false hlt;obtain rfl:j=all.length:=by omega
   rw[List.take_length]at rE;have R2:Dz s.js all w3 DD (.slice none 0 0) (.int .i64 0) wr:=⟨0,rfl,Nat.zero_le _,rD,dE,rD.lt,World.ownsRow_nil _ _ _ _⟩;have jX:=Lib.hid R2;have Ig:=Lib.hid rE;clear R2 rE rD dE dP;go_wp2_with fail;go_loopw[12,48](Dz s.js all w3 DD)(fun _ k _=>all.length-(intOf k).toNat);case atStart=>exact jX.out
   case round=>
    obtain⟨j,rfl,aj3,rD,dE,lh,az⟩:=hrel;obtain⟨av,DE,rfl,_⟩:=aM az;have HOW:=Lib.hid az;have zo:=aaS s.js all j;by_cases bP:j<all.length
    ·have t2:decide ((j:Int)<(all.length:Int))=true:=decide_eq_true (by omega);have dM:decide (j<all.length)=true:=decide_eq_true bP;have q1:IntKind.i64.wrap ((j:Int)+1)=(j:Int)+1:=IntWalk.i64_in _ (by omega);obtain⟨b,off,rfl,ry,hcc⟩:=oY.out j bP;have OU:=(aK dE ry (off+j)).trans hcc
     have eQ:qg s.js all (j+1)=qg s.js all j++(if rB s.js all all[j]then[all[j]]else[]):=by unfold qg;rw[List.take_succ_eq_append_getElem bP,List.filter_append];congr 1;cases h:rB s.js all all[j]<;>simp[h]
     generalize all[j]=k at*;have DK:=Lib.hid (DA.out wr dE k);have DB:=Lib.hid eQ;have zH:=Lib.hid rD;have gK:=Lib.hid dE;clear eQ rD dE hcc az;go_wp2_with fail;refine DK.out.mono ?_;rintro e w5⟨rfl,bg⟩;have zI:=Ic zH.out (bg.block _ zH.out.lt);have lp:=Lib.hid (aF gK.out bg);have rF:Hid (keyOf Tryz.prog 9 (.string (bh s.js k))=some (rC (bh s.js k))):=Lib.hid (keyOf_string_mk Tryz.underlying9 (OS.out k));have xd:=Lib.hid zI;have DG:=Lib.hid (bu HOW.out (fun g hg=>bg.block g (HOW.out.lt g hg).2) (Nat.le_refl _))
     have OY:w3.heap.size+1≤w5.heap.size:=Nat.le_trans lh bg.size;clear bg zI HOW;go_wp2_with(at_lookup;refine wpList_lookup_own_int _ rfl _ _ 184 rfl 9 3 .i64 OP Tryz.underlying184 Tryz.underlying3 (aaQ _) w3.heap.size _ _ rfl xd.out _ _ rfl rF.out ?_);intro cc cf zJ;obtain rfl:cc=ic s.js all (bh s.js k):=by have:=cf.symm.trans (Ig.out.2 (bh s.js k));simpa[Dy]using this
     cases xe:rB s.js all k with
     |true=>
      have t3:(ic s.js all (bh s.js k)==(k:Int))=true:=xe;have e:=DB.out;rw[xe,if_pos rfl]at e;have HE:=Lib.hid e;clear e cf zJ xe;go_wp2_with(at_builtin;refine iY w5 #[.int .i64 k] _ rfl _ _ 106 rfl (w3.heap.size+1) wT _ _ _ rfl DG.out rfl rfl ?c1 ?c2 ?c3 ?c4 ?_);case c1=>first|rfl|(intro u hu;simp at hu;subst hu;rfl)
      case c2=>simp[maxLen];omega
      case c3=>omega
      case c4=>exact OY
      intro v7 w7 zK vk;have hz7:w3.heap.size+1≤(w5.alloc (.cells #[.int .i64 k] 3)).heap.size:=by simp;omega
      have ed:Below w3.heap.size w3 w7:=(aj lp.out _).grown vk (by omega) (fun g hg=>by have:=(DG.out.lt g hg).1;omega);have OZ:=Ic xd.out (w':=w7) (by rw[vk.block _ (by omega) (fun e=>by have:=(DG.out.lt _ e.symm).1;omega),Below.heap_alloc _ _ _ xd.out.lt]);have R:Dz s.js all w3 DD v7 (.int .i64 ((j:Int)+1)) w7:=⟨j+1,by go_num,bP,OZ,ed,Nat.le_trans hz7 vk.size,by rw[HE.out];simpa[lZ]using zK⟩;have HR:=Lib.hid R;clear R zK vk ed OZ;go_wp2;refine⟨?_,by simp[intOf];omega⟩
      have R:=HR.out;first|exact R|((repeat apply Exists.intro);exact⟨R,rfl⟩)
     |false=>have t3:(ic s.js all (bh s.js k)==(k:Int))=false:=xe;have e:=DB.out;rw[xe,if_neg (by decide),List.append_nil]at e;have HE:=Lib.hid e;have R:Dz s.js all w3 DD (.slice av (qg s.js all j).length DE) (.int .i64 ((j:Int)+1)) w5:=⟨j+1,by go_num,bP,xd.out,lp.out,OY,by rw[HE.out];exact DG.out⟩;have HR:=Lib.hid R;clear e cf zJ xe R;go_wp2;refine⟨?_,by simp[intOf];omega⟩;have R:=HR.out;first|exact R|((repeat apply Exists.intro);exact⟨R,rfl⟩)
    ·have t2:decide ((j:Int)<(all.length:Int))=false:=decide_eq_false (by omega);have dM:decide (j<all.length)=false:=decide_eq_false bP;obtain rfl:j=all.length:=by omega
     have O0:qg s.js all all.length=et s.js all:=by unfold qg et;rw[List.take_length]
     rw[O0]at HOW zo;have aj4:=cF.out.size;have gm:Rd (dY w wr) wr (.slice av (et s.js all).length DE) (oO (et s.js all)):=mY HOW.out (C8 _) (fun g hg=>⟨by have:=(HOW.out.lt g hg).1;omega,(HOW.out.lt g hg).2⟩);have xg:=Lib.hid gm;have HF:=Lib.hid (aF cF.out dE);rw[O0];clear gm rD dE az;go_wp2;go_ret2;first|exact⟨_,rfl,xg.out,HF.out⟩|(rw[If.out];exact⟨_,rfl,xg.out,HF.out⟩)
def jh(js:List JN)(l:List Nat)(key:ByteArray):Bool:=l.any fun k=>decide (bh js k=key)
theorem aaY(js:List JN)(l:List Nat)(k:Nat)(key:ByteArray):jh js (l++[k]) key=(jh js l key||decide (bh js k=key)):=by simp[jh]
def Ih(js:List JN)(all:List Nat)(key:ByteArray)(W:World)(f t k:Value)(wr:World):Prop:=∃(j:Nat),k=.int .i64 j∧j≤all.length∧f=.int .i64 (ic js (all.take j) key)∧t=.bool (jh js (all.take j) key)∧Below W.heap.size W wr
def aaZ(w:World)(js:List JN)(all:List Nat)(key:ByteArray)(x:JN)(e:Ending)(w':World):Prop:=(jh js all key=true∧e=.returned (.tuple #[.int .i64 (ic js all key),.nilIface])∧Below w.heap.size w w')∨(jh js all key=false∧∃u,e=.returned (.tuple #[.int .i64 0,.iface 85 (.pointer (some u))])∧dK w 30 x.at_ (.iface 85 (.pointer (some u))) w')
theorem aa0(w:World)(base D T:Nat)(s:PS)(nodes:Int)(tv:Value)(ns:List aW)(i:Nat)(x:JN)(key:ByteArray)(h:gx w base D s nodes T tv ns)(hj:s.js.length≤100000)(hx:s.js[i]?=some x)(h6:x.kind=6):Calls Tryz.prog 52 #[an D,.int .i64 i,.string key] w (aaZ w s.js (kids s.aa i) key x):=by
 have jZ:=(List.getElem?_eq_some_iff.1 hx).1;have hl:=h.len;have s8:=h.de.len;have cD:=h.cD;have oX:=ak h.doc;have OF:=Lib.hid (fun ob(kv:Value)(hk:Rd (Own (w.alloc ob)) (w.alloc ob) kv (.list 1 (([6]:List Int).map (.int .i64))))=>vg (w.alloc ob) base D T s nodes tv ns i kv [6] (h.below (aj (Below.refl _ _) ob)) (by omega) hk (by decide))
 have K6:=Lib.hid (show Rd (Own (w.alloc (.cells #[.int .i64 6] 3))) (w.alloc (.cells #[.int .i64 6] 3)) (.slice (some ⟨w.heap.size,0,none⟩) 1 1) (.list 1 (([6]:List Int).map (.int .i64)))from by
  have ho:=World.ownsRow_lit (base:=w.heap.size) (e:=3) (size:=1) w #[.int .i64 6] 1 (Nat.le_refl _) (by decide) rfl;refine mY ho ⟨rfl,fun j u d hu hd=>?_⟩ (fun g hg=>(ho.lt g hg).2)
  cases j with
  |zero=>simp at hu hd;subst hu;subst hd;exact .int _ _
  |succ j=>simp at hu)
 have ar:=Lib.hid (fun ob:Obj=>aj (Below.refl _ w) ob);have H:=Lib.hid h;have HX:=Lib.hid hx;obtain⟨all,qh⟩:∃all,kids s.aa i=all:=⟨_,rfl⟩;rw[qh];have If:=Lib.hid qh;have fm:all.length≤s.aa.length:=by rw[←qh];exact zh s.aa i
 have nJ:∀k∈all,k<s.js.length:=fun k hk=>by rw[←qh]at hk;have:=(fk.1 hk).2.1;omega
 have OT:=Lib.hid nJ;clear h hx qh nJ;go_enter Tryz.func52,Tryz.ntmps52;go_wp2_with fail;refine(OF.out _ _ K6.out).mono ?_;intro e w2 hp
 have sF:e=.returned (.tuple #[.agg #[.int .i64 x.kind,.string x.key,.string x.text,.int .i64 x.at_],.nilIface])∧Below (w.alloc (.cells #[.int .i64 6] 3)).heap.size (w.alloc (.cells #[.int .i64 6] 3)) w2:=by
  rcases hp with⟨i',x',hi,uH,h⟩|⟨hn,_⟩
  ·obtain rfl:i=i':=by omega
   obtain rfl:x'=x:=by rw[HX.out]at uH;exact(Option.some.inj uH).symm
   rcases h with⟨_,h1,h2⟩|⟨h1,_⟩
   ·exact⟨h1,h2⟩
   ·exact absurd (by rw[h6];simp) h1
  ·omega
 obtain⟨rfl,ah⟩:=sF;have aP:=Lib.hid (fun ob=>aj (aF (ar.out _) ah) ob);clear hp ah;have tn:∀ob,(w2.alloc ob).cell? ⟨D,0,none⟩=some (an T):=fun ob=>(aK (aP.out ob) oX 0).trans cD;have KD:=Lib.hid (fun ob=>by have:=G1 T tv ns s.aa nodes i (w2.alloc ob) ((H.out.below (aP.out ob)).tree) H.out.de (by omega) (by omega);rw[If.out]at this;exact this);go_wp2_with fail;refine(KD.out _).mono ?_;rintro e w3⟨v3,rfl,iu,aw⟩;have cF:=Lib.hid (aF (aP.out _) aw)
 have hnz:w2.heap.size<w3.heap.size:=by have:=aw.size;simp at this;omega
 have gG:=aK aw (b:=w2.heap.size) (by simp);have hn3:w3.cell? ⟨w2.heap.size,3,none⟩=some (.int .i64 x.at_):=by rw[gG];simp
 obtain⟨a,c,rfl,_,fh,dg⟩:=iu.oT;have zG:∀j(hj:j<all.length),∃b off,a=some ⟨b,off,none⟩∧b<w3.heap.size∧w3.cell? ⟨b,off+j,none⟩=some (.int .i64 (all[j]:Nat)):=fun j hj=>by obtain⟨b,off,h1,h2,h3⟩:=dg (by omega);exact⟨b,off,h1,h2.2,h3 j hj⟩
 have oY:=Lib.hid zG;have DA:=Lib.hid (fun(W:World)(hW:Below w3.heap.size w3 W)(k:Nat)=>OI W base D T s nodes tv ns k (H.out.below (aF cF.out hW)) (by omega));clear aw iu dg zG tn KD OF K6 aP gG;go_wp2_with fail;go_loopw[10,11,31](Ih s.js all key w3)(fun _ _ k _=>all.length-(intOf k).toNat);case atStart=>exact⟨0,rfl,Nat.zero_le _,rfl,rfl,Below.refl _ _⟩
 case round=>
  obtain⟨j,rfl,hja,rfl,rfl,dE⟩:=hrel;by_cases hlt:j<all.length
  ·have t1:decide ((j:Int)<(all.length:Int))=true:=decide_eq_true (by omega);have aT:decide (j<all.length)=true:=decide_eq_true hlt;have q1:IntKind.i64.wrap ((j:Int)+1)=(j:Int)+1:=IntWalk.i64_in _ (by omega);obtain⟨b,off,rfl,ry,hcc⟩:=oY.out j hlt;have OU:=(aK dE ry (off+j)).trans hcc;have eQ:all.take (j+1)=all.take j++[all[j]]:=List.take_succ_eq_append_getElem hlt;generalize all[j]=k at*;have DK:=Lib.hid (DA.out wr dE k);have eG:=OO s.js (all.take j) k key
   have oQ:=aaY s.js (all.take j) k key;rw[←eQ]at eG oQ;have gK:=Lib.hid dE;by_cases fW:bh s.js k=key
   ·have t3:=iL fW;rw[if_pos fW]at eG;rw[decide_eq_true fW,Bool.or_true]at oQ;have qi:=Lib.hid eG;have xh:=Lib.hid oQ;generalize bh s.js k=ky at*;clear eQ dE hcc eG oQ fW;go_wp2_with fail;refine DK.out.mono ?_;rintro e w5⟨rfl,bg⟩;have R:Ih s.js all key w3 (.int .i64 k) (.bool true) (.int .i64 ((j:Int)+1)) w5:=⟨j+1,by go_num,hlt,by rw[qi.out],by rw[xh.out],aF gK.out bg⟩;have HR:=Lib.hid R;clear R bg;go_wp2;refine⟨?_,by simp[intOf];omega⟩;have R:=HR.out
    first|exact R|((repeat apply Exists.intro);exact⟨R,rfl⟩)
   ·have t3:=mX fW;rw[if_neg fW]at eG;rw[decide_eq_false fW,Bool.or_false]at oQ;have qi:=Lib.hid eG;have xh:=Lib.hid oQ;generalize bh s.js k=ky at*;clear eQ dE hcc eG oQ fW;go_wp2_with fail;refine DK.out.mono ?_;rintro e w5⟨rfl,bg⟩;have R:Ih s.js all key w3 (.int .i64 (ic s.js (all.take j) key)) (.bool (jh s.js (all.take j) key)) (.int .i64 ((j:Int)+1)) w5:=⟨j+1,by go_num,hlt,by rw[qi.out],by rw[xh.out],aF gK.out bg⟩;have HR:=Lib.hid R;clear R bg;go_wp2;refine⟨?_,by simp[intOf];omega⟩
    have R:=HR.out;first|exact R|((repeat apply Exists.intro);exact⟨R,rfl⟩)
  ·have t1:decide ((j:Int)<(all.length:Int))=false:=decide_eq_false (by omega);have aT:decide (j<all.length)=false:=decide_eq_false hlt;obtain rfl:j=all.length:=by omega
   rw[List.take_length];have N_:=(aK dE hnz 3).trans hn3;have gK:=Lib.hid (aF cF.out dE);have FL:=Lib.hid (fails 30 x.at_ wr);have HAN:=Lib.hid (show∀b,jh s.js all key=b→jh s.js all key=b from fun _ h=>h)
   cases DH:jh s.js all key with
   |true=>have Ii:=Lib.hid DH;clear dE DH;go_wp2;go_ret2;exact .inl ⟨Ii.out,rfl,gK.out⟩
   |false=>have Ii:=Lib.hid DH;clear dE DH;go_wp2_with fail;refine FL.out.mono ?_;rintro e w5⟨u,rfl,hf⟩;obtain⟨p,rfl⟩:=hf.form;have HF:=Lib.hid (hf.after gK.out);clear hf;go_wp2;go_ret2;exact .inr ⟨Ii.out,p,rfl,HF.out⟩
end Go.Proofs.YtcaiibkgajhohaaGreatDoor
