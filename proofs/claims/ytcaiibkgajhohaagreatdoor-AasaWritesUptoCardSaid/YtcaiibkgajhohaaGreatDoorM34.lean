/- waybill: lemmas and walks, printed from longer texts. -/
import Derived.Test.YtcaiibkgajhohaaGreatDoorM33
import Derived.Lib.SplitLaws
import Derived.Lib.CountLaws
import Derived.Lib.IndexLaws
import Derived.Lib.IndexBytes
set_option maxRecDepth 100000
set_option maxHeartbeats 16000000
namespace Go.Proofs.YtcaiibkgajhohaaGreatDoor
open Go.RowKit
def Ba(B:ByteArray):Option ie:=match fU B ⟨131072,64,20000⟩with
  |.ok s=>DN cg s.js s.aa
  |.no _ _=>none
def asD(x:ie):List a_:=[.list 2 (x.df.flatMap lC),.list 2 (x.vars.flatMap o7)]
def tQ(w:World)(r:Option ie)(e:Ending)(w':World):Prop:=Below w.heap.size w w'∧match r with
  |none=>∃u:Nat,e=.returned (.tuple #[.agg #[.slice none 0 0,.slice none 0 0],.iface 85 (.pointer (some ⟨u,0,none⟩))])
  |some x=>∃va vr:Value,e=.returned (.tuple #[.agg #[va,vr],.nilIface])∧va.oneCell'=true∧vr.oneCell'=true∧bp (dY w w') w' [va,vr] (asD x)
theorem aC.new{W0:World}{D:Nat}:aC W0 (W0.alloc (.cells #[an D,.slice none 0 0,.nilIface] 69)) (.slice none 0 0) (W0.alloc (.cells #[an D,.slice none 0 0,.nilIface] 69)) D ⟨false,[]⟩:=⟨⟨(aj (Below.refl _ W0) _),by simp,dN.nil⟩,ag.refl _ _,.nilIface,heap_alloc_new _ _,.inl ⟨rfl,rfl⟩⟩
theorem Bb{w w':World}(hb:Below w.heap.size w w')(u:Nat):tQ w none (.returned (.tuple #[.agg #[.slice none 0 0,.slice none 0 0],.iface 85 (.pointer (some ⟨u,0,none⟩))])) w':=⟨hb,u,rfl⟩
theorem xZ{w w':World}(hb:Below w.heap.size w w')(a b:Value):Below w.heap.size w ((w'.setCell ⟨w.heap.size,0,none⟩ a).setCell ⟨w.heap.size,1,none⟩ b):=(hb.setCell (p:=⟨w.heap.size,0,none⟩) (Nat.le_refl _) _).setCell (p:=⟨w.heap.size,1,none⟩) (Nat.le_refl _) _
theorem aeN(w:World)(bv:Value)(B:ByteArray)(h:Rd (Own w) w bv (dF B))(he:gI w)(hS:ij w)(hz:B.size≤100000)(hN:∀s,fU B ⟨131072,64,20000⟩=.ok s→(∀id,(iD s.js id).size≤1100000)∧(∀k,(bh s.js k).size≤1100000)∧s.js.length≤100000):Calls Tryz.prog 9 #[bv] w (tQ w (Ba B)):=by
 have XA:=heap_alloc_new w (.cells #[.slice none 0 0,.slice none 0 0] 27);have BA:=aj (Below.refl _ w) (.cells #[.slice none 0 0,.slice none 0 0] 27);obtain⟨Wa,bU⟩:∃Wa,w.alloc (.cells #[.slice none 0 0,.slice none 0 0] 27)=Wa:=⟨_,rfl⟩;rw[bU]at XA BA;have PS:=Lib.hid (aaF Wa bv B ⟨131072,64,20000⟩ (h.ext BA) (he.ext BA) (by omega));have XA:=Lib.hid XA;have BA:=Lib.hid BA;have vO:=Lib.hid bU;have HS:=Lib.hid hS;have Sf:=Lib.hid hN;obtain⟨RR,aq⟩:∃RR,Ba B=RR:=⟨_,rfl⟩;rw[aq];unfold Ba at aq
 cases kA:fU B ⟨131072,64,20000⟩with
 |no k i=>
  rw[kA]at PS aq;have aO:=Lib.hid (show RR=none from aq.symm);clear kA aq h he hS hN bU;go_enter Tryz.func9,Tryz.ntmps9;go_wp2_with fail;rw[vO.out];refine PS.out.mono ?_;intro e w2 hp;obtain⟨u,rfl,hr,hb⟩:=hp;have J8:=Lib.hid (wG 33 0 _ _ w2 hr);have X2:=(hb.block _ (ak XA.out)).trans XA.out;have c0:=Lib.cell_of_heap X2 0;have c1:=Lib.cell_of_heap X2 1;have g0:=fun i=>Go.Joins.unfrozen_of_block X2 i;have B2:=Lib.hid (aF BA.out hb);have z2:=ak X2;clear hr hb X2;go_wp2_with fail;refine J8.out.mono ?_;rintro e w3⟨rfl,rfl⟩
  have HP:=Lib.hid (show tQ w RR _ _ by rw[aO.out];exact Bb (aj (xZ B2.out (.slice none 0 0) (.slice none 0 0)) (.cells #[.int .i64 33,.int .i64 0,.iface 85 (.pointer (some u))] 89)) w2.heap.size);go_wp2;refine bodyPost_ret (v:=.tuple #[.agg #[.slice none 0 0,.slice none 0 0],.iface 85 (.pointer (some ⟨w2.heap.size,0,none⟩))]) (by simp[results,Tryz.results9,go_sem,c0,c1,z2]) rfl HP.out
 |ok s=>
  rw[kA]at PS aq;dsimp only at aq;obtain⟨hT,hK,ix⟩:=hN s kA;unfold DN at aq;dsimp only at aq;clear kA hN bU;go_enter Tryz.func9,Tryz.ntmps9;go_wp2_with fail;rw[vO.out];refine PS.out.mono ?_;intro e w2 hp;obtain⟨D,T,tv,ns,rfl,hd,hb⟩:=hp;have HV:=dA.mk hd ix (fun k=>by have:=hK k;unfold maxLen;omega);have Sl:ij w2:=(hS.ext BA.out).ext hb;have X2:=Lib.hid ((hb.block _ (ak XA.out)).trans XA.out);have B2:=Lib.hid (aF BA.out hb)
  have J9:=Lib.hid (fun W(hR:aC w2 (w2.alloc (.cells #[an D,.slice none 0 0,.nilIface] 69)) (.slice none 0 0) W D ⟨false,[]⟩)=>qt HV ⟨false,[]⟩ 0 6 W hR);obtain⟨r0,nh⟩:∃r,ba s.js ⟨false,[]⟩ 0 6=r:=⟨_,rfl⟩;have x3:r0.1=!r0.2.bad:=by rw[←nh];rfl
  have EK:r0.2.vars=[]:=by rw[←nh];rfl
  rw[nh]at J9 aq;have R0:=aC.new (W0:=w2) (D:=D);have BW:=aj (Below.refl _ w2) (.cells #[an D,.slice none 0 0,.nilIface] 69);obtain⟨W1,aH⟩:∃W1,w2.alloc (.cells #[an D,.slice none 0 0,.nilIface] 69)=W1:=⟨_,rfl⟩;rw[aH]at R0 J9 BW;have mc:=Lib.hid aH;have R0:=Lib.hid R0;have z2:=ak X2.out;have BW:=Lib.hid BW;clear hd hb nh aH h he hS PS;go_wp2_with fail;rw[mc.out];refine(J9.out W1 R0.out).mono ?_;rintro e w3⟨rfl,hp⟩;have P3:=Lib.hid hp;have hX:w.heap.size≠w2.heap.size:=by omega
  have X3:=Lib.hid (bB hp.only ((BW.out.block _ (ak X2.out)).trans X2.out) hX);clear hp
  cases bj:r0.1 with
  |false=>
   rw[bj,if_neg (by decide)]at aq;have aO:=Lib.hid aq.symm;have fE:r0.2.bad=true:=by rw[bj]at x3;cases hq:r0.2.bad;rw[hq]at x3;cases x3;rfl
   obtain⟨ev,c0,c1,c2,_,da⟩:=P3.out.re.cells;rw[fE]at da;obtain⟨e,_⟩|⟨_,bE,rfl⟩:=da
   ·cases e
   have x0:=Lib.cell_of_heap X3.out 0;have x1:=Lib.cell_of_heap X3.out 1;have g0:=fun i=>Go.Joins.unfrozen_of_block X3.out i;have B3:=Lib.hid (aF B2.out P3.out.re.below);have HP:=Lib.hid (fun W(hb:Below w.heap.size w W)=>(show tQ w RR _ _ by rw[aO.out];exact Bb hb bE));clear bj x3 EK aq fE;go_wp2_with fail;refine wp_region_noPanic ?_;go_region
   all_goals(refine NoPanic.normal ?_;go_wp2;refine bodyPost_ret (v:=.tuple #[.agg #[.slice none 0 0,.slice none 0 0],.iface 85 (.pointer (some ⟨bE,0,none⟩))]) (by simp[results,Tryz.results9,go_sem,x0,x1]) rfl (HP.out _ ?_);exact xZ B3.out.drew _ _)
  |true=>
   rw[bj,if_pos rfl]at aq;have ME:=Lib.hid (qw HV r0.2 0 fM w3 P3.out.re);obtain⟨me,gT⟩:∃me,dV s.js s.aa r0.2 0 fM=me:=⟨_,rfl⟩;rw[gT]at ME aq;clear gT
   cases me with
   |none=>
    have aO:=Lib.hid (show RR=none from aq.symm);unfold ez at ME;have WR:=Lib.hid (fun W(hR:aC w2 W1 (.slice none 0 0) W D r0.2)=>vo HV r0.2 0 30 W hR);have Bc:=Lib.hid (fun W(hR:aC w2 W1 (.slice none 0 0) W D r0.2.fail)=>qt HV r0.2.fail 0 6 W hR);have Sm:ba s.js r0.2.fail 0 6=(false,r0.2.fail):=rfl;rw[Sm]at Bc;have fE:r0.2.fail.bad=true:=rfl;clear bj x3 EK aq Sm;go_wp2_with fail;refine ME.out.mono ?_;rintro e w4⟨rfl,aY⟩;have H4:=Lib.hid (P3.out.re.ext aY)
    have X4:=Lib.hid ((aY.block _ (ak X3.out)).trans X3.out);clear aY;go_wp2_with fail;refine(WR.out w4 H4.out).mono ?_;rintro e w5⟨rfl,hp⟩;have H5:=Lib.hid hp.re;have X5:=Lib.hid (bB hp.only X4.out hX);clear hp;go_wp2_with fail;refine(Bc.out w5 H5.out).mono ?_;rintro e w6⟨rfl,hp⟩;have X6:=bB hp.only X5.out hX;obtain⟨ev,c0,c1,c2,_,da⟩:=hp.re.cells;rw[fE]at da;obtain⟨e,_⟩|⟨_,bE,rfl⟩:=da
    ·cases e
    have x0:=Lib.cell_of_heap X6 0;have x1:=Lib.cell_of_heap X6 1;have g0:=fun i=>Go.Joins.unfrozen_of_block X6 i;have BX:=Lib.hid (aF B2.out hp.re.below);have HP:=Lib.hid (fun W(hb:Below w.heap.size w W)=>(show tQ w RR _ _ by rw[aO.out];exact Bb hb bE));clear fE hp X6;go_wp2_with fail;refine wp_region_noPanic ?_;go_region
    all_goals(refine NoPanic.normal ?_;go_wp2;refine bodyPost_ret (v:=.tuple #[.agg #[.slice none 0 0,.slice none 0 0],.iface 85 (.pointer (some ⟨bE,0,none⟩))]) (by simp[results,Tryz.results9,go_sem,x0,x1]) rfl (HP.out _ ?_);exact xZ BX.out.drew _ _)
   |some k=>
    unfold ez at ME;dsimp only at aq;have Bc:=Lib.hid (fun W(hR:aC w2 W1 (.slice none 0 0) W D r0.2)=>qt HV r0.2 k 6 W hR);obtain⟨r1,EL⟩:∃r,ba s.js r0.2 k 6=r:=⟨_,rfl⟩;have Be:r1.1=!r1.2.bad:=by rw[←EL];rfl
    have J_:r1.2.vars=[]:=by rw[←EL];exact EK
    rw[EL]at Bc aq;clear EL bj x3 EK;go_wp2_with fail;refine ME.out.mono ?_;rintro e w4⟨rfl,aY⟩;have H4:=Lib.hid (P3.out.re.ext aY);have X4:=Lib.hid ((aY.block _ (ak X3.out)).trans X3.out);clear aY;go_wp2_with fail;refine(Bc.out w4 H4.out).mono ?_;rintro e w5⟨rfl,hp⟩;have X5:=bB hp.only X4.out hX;have H5:=Lib.hid hp.re;clear hp
    cases f_:r1.1 with
    |false=>
     rw[f_,if_neg (by decide)]at aq;have aO:=Lib.hid (show RR=none from aq.symm);have fE:r1.2.bad=true:=by rw[f_]at Be;cases hq:r1.2.bad;rw[hq]at Be;cases Be;rfl
     obtain⟨ev,c0,c1,c2,_,da⟩:=H5.out.cells;rw[fE]at da;obtain⟨e,_⟩|⟨_,bE,rfl⟩:=da
     ·cases e
     have x0:=Lib.cell_of_heap X5 0;have x1:=Lib.cell_of_heap X5 1;have g0:=fun i=>Go.Joins.unfrozen_of_block X5 i;have BX:=Lib.hid (aF B2.out H5.out.below);have HP:=Lib.hid (fun W(hb:Below w.heap.size w W)=>(show tQ w RR _ _ by rw[aO.out];exact Bb hb bE));clear fE f_ Be J_ aq X5;go_wp2_with fail;refine wp_region_noPanic ?_;go_region
     all_goals(refine NoPanic.normal ?_;go_wp2;refine bodyPost_ret (v:=.tuple #[.agg #[.slice none 0 0,.slice none 0 0],.iface 85 (.pointer (some ⟨bE,0,none⟩))]) (by simp[results,Tryz.results9,go_sem,x0,x1]) rfl (HP.out _ ?_);exact xZ BX.out.drew _ _)
    |true=>
     rw[f_,if_pos rfl]at aq;have X5:=Lib.hid X5;have DF:=Lib.hid (P8 HV r1.2 k true true w5 H5.out);have Ka:=(DO s.js s.aa r1.2 k true true).vars.trans J_;obtain⟨d,hd⟩:∃d,ly s.js s.aa r1.2 k true true=d:=⟨_,rfl⟩;rw[hd]at DF aq Ka;have VR:=Lib.hid (fun W(hR:aC w2 W1 (.slice none 0 0) W D d.2)=>aey HV Sl hT hK d.2 k W hR Ka);obtain⟨v,hv⟩:∃v,nL cg s.js s.aa d.2 k=v:=⟨_,rfl⟩;rw[hv]at VR aq;have DS:=Lib.hid (fun Wv vv W(hR:aC w2 Wv vv W D v)=>aea HV Sl hT hK v k d.1.1 d.1.2 W hR)
     obtain⟨l,hl⟩:∃l,nN cg s.js s.aa v k d.1.1 d.1.2=l:=⟨_,rfl⟩;rw[hl]at DS aq;have aO:=Lib.hid aq;clear hd hv hl Ka f_ Be J_ aq;go_wp2_with fail;refine DF.out.mono ?_;rintro e w6⟨rfl,hp⟩;have X6:=Lib.hid (bB hp.only X5.out hX);have H6:=Lib.hid hp.re;have X7:=heap_alloc_new w6 (.cells #[.bool d.1.1,.bool d.1.2] 75);have B7:=aj (Below.refl _ w6) (.cells #[.bool d.1.1,.bool d.1.2] 75);obtain⟨W7,vK⟩:∃W7,w6.alloc (.cells #[.bool d.1.1,.bool d.1.2] 75)=W7:=⟨_,rfl⟩
     obtain⟨F,hF⟩:∃F,w6.heap.size=F:=⟨_,rfl⟩;rw[vK]at X7 B7;rw[hF]at X7;have hF0:F≠w2.heap.size:=by have:=H6.out.lt;omega
     have HW7:=Lib.hid vK;have HF:=Lib.hid hF;have H7:=Lib.hid (H6.out.ext B7);have Y7:=Lib.hid ((B7.block _ (ak X6.out)).trans X6.out);have X7:=Lib.hid X7;clear hp vK hF B7;go_wp2_with fail;rw[HW7.out];simp only[HF.out];refine(VR.out W7 H7.out).mono ?_;rintro e w8⟨rfl,⟨Wv,vv,Sn⟩,fK⟩;have H8:=Lib.hid Sn;have X8:=bB fK X7.out hF0;have Y8:=Lib.hid (bB fK Y7.out hX);have f0:=Lib.cell_of_heap X8 0;have f1:=Lib.cell_of_heap X8 1;clear Sn fK X8;go_wp2_with fail;refine(DS.out Wv vv w8 H8.out).mono ?_;intro e w9 hg
     obtain⟨vd,rfl,Sp,gm,mD⟩:=hg;have H9:=Lib.hid mD.re;have Y9:=Lib.hid (bB mD.only Y8.out hX);obtain⟨EM,nD,cD,rfl,_⟩:=gm.jT;have ll:=mD.re.vars.row.turn mD.re.only (fun b e=>by omega);obtain⟨EO,EP,rfl,_⟩:=aM (kN ll);have xY:=ll.rd;have zl:w.heap.size<w8.heap.size:=ak Y8.out;have BX:=Lib.hid (aF B2.out mD.re.below);obtain⟨ev,c0,c1,c2,_,da⟩:=mD.re.cells;have x0:=Lib.cell_of_heap Y9.out 0;have x1:=Lib.cell_of_heap Y9.out 1;have g0:=fun i=>Go.Joins.unfrozen_of_block Y9.out i;have aq:=aO.out
     rcases da with⟨hb,rfl⟩|⟨hb,bE,rfl⟩
     ·rw[hb,if_neg (by decide)]at aq;have hO:ag (fun b=>b=w.heap.size) w9 ((w9.setCell ⟨w.heap.size,0,none⟩ (.slice EM nD cD)).setCell ⟨w.heap.size,1,none⟩ (.slice EO l.2.vars.length EP)):=((ag.refl (fun b=>b=w.heap.size) w9).set (p:=⟨w.heap.size,0,none⟩) (fun _=>rfl) _).set (p:=⟨w.heap.size,1,none⟩) (fun _=>rfl) _;have RD:=JU (w:=w) gm hO (fun k hk=>.inl (by omega)) (Nat.le_of_lt zl)
      have RV:=xY.mono (S':=dY w ((w9.setCell ⟨w.heap.size,0,none⟩ (.slice EM nD cD)).setCell ⟨w.heap.size,1,none⟩ (.slice EO l.2.vars.length EP))) (fun b hb=>hO.block b hb.2 (by omega)) (fun b hb=>⟨by omega,Nat.lt_of_lt_of_le hb.2 hO.size⟩);have HP:=Lib.hid (show tQ w RR (.returned (.tuple #[.agg #[.slice EM nD cD,.slice EO l.2.vars.length EP],.nilIface])) _ by rw[←aq];exact⟨xZ BX.out _ _,_,_,rfl,rfl,rfl,.cons RD (.cons RV .nil)⟩);clear RD RV hO gm ll xY hb aq mD Sp;go_wp2
      refine bodyPost_ret (v:=.tuple #[.agg #[.slice EM nD cD,.slice EO l.2.vars.length EP],.nilIface]) (by simp[results,Tryz.results9,go_sem,x0,x1]) rfl HP.out
     ·rw[hb,if_pos rfl]at aq;have HP:=Lib.hid (fun W(hb:Below w.heap.size w W)=>(show tQ w RR _ _ by rw[←aq];exact Bb hb bE));clear gm ll xY hb aq mD Sp;go_wp2_with fail;refine wp_region_noPanic ?_;go_region;all_goals(refine NoPanic.normal ?_;go_wp2;refine bodyPost_ret (v:=.tuple #[.agg #[.slice none 0 0,.slice none 0 0],.iface 85 (.pointer (some ⟨bE,0,none⟩))]) (by simp[results,Tryz.results9,go_sem,x0,x1]) rfl (HP.out _ ?_);exact xZ BX.out.drew _ _)
theorem ae4{B:ByteArray}(hB:B.size≤100000):∀s,fU B ⟨131072,64,20000⟩=.ok s→(∀id,(iD s.js id).size≤1100000)∧(∀k,(bh s.js k).size≤1100000)∧s.js.length≤100000:=fun s h=>by
 refine⟨fun id=>?_,fun k=>Nat.le_trans (ae1 h k) (by omega),Nat.le_trans (ae3 h) hB⟩;unfold iD;split
 ·rename_i x hx;exact Nat.le_trans (aeT h x (List.mem_of_getElem? hx)).ts (by omega)
 ·exact Nat.zero_le _
def tW:ByteArray:=⟨#[123,34,97,112,112,108,105,110,107,115,34,58,123,34,100,101,116,97,105,108,115,34,58,91,123,34,97,112,112,73,68,115,34,58,91,34,65,66,67,68,69,49,50,51,52,53,46,97,34,93,44,34,99,111,109,112,111,110,101,110,116,115,34,58,91,123,34,47,34,58,34,47,98,117,121,47,42,34,125,93,125,93,125,125]⟩
def SJ(r:Option ie):Bool:=match r with
  |some ⟨[⟨[_],[x]⟩],_⟩=>decide (x.path=⟨#[47,98,117,121,47,42]⟩)
  |_=>false
theorem ae5:SJ (Ba tW)=true:=by kernel_rfl
theorem afs(c:Nat):(cO c).length≤6:=(C5 c).2
theorem TC{α β:Type}(g:α→List β)(k:Nat)(h:∀x,(g x).length≤k):∀l:List α,(l.flatMap g).length≤k*l.length
 |[]=>by simp
 |x::l=>by have:=TC g k h l;have:=h x;rw[List.flatMap_cons,List.length_append,List.length_cons,Nat.mul_add];omega
theorem Kn(B:ByteArray):(aG B).size≤6*B.size+2:=by rw[PD];unfold ny;have:=TC cO 6 afs (dC B);(have e:(dC B).length=B.size:=by unfold dC;rw[List.length_map,Array.length_toList];rfl);rw[e]at this;rw[List.length_cons,List.length_append,List.length_singleton];omega
theorem Bj:∀l:List ByteArray,(J l).size≤(l.map fun x=>x.size+1).sum:=by
 intro l
 have key:∀l:List (List UInt8),(Lib.join l [44]).length≤(l.map fun x=>x.length+1).sum:=by
  intro l
  cases l with
  |nil=>simp[Lib.join_nil]
  |cons x l=>
   rw[Lib.join_cons,List.length_append,List.map_cons,List.sum_cons]
   have:∀l:List (List UInt8),(Lib.joinTail [44] l).length=(l.map fun x=>x.length+1).sum:=by
    intro l
    induction l with
    |nil=>rfl
    |cons y l ih=>simp[Lib.joinTail]at ih⊢;omega
   rw[this];omega
 have:=key (l.map (·.data.toList));rw[List.map_map]at this;have e:(J l).size=(Lib.join (l.map (·.data.toList)) [44]).length:=by unfold J;show(List.toArray _).size=_;simp
 rw[e];refine Nat.le_trans this (Nat.le_of_eq ?_);congr 1
theorem TD{l m:List Nat}(h:l.Perm m):l.sum=m.sum:=h.sum_nat
theorem qN{α:Type}{g h:α→Nat}:∀l:List α,(∀x∈l,g x≤h x)→(l.map g).sum≤(l.map h).sum
 |[],_=>by simp
 |x::l,hl=>by have:=qN l (fun y hy=>hl y (by simp[hy]));have:=hl x (by simp);simp;omega
theorem E0(a b:KV):gj a b=true↔ek b.1 a.1=false:=by unfold gj;simp
theorem TG(l:List KV):(l.mergeSort gj).Pairwise fun a b=>gj a b=true:=List.pairwise_mergeSort (fun a b c h1 h2=>by rw[E0]at*;exact EY h2 h1) (fun a b=>by
 cases h1:gj a b with
 |true=>rfl
 |false=>(have:ek b.1 a.1=true:=by unfold gj at h1;simpa using h1);have h2:=Kl this;simp[gj,h2]) l
theorem afw{l s:List KV}(hp:s.Perm l)(hs:s.Pairwise fun a b=>gj a b=true)(hi:∀a∈l,∀b∈l,a.1=b.1→a=b):s=l.mergeSort gj:=List.Perm.eq_of_pairwise (le:=fun a b=>gj a b=true) (fun a b ha hb h1 h2=>by rw[E0]at h1 h2;exact hi a (hp.mem_iff.1 ha) b (List.mem_mergeSort.1 hb) (EW h2 h1)) hs (TG l) (hp.trans (List.mergeSort_perm l gj).symm)
theorem Ko{l s:List KV}(hp:s.Perm l)(hs:s.Pairwise fun a b=>gj a b=true)(hi:∀a∈l,∀b∈l,a.1=b.1→a=b):dW l=⟨#[123]⟩++J (s.map eA)++⟨#[125]⟩:=by rw[afw hp hs hi];rfl
theorem afx{l s:List KV}(hp:s.Perm l)(hi:∀a∈l,∀b∈l,a.1=b.1→a=b):dW s=dW l:=by rw[Ko ((List.mergeSort_perm s gj).trans hp) (TG s) hi];rfl
structure Fl where
 vV:Bool
 twice:Bool
def Fl.code(f:Fl):Int:=if f.vV=true then 12 else if f.twice=true then 31 else 0
def Fl.add(f:Fl)(u t:Bool):Fl:=⟨f.vV||u,f.twice||t⟩
theorem Fl.add_add(f:Fl)(a b c d:Bool):(f.add a b).add c d=f.add (a||c) (b||d):=by simp[Fl.add,Bool.or_assoc]
theorem Fl.dO(f:Fl):f.add false false=f:=by simp[Fl.add]
def aN(s:ByteArray):Bool:=match dZ s 0 []with
  |.ok _=>true
  |.no _ _=>false
def aJ(s:ByteArray):Nat:=6*s.size+2
theorem tY(s:ByteArray):(aG s).size≤aJ s:=Kn s
def db(l:List ByteArray):Bool:=!decide l.Nodup
theorem Kq{a b:List ByteArray}(h:a.Perm b):db a=db b:=by unfold db;rw[decide_eq_decide.2 h.nodup_iff]
def kP(l:List ByteArray)(n:Nat):Bool:=(List.range n).any fun j=>decide (0<j∧bF l (j-1)=bF l j)
theorem afF(l:List ByteArray)(n:Nat):kP l (n+1)=(kP l n||decide (0<n∧bF l (n-1)=bF l n)):=by unfold kP;rw[List.range_succ,List.any_append];simp
theorem TH{l:List ByteArray}(hs:l.Pairwise fun a b=>ek b a=false):kP l l.length=db l:=by
 rw[Bool.eq_iff_iff];unfold kP db;rw[List.any_eq_true];simp only[List.mem_range,decide_eq_true_eq,Bool.not_eq_true',decide_eq_false_iff_not];constructor
 ·rintro⟨j,hj,h0,he⟩hn;have h1:j-1<l.length:=by omega
  have:=List.pairwise_iff_getElem.1 hn (j-1) j h1 hj (by omega);apply this;unfold bF at he;rw[List.getElem?_eq_getElem h1,List.getElem?_eq_getElem hj]at he;exact he
 ·intro hn;rw[List.nodup_iff_pairwise_ne,List.pairwise_iff_getElem]at hn;simp only[Classical.not_forall]at hn;obtain⟨i,j,hi,hj,ni,he⟩:=hn;have he:l[i]=l[j]:=Classical.not_not.1 he;refine⟨i+1,by omega,by omega,?_⟩;have h1:i+1<l.length:=by omega
  unfold bF;rw[show i+1-1=i from rfl,List.getElem?_eq_getElem hi,List.getElem?_eq_getElem h1];show l[i]=l[i+1];have ha:=List.pairwise_iff_getElem.1 hs i (i+1) hi h1 (by omega);by_cases sU:j=i+1
  ·subst sU;exact he
  ·have hb:=List.pairwise_iff_getElem.1 hs (i+1) j h1 hj (by omega);rw[←he]at hb;exact EW hb ha
theorem TI{l:List KV}(h:(l.map (·.1)).Nodup):∀a∈l,∀b∈l,a.1=b.1→a=b:=by
 intro a ha b hb he;obtain⟨i,hi,rfl⟩:=List.mem_iff_getElem.1 ha;obtain⟨j,hj,rfl⟩:=List.mem_iff_getElem.1 hb;have hp:=List.pairwise_iff_getElem.1 (List.nodup_iff_pairwise_ne.1 h);rcases Nat.lt_trichotomy i j with ni|rfl|ni
 ·exact absurd (by rw[List.getElem_map,List.getElem_map];exact he) (hp i j (by simpa using hi) (by simpa using hj) ni)
 ·rfl
 ·exact absurd (by rw[List.getElem_map,List.getElem_map];exact he.symm) (hp j i (by simpa using hj) (by simpa using hi) ni)
def E1(s:List KV):ByteArray:=⟨#[123]⟩++J (s.map eA)++⟨#[125]⟩
def cj(l:List KV):Nat:=(l.map fun p=>aJ p.1+p.2.size+2).sum+2
theorem TJ(s:List KV):(E1 s).size≤cj s:=by unfold E1 cj;rw[ByteArray.size_append,ByteArray.size_append];have h:=Bj (s.map eA);rw[List.map_map]at h;have h2:(s.map ((fun x=>x.size+1)∘eA)).sum≤(s.map fun p=>aJ p.1+p.2.size+2).sum:=qN _ (fun p _=>by show(eA p).size+1≤_;unfold eA;rw[ByteArray.size_append,ByteArray.size_append];have:=tY p.1;have e:(⟨#[58]⟩:ByteArray).size=1:=rfl;omega);have e1:(⟨#[123]⟩:ByteArray).size=1:=rfl;have e2:(⟨#[125]⟩:ByteArray).size=1:=rfl;omega
theorem E2{s l:List KV}(h:s.Perm l):cj s=cj l:=by unfold cj;rw[TD (h.map _)]
theorem TM{s l:List KV}(hp:s.Perm l)(hs:s.Pairwise fun a b=>gj a b=true)(hd:db (l.map (·.1))=false):E1 s=dW l:=by(have hn:(l.map (·.1)).Nodup:=by unfold db at hd;simpa using hd);exact(Ko hp hs (TI hn)).symm
theorem TN{s:List KV}(hs:s.Pairwise fun a b=>gj a b=true):(s.map (·.1)).Pairwise fun a b=>ek b a=false:=by rw[List.pairwise_map];exact hs.imp (fun h=>(E0 _ _).1 h)
theorem Kr{s:List KV}{j:Nat}{p:KV}(h:s[j]?=some p):bF (s.map (·.1)) j=p.1:=by unfold bF;rw[List.getElem?_map,h];rfl
def cH(l:List ByteArray):Bool:=l.any fun t=>!aN t
theorem Ks{a b:List ByteArray}(h:a.Perm b):cH a=cH b:=by unfold cH;rw[Bool.eq_iff_iff,List.any_eq_true,List.any_eq_true];exact⟨fun⟨x,hx,h2⟩=>⟨x,h.mem_iff.1 hx,h2⟩,fun⟨x,hx,h2⟩=>⟨x,h.mem_iff.2 hx,h2⟩⟩
theorem Kt(l:List ByteArray):(cC l).size≤(l.map fun t=>t.size+1).sum+2:=by unfold cC;rw[ByteArray.size_append,ByteArray.size_append];have h:=Bj l;have e1:(⟨#[91]⟩:ByteArray).size=1:=rfl;have e2:(⟨#[93]⟩:ByteArray).size=1:=rfl;omega
structure Tx(n:Nat)(ok:Bool)(spec T:ByteArray):Prop where
 size:T.size≤n
 eq:ok=true→T=spec
theorem Tx.of{n:Nat}{ok:Bool}{T:ByteArray}(h:T.size≤n):Tx n ok T T:=⟨h,fun _=>rfl⟩
def cw(a:aS):ByteArray:=a.bZ++⟨#[46]⟩++a.b7
def eo:ByteArray:=⟨#[102,97,108,115,101]⟩
def kc:ByteArray:=⟨#[116,114,117,101]⟩
def lL(l:List eI):List KV:=l.map fun i=>(i.name,aG i.value)
def Ku(x:aZ):List KV:=if x.cS=true then[(gy,aG x.query)]else if x.items=[]then[]else[(gy,dW (lL x.items))]
def aU(b:Bool)(k v:ByteArray):List KV:=if b=true then[(k,v)]else[]
def TO(x:aZ):List KV:=aU x.bM ee (aG x.bw)++aU x.bz dH (aG x.path)++Ku x++aU x.fold ew eo++aU x.cU fY kc++aU x.dG fe eo
def px(x:aZ):ByteArray:=dW (TO x)
def gD(x:aZ):Bool:=(x.bM&&!aN x.bw)||(x.bz&&!aN x.path)||(if x.cS=true then !aN x.query else x.items.any fun i=>!aN i.value||!aN i.name)
def di(x:aZ):Bool:=!x.cS&&db (x.items.map (·.name))
def fQ(x:aZ):Nat:=aJ x.bw+aJ x.path+aJ x.query+(x.items.map fun i=>aJ i.name+aJ i.value+2).sum+300
def TR(d:dr):List KV:=[(iC,cC (d.apps.map fun a=>aG (cw a))),(iR,cC (d.rules.map px))]
def qO(d:dr):ByteArray:=dW (TR d)
def gV(d:dr):Bool:=(d.apps.any fun a=>!aN (cw a))||d.rules.any gD
def jr(d:dr):Bool:=d.rules.any di
def fw(d:dr):Nat:=(d.apps.map fun a=>aJ (cw a)+1).sum+(d.rules.map fun x=>fQ x+1).sum+200
def py(v:cW):KV:=(v.name,cC (v.values.map aG))
def om(l:List cW):Bool:=l.any fun v=>!aN v.name||v.values.any fun t=>!aN t
def mM(l:List cW):Bool:=db (l.map (·.name))
def kQ(l:List cW):Nat:=(l.map fun v=>aJ v.name+(v.values.map fun t=>aJ t+1).sum+4).sum+2
def E_(a:ie):List KV:=(eJ,cC (a.df.map qO))::if a.vars=[]then[]else[(lx,dW (a.vars.map py))]
def Fa(a:ie):ByteArray:=dW [(fM,dW (E_ a))]
def gE(a:ie):Bool:=a.df.any gV||om a.vars
def gl(a:ie):Bool:=a.df.any jr||mM a.vars
def oq(a:ie):Nat:=(a.df.map fun d=>fw d+1).sum+kQ a.vars+600
theorem Kv{α:Type}(p q:α→Bool):∀l:List α,(l.any fun x=>p x||q x)=(l.any p||l.any q)
 |[]=>rfl
 |x::l=>by simp only[List.any_cons,Kv p q l];cases p x<;>cases q x<;>simp
theorem TW(s:ByteArray)(w:World):∃(W0:World)(cap:Nat),(convert 9 22 (.string s)).run Tryz.prog w=.ok (.slice (some ⟨w.heap.size,0,none⟩) s.size cap) W0∧s.size≤cap∧Below w.heap.size w W0∧w.heap.size<W0.heap.size∧(∀i,i<s.size→W0.cell? ⟨w.heap.size,i,none⟩=some (.int .u8 (af s i)))∧∀cs,W0.heap[w.heap.size]?≠some (.cells cs 5 (0,0)):=by
 have hcv:=run_bytes_of_string (P:=Tryz.prog) w 9 22 5 s Tryz.underlying9 Tryz.underlying22 Tryz.underlying5;have hx:(w.drew.alloc (.cells (bytesRow s (grownCap w s.size 0 5)) 5 ((bytesRow s (grownCap w s.size 0 5)).size,(bytesRow s (grownCap w s.size 0 5)).size+1))).heap[w.heap.size]?=some (.cells (bytesRow s (grownCap w s.size 0 5)) 5 ((bytesRow s (grownCap w s.size 0 5)).size,(bytesRow s (grownCap w s.size 0 5)).size+1)):=heap_alloc_new w.drew _
 refine⟨_,_,hcv,?_,⟨rfl,rfl,rfl,by simp,fun k hk=>Below.heap_alloc w.drew _ k hk⟩,by simp,fun i hi=>?_,fun cs e=>?_⟩
 ·exact grownCap_ge _ _ _ _
 ·have eB:i<s.data.size:=hi;have:=bytesRow_at s (grownCap w s.size 0 5) i eB;rw[af,Array.getElem?_eq_getElem eB];rw[cell_of_row _ w.heap.size i _ _ _ hx];simpa using this
 ·rw[hx]at e;simp at e
theorem TY{B b:Nat}{l:List UInt8}{w w':World}(h:pd B b l w)(hk:∀k,k<w.heap.size→w'.heap[k]?=w.heap[k]?):pd B b l w':=by(have one:∀p,Jf B b p l w→Jf B b p l w':=fun p h=>by have hlt:=Lib.BuilderAt.lt h;obtain⟨hB,v,hb,az,hne⟩:=h;exact⟨hB,v,by rw[hk b hlt];exact hb,bu az (fun g hg=>hk g (az.lt g hg).2) (Nat.le_refl _),hne⟩);exact h.imp (one _) (one _)
end Go.Proofs.YtcaiibkgajhohaaGreatDoor
