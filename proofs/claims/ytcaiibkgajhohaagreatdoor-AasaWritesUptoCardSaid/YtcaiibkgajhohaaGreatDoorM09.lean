/- waybill: lemmas and walks, printed from longer texts. -/
import Derived.Test.YtcaiibkgajhohaaGreatDoorM07
import Derived.LoopN
set_option maxRecDepth 100000
set_option maxHeartbeats 16000000
namespace Go.Proofs.YtcaiibkgajhohaaGreatDoor
open Go.RowKit
structure uM(w:World):Prop where
 c0:w.cell? ⟨1,0,none⟩=some (.string ⟨#[116,114,117,101]⟩)
 c1:w.cell? ⟨1,1,none⟩=some (.int .i64 9)
 c2:w.cell? ⟨1,2,none⟩=some (.string ⟨#[102,97,108,115,101]⟩)
 c3:w.cell? ⟨1,3,none⟩=some (.int .i64 10)
 c4:w.cell? ⟨1,4,none⟩=some (.string ⟨#[110,117,108,108]⟩)
 c5:w.cell? ⟨1,5,none⟩=some (.int .i64 11)
theorem uM.lt{w:World}(h:uM w):1<w.heap.size:=World.block_lt_of_cell? w ⟨1,0,none⟩ h.c0
theorem uM.ext{w w':World}(h:uM w)(hb:Below w.heap.size w w'):uM w':=⟨(aK hb h.lt _).trans h.c0,(aK hb h.lt _).trans h.c1,(aK hb h.lt _).trans h.c2,(aK hb h.lt _).trans h.c3,(aK hb h.lt _).trans h.c4,(aK hb h.lt _).trans h.c5⟩
structure gI(w:World):Prop where
 wP:nu w
 words:uM w
theorem gI.ext{w w':World}(h:gI w)(hb:Below w.heap.size w w'):gI w':=⟨h.wP.ext hb,h.words.ext hb⟩
def Yq(w:World)(r:Sc (Nat×Nat))(e:Ending)(w':World):Prop:=match r with
  |.ok x=>e=.returned (.tuple #[.int .i64 x.1,.int .i64 x.2,.nilIface])∧Below w.heap.size w w'
  |.no k i=>∃u a b,e=.returned (.tuple #[a,b,.iface 85 (.pointer (some u))])∧dK w k i (.iface 85 (.pointer (some u))) w'
section
variable(a0 a1 a2 a3 a4 a5:Value)(w:World)
theorem Yr:(Instr.index 221 (.agg #[a0,a1,a2,a3,a4,a5]) (.int .i64 0)).run Tryz.prog w=.ok (.agg #[a0,a1]) w:=by have hu:=run_underlying (P:=Tryz.prog) Tryz.underlying221;simp[Instr.index,asIntOf,hu,part,go_sem]
theorem Ys:(Instr.index 221 (.agg #[a0,a1,a2,a3,a4,a5]) (.int .i64 1)).run Tryz.prog w=.ok (.agg #[a2,a3]) w:=by have hu:=run_underlying (P:=Tryz.prog) Tryz.underlying221;simp[Instr.index,asIntOf,hu,part,go_sem]
theorem Yt:(Instr.index 221 (.agg #[a0,a1,a2,a3,a4,a5]) (.int .i64 2)).run Tryz.prog w=.ok (.agg #[a4,a5]) w:=by have hu:=run_underlying (P:=Tryz.prog) Tryz.underlying221;simp[Instr.index,asIntOf,hu,part,go_sem]
end
def Quiet(_v:Value)(_B:ByteArray)(w:World)(_:List Nat)(W:World):Prop:=Below w.heap.size w W
theorem Yu{v:Value}{B:ByteArray}{w:World}(h:Rd (Own w) w v (dF B))(ht:nu w):Gs v B (Quiet v B w):=⟨fun _ _ hI=>h.ext hI,fun _ _ hI=>ht.ext hI,fun _ _ _ hI hb=>aF hI hb⟩
theorem Yv{v:Value}{B:ByteArray}{w:World}:yW (Quiet v B w) .nilFunc:=.nil fun _ _ _ h=>h
theorem Yw(v:Value)(B:ByteArray)(i:Nat)(w:World)(h:Rd (Own w) w v (dF B))(ht:nu w)(hm:B.size≤1100000)(hi:i≤B.size):Calls Tryz.prog 117 #[v,.int .i64 i,.nilFunc] w (F_ w ((jW B i []).bind fun x=>.ok x.2)):=by
 refine(M6 v B i (Quiet v B w) .nilFunc [] w (Yu h ht) Yv (Below.refl _ _) hm hi (Nat.zero_le _)).mono ?_;intro e w' hp
 cases hr:jW B i []with
 |ok x=>rw[hr]at hp;exact hp
 |no k p=>rw[hr]at hp;obtain⟨u,acc,W,rfl,hI,hf⟩:=hp;exact⟨u,rfl,hf.after hI⟩
theorem Yx(v:Value)(B:ByteArray)(p:Nat)(w:World)(h:Rd (Own w) w v (dF B))(he:gI w)(hm:B.size≤1100000)(hp:p≤B.size):Calls Tryz.prog 82 #[v,.int .i64 p] w (Yq w (ng B p)):=by
 have HH:=Lib.hid h;have HT:=Lib.hid (fun hlt:p+1≤B.size=>Yw v B (p+1) w h he.wP hm hlt);have HN:=Lib.hid (fun hlt:p<B.size=>XR v B p w h hm hlt);obtain⟨a,c,rfl,_,_,hc⟩:=h.eY;have HE:=Lib.hid he;unfold ng;clear h he;by_cases h0:p=B.size
 ·rw[if_pos h0];have t1:((p:Int)==(B.size:Int))=true:=beq_iff_eq.2 (by omega);clear hc h0;go_enter Tryz.func82,Tryz.ntmps82;go_wp2;go_ret3;exact⟨rfl,Below.refl _ _⟩
 ·rw[if_neg h0];have hlt:p<B.size:=by omega
  have t1:((p:Int)==(B.size:Int))=false:=beq_eq_false_iff_ne.2 (by omega);obtain⟨b,off,rfl,_,x0⟩:=hc (by omega);have x1:=x0 p hlt;have b9:=dm B p;have CI:=Lib.hid (fun s hl=>yN s oJ hl (af B p) b9 w);have sN:=CG (l:=oJ) (c:=af B p);have HT:=Lib.hid (HT.out hlt);have HN:=Lib.hid (HN.out hlt);clear hc x0;by_cases dP:oJ.contains (af B p)=true
  ·rw[if_pos dP];rw[dP]at sN;have hv:ku oJ (af B p)=(oJ.idxOf (af B p):Nat):=by unfold ku;rw[if_pos dP]
   have jZ:oJ.idxOf (af B p)<6:=List.idxOf_lt_length_of_mem (by simpa using dP);generalize oJ.idxOf (af B p)=x at*;rw[hv]at sN CI;clear hv dP;go_enter Tryz.func82,Tryz.ntmps82;go_wp2_with fail;refine(CI.out _ (by rfl)).mono ?_;rintro e w1⟨rfl,rfl⟩;go_wp2;go_ret3;exact⟨by rfl,Below.refl _ _⟩
  ·rw[if_neg dP];simp only[Bool.not_eq_true]at dP;rw[dP]at sN;generalize ku oJ (af B p)=x at*;have HIB:=Lib.hid sN;clear dP;by_cases hq:af B p=34
   ·rw[if_pos hq];have t2:((af B p:Int)==34)=true:=beq_iff_eq.2 (by omega);clear hq;go_enter Tryz.func82,Tryz.ntmps82;go_wp2_with fail;refine(CI.out _ (by rfl)).mono ?_;rintro e w1⟨rfl,rfl⟩;go_wp2_with fail;refine HT.out.mono ?_;intro e w1 bV
    cases hr:jW B (p+1) []with
    |ok x=>rw[hr]at bV;obtain⟨rfl,hb⟩:=bV;have HB:=Lib.hid hb;have HQ:=Lib.hid hr;clear hb hr;go_wp2;go_ret3;rw[HQ.out];exact⟨rfl,HB.out⟩
    |no k i=>rw[hr]at bV;obtain⟨u,rfl,hf⟩:=bV;have HF:=Lib.hid hf;have HQ:=Lib.hid hr;clear hf hr;go_wp2;go_ret3;rw[HQ.out];exact⟨_,_,_,rfl,HF.out⟩
   ·rw[if_neg hq];have t2:((af B p:Int)==34)=false:=beq_eq_false_iff_ne.2 (by omega);clear hq;by_cases hn:af B p=45∨ir (af B p)=true
    ·rw[if_pos hn]
     have q:((af B p:Int)==45)=true∨(((af B p:Int)==45)=false∧decide ((48:Int)≤(af B p:Int))=true∧decide ((af B p:Int)≤57)=true):=by
      by_cases Yy:af B p=45
      ·exact .inl (beq_iff_eq.2 (by omega))
      ·obtain⟨d1,d2⟩:=Mz (hn.resolve_left Yy);exact .inr ⟨beq_eq_false_iff_ne.2 (by omega),decide_eq_true (by omega),decide_eq_true (by omega)⟩
     clear hn;rcases q with q1|⟨q1,q2,q3⟩
     all_goals
      go_enter Tryz.func82,Tryz.ntmps82;go_wp2_with fail;refine(CI.out _ (by rfl)).mono ?_;rintro e w1⟨rfl,rfl⟩;go_wp2_with fail;refine HN.out.mono ?_;intro e w1 bV
      cases hr:pR B p with
      |ok x=>rw[hr]at bV;obtain⟨rfl,rfl⟩:=bV;have HQ:=Lib.hid hr;clear hr;go_wp2;go_ret3;rw[HQ.out];exact⟨rfl,Below.refl _ _⟩
      |no k i=>rw[hr]at bV;obtain⟨u,rfl,hf⟩:=bV;obtain⟨u,rfl⟩:=hf.form;have HF:=Lib.hid hf;have HQ:=Lib.hid hr;clear hf hr;go_wp2;go_ret3;rw[HQ.out];exact⟨_,_,_,rfl,HF.out⟩
    ·rw[if_neg hn];have t3:((af B p:Int)==45)=false:=beq_eq_false_iff_ne.2 (by omega)
     have q:decide ((48:Int)≤(af B p:Int))=false∨(decide ((48:Int)≤(af B p:Int))=true∧decide ((af B p:Int)≤57)=false):=by
      have hd:ir (af B p)=false:=by simpa using fun h=>hn (.inr h)
      rcases MA hd with q|q
      ·exact .inl (decide_eq_false (by omega))
      ·exact .inr ⟨decide_eq_true (by omega),decide_eq_false (by omega)⟩
     clear hn;have w0:=HE.out.words.c0;have w1:=HE.out.words.c1;have w2:=HE.out.words.c2;have w3:=HE.out.words.c3;have w4:=HE.out.words.c4;have w5:=HE.out.words.c5;have hcs:af B p=116∨af B p=102∨af B p=110∨(af B p≠116∧af B p≠102∧af B p≠110):=by omega
     have i0:=Yr;have i1:=Ys;have i2:=Yt;rcases hcs with ar|ar|ar|⟨ar,ah,aw⟩
     ·rw[if_pos ar];have r1:((((⟨#[116,114,117,101]⟩:ByteArray)[0]'(by decide)).toNat:Int)==(af B p:Int))=true:=(show(((116:Nat):Int)==(af B p:Int))=true from beq_iff_eq.2 (by omega));clear ar;rcases q with q1|⟨q1,q2⟩
      all_goals
       go_enter Tryz.func82,Tryz.ntmps82;go_wp2_with fail;refine(CI.out _ (by rfl)).mono ?_;rintro e w1⟨rfl,rfl⟩;go_wp2_with fail;refine wp_loop_rounds 4 ?_;rw[rounds_succ];go_wp2_with fail;refine(Ga _ B p _ FV (by rfl) _ (HH.out.ext ?hb) hm hp (by decide)).mono ?_;case hb=>exact aj (Below.refl _ _) _
       intro e w1 bV
       cases hr:nc B p FV with
       |ok x=>rw[hr]at bV;obtain⟨rfl,hb⟩:=bV;have er:=aK hb (b:=w.heap.size) (by simp);have hz:=hb.size;simp only[World.size_alloc]at hz;have HB:=Lib.hid (aF (aj (Below.refl _ _) _) hb);have HQ:=Lib.hid hr;clear hb hr;go_wp2;go_ret3;rw[HQ.out];exact⟨rfl,HB.out⟩
       |no k i=>rw[hr]at bV;obtain⟨u,rfl,hf⟩:=bV;have er:=aK hf.2 (b:=w.heap.size) (by simp);have hz:=hf.2.size;simp only[World.size_alloc]at hz;have HF:=Lib.hid (hf.after (a:=w) (aj (Below.refl _ _) _));have HQ:=Lib.hid hr;clear hf hr;go_wp2;go_ret3;rw[HQ.out];exact⟨_,_,_,rfl,HF.out⟩
     ·rw[if_neg (by omega),if_pos ar];have r1:((((⟨#[116,114,117,101]⟩:ByteArray)[0]'(by decide)).toNat:Int)==(af B p:Int))=false:=(show(((116:Nat):Int)==(af B p:Int))=false from beq_eq_false_iff_ne.2 (by omega));have r2:((((⟨#[102,97,108,115,101]⟩:ByteArray)[0]'(by decide)).toNat:Int)==(af B p:Int))=true:=(show(((102:Nat):Int)==(af B p:Int))=true from beq_iff_eq.2 (by omega));clear ar;rcases q with q1|⟨q1,q2⟩
      all_goals
       go_enter Tryz.func82,Tryz.ntmps82;go_wp2_with fail;refine(CI.out _ (by rfl)).mono ?_;rintro e w1⟨rfl,rfl⟩;go_wp2_with fail;refine wp_loop_rounds 4 ?_;rw[rounds_succ];go_wp2_with fail;rw[rounds_succ];go_wp2_with fail;refine(Ga _ B p _ FX (by rfl) _ (HH.out.ext ?hb) hm hp (by decide)).mono ?_;case hb=>exact aj (aj (Below.refl _ _) _) _
       intro e w1 bV
       cases hr:nc B p FX with
       |ok x=>rw[hr]at bV;obtain⟨rfl,hb⟩:=bV;have er:=aK hb (b:=w.heap.size+1) (by simp);have hz:=hb.size;simp only[World.size_alloc]at hz;have HB:=Lib.hid (aF (aj (aj (Below.refl _ _) _) _) hb);have HQ:=Lib.hid hr;clear hb hr;go_wp2;go_ret3;rw[HQ.out];exact⟨rfl,HB.out⟩
       |no k i=>rw[hr]at bV;obtain⟨u,rfl,hf⟩:=bV;have er:=aK hf.2 (b:=w.heap.size+1) (by simp);have hz:=hf.2.size;simp only[World.size_alloc]at hz;have HF:=Lib.hid (hf.after (a:=w) (aj (aj (Below.refl _ _) _) _));have HQ:=Lib.hid hr;clear hf hr;go_wp2;go_ret3;rw[HQ.out];exact⟨_,_,_,rfl,HF.out⟩
     ·rw[if_neg (by omega),if_neg (by omega),if_pos ar];have r1:((((⟨#[116,114,117,101]⟩:ByteArray)[0]'(by decide)).toNat:Int)==(af B p:Int))=false:=(show(((116:Nat):Int)==(af B p:Int))=false from beq_eq_false_iff_ne.2 (by omega));have r2:((((⟨#[102,97,108,115,101]⟩:ByteArray)[0]'(by decide)).toNat:Int)==(af B p:Int))=false:=(show(((102:Nat):Int)==(af B p:Int))=false from beq_eq_false_iff_ne.2 (by omega))
      have r3:((((⟨#[110,117,108,108]⟩:ByteArray)[0]'(by decide)).toNat:Int)==(af B p:Int))=true:=(show(((110:Nat):Int)==(af B p:Int))=true from beq_iff_eq.2 (by omega));clear ar;rcases q with q1|⟨q1,q2⟩
      all_goals
       go_enter Tryz.func82,Tryz.ntmps82;go_wp2_with fail;refine(CI.out _ (by rfl)).mono ?_;rintro e w1⟨rfl,rfl⟩;go_wp2_with fail;refine wp_loop_rounds 4 ?_;rw[rounds_succ];go_wp2_with fail;rw[rounds_succ];go_wp2_with fail;rw[rounds_succ];go_wp2_with fail;refine(Ga _ B p _ FY (by rfl) _ (HH.out.ext ?hb) hm hp (by decide)).mono ?_;case hb=>exact aj (aj (aj (Below.refl _ _) _) _) _
       intro e w1 bV
       cases hr:nc B p FY with
       |ok x=>rw[hr]at bV;obtain⟨rfl,hb⟩:=bV;have er:=aK hb (b:=w.heap.size+1+1) (by simp);have hz:=hb.size;simp only[World.size_alloc]at hz;have HB:=Lib.hid (aF (aj (aj (aj (Below.refl _ _) _) _) _) hb);have HQ:=Lib.hid hr;clear hb hr;go_wp2;go_ret3;rw[HQ.out];exact⟨rfl,HB.out⟩
       |no k i=>rw[hr]at bV;obtain⟨u,rfl,hf⟩:=bV;have er:=aK hf.2 (b:=w.heap.size+1+1) (by simp);have hz:=hf.2.size;simp only[World.size_alloc]at hz;have HF:=Lib.hid (hf.after (a:=w) (aj (aj (aj (Below.refl _ _) _) _) _));have HQ:=Lib.hid hr;clear hf hr;go_wp2;go_ret3;rw[HQ.out];exact⟨_,_,_,rfl,HF.out⟩
     ·rw[if_neg ar,if_neg ah,if_neg aw];have r1:((((⟨#[116,114,117,101]⟩:ByteArray)[0]'(by decide)).toNat:Int)==(af B p:Int))=false:=(show(((116:Nat):Int)==(af B p:Int))=false from beq_eq_false_iff_ne.2 (by omega));have r2:((((⟨#[102,97,108,115,101]⟩:ByteArray)[0]'(by decide)).toNat:Int)==(af B p:Int))=false:=(show(((102:Nat):Int)==(af B p:Int))=false from beq_eq_false_iff_ne.2 (by omega))
      have r3:((((⟨#[110,117,108,108]⟩:ByteArray)[0]'(by decide)).toNat:Int)==(af B p:Int))=false:=(show(((110:Nat):Int)==(af B p:Int))=false from beq_eq_false_iff_ne.2 (by omega));clear ar ah aw;rcases q with q1|⟨q1,q2⟩
      all_goals
       go_enter Tryz.func82,Tryz.ntmps82;go_wp2_with fail;refine(CI.out _ (by rfl)).mono ?_;rintro e w1⟨rfl,rfl⟩;go_wp2_with fail;refine wp_loop_rounds 4 ?_;rw[rounds_succ];go_wp2_with fail;rw[rounds_succ];go_wp2_with fail;rw[rounds_succ];go_wp2_with fail;rw[rounds_succ];go_wp2_with fail;refine(fails 11 _ _).mono ?_;rintro e w4⟨u2,rfl,hx⟩;obtain⟨p2,rfl⟩:=hx.form;have HX:=Lib.hid (hx.after (a:=w) (aj (aj (aj (Below.refl _ _) _) _) _));clear hx;go_wp2;go_ret3;exact⟨_,_,_,rfl,HX.out⟩
def Dc(k:Nat):Int:=if k=2 then 192 else if k=3 then 224 else if k=4 then 240 else 0
def gN(B:ByteArray)(at_ k:Nat):Nat→Int
 |0=>(af B at_:Int)-Dc k
 |i+1=>64*gN B at_ k i+(af B (at_+(i+1)):Int)-128
theorem zm(B:ByteArray)(at_ k:Nat):∀i,i<4→-100000000≤gN B at_ k i∧gN B at_ k i≤100000000:=by(have ho:0≤Dc k∧Dc k≤240:=by unfold Dc;repeat' split;all_goals omega);have hb:∀i,af B i<256:=fun i=>dm B i;intro i hi;have h0:=hb at_;have h1:=hb (at_+1);have h2:=hb (at_+2);have h3:=hb (at_+3);(have eB:i=0∨i=1∨i=2∨i=3:=by omega);rcases eB with rfl|rfl|rfl|rfl<;>simp only[gN,Nat.zero_add,Nat.reduceAdd]<;>omega
def sT(B:ByteArray)(at_ k:Nat)(w:World)(n i:Value)(wr:World):Prop:=∃j:Nat,i=.int .i64 j∧1≤j∧j≤k∧n=.int .i64 (gN B at_ k (j-1))∧w=wr
theorem ZL(S:Nat→Prop)(v:Value)(B:ByteArray)(at_ k:Nat)(w:World)(hB:Rd S w v (dF B))(hz:B.size≤1100000)(hk:1≤k∧k≤4)(ha:at_+k≤B.size):Calls Tryz.prog 132 #[v,.int .i64 at_,.int .i64 k] w fun e w'=>e=.returned (.int .i64 (gN B at_ k (k-1)))∧w=w':=by
 obtain⟨a,c,rfl,_,fh,hcc⟩:=hB.eY;obtain⟨b,off,rfl,_,hx⟩:=hcc (by omega);have x0:=hx at_ (by omega);have HX:=Lib.hid hx;have dc:af B at_<256:=dm B at_;have cf:at_<B.size:=by omega
 clear hB hcc hx;have jY:k=1∨k=2∨k=3∨k=4:=by omega
 rcases jY with rfl|rfl|rfl|rfl
 ·have G0:Hid (gN B at_ 1 0=(af B at_:Int)-0):=Lib.hid rfl;clear hk;go_enter Tryz.func132,Tryz.ntmps132;go_wp2_with fail;go_loopw[7,8](sT B at_ 1 w)(fun _ i _=>1-(intOf i).toNat);case atStart=>exact⟨1,rfl,by decide,by decide,by rw[show(1:Nat)-1=0 from rfl,G0.out];try simp,rfl⟩
  case round=>
   obtain⟨j,rfl,sU,hj,rfl,rfl⟩:=hrel;have hg:=zm B at_ 1 (j-1) (by omega);have hn:gN B at_ 1 (j+1-1)=64*gN B at_ 1 (j-1)+(af B (at_+j):Int)-128:=by obtain⟨m,rfl⟩:∃m,j=m+1:=⟨j-1,by omega⟩;rfl
   have HN:=Lib.hid hn;clear hn;by_cases hlt:j<1
   ·have x1:=HX.out (at_+j) (by omega);have ar:af B (at_+j)<256:=dm B _;generalize gN B at_ 1 (j-1)=g at*;have q1:IntKind.i64.wrap ((at_:Int)+(j:Int))=(at_:Int)+(j:Int):=IntWalk.i64_in _ (by omega);have q2:(0:Int)≤(at_:Int)+(j:Int):=by omega
    have q3:((at_:Int)+(j:Int)).toNat=at_+j:=by omega
    have q4:(at_:Int)+(j:Int)<(B.size:Int):=by omega
    have q5:IntKind.i64.wrap (64*g)=64*g:=IntWalk.i64_in _ (by omega);have q6:IntKind.i64.wrap (64*g+(af B (at_+j):Int))=64*g+(af B (at_+j):Int):=IntWalk.i64_in _ (by omega);have q7:IntKind.i64.wrap (64*g+(af B (at_+j):Int)-128)=64*g+(af B (at_+j):Int)-128:=IntWalk.i64_in _ (by omega);have t1:decide ((j:Int)<1)=true:=decide_eq_true (by omega)
    have R:sT B at_ 1 w (.int .i64 (64*g+(af B (at_+j):Int)-128)) (.int .i64 (j+1)) w:=⟨j+1,by go_num,by omega,by omega,by rw[HN.out],rfl⟩;have HR:=Lib.hid R;clear R;go_wp2;refine⟨?_,by simp[intOf]<;>omega⟩;have R:=HR.out;first|exact R|((repeat apply Exists.intro);exact⟨R,rfl⟩)
   ·obtain rfl:j=1:=by omega
    go_wp2;go_ret;exact⟨rfl,rfl⟩
 ·have G0:Hid (gN B at_ 2 0=(af B at_:Int)-192):=Lib.hid rfl;clear hk;go_enter Tryz.func132,Tryz.ntmps132;go_wp2_with fail;go_loopw[7,8](sT B at_ 2 w)(fun _ i _=>2-(intOf i).toNat);case atStart=>exact⟨1,rfl,by decide,by decide,by rw[show(1:Nat)-1=0 from rfl,G0.out];try simp,rfl⟩
  case round=>
   obtain⟨j,rfl,sU,hj,rfl,rfl⟩:=hrel;have hg:=zm B at_ 2 (j-1) (by omega);have hn:gN B at_ 2 (j+1-1)=64*gN B at_ 2 (j-1)+(af B (at_+j):Int)-128:=by obtain⟨m,rfl⟩:∃m,j=m+1:=⟨j-1,by omega⟩;rfl
   have HN:=Lib.hid hn;clear hn;by_cases hlt:j<2
   ·have x1:=HX.out (at_+j) (by omega);have ar:af B (at_+j)<256:=dm B _;generalize gN B at_ 2 (j-1)=g at*;have q1:IntKind.i64.wrap ((at_:Int)+(j:Int))=(at_:Int)+(j:Int):=IntWalk.i64_in _ (by omega);have q2:(0:Int)≤(at_:Int)+(j:Int):=by omega
    have q3:((at_:Int)+(j:Int)).toNat=at_+j:=by omega
    have q4:(at_:Int)+(j:Int)<(B.size:Int):=by omega
    have q5:IntKind.i64.wrap (64*g)=64*g:=IntWalk.i64_in _ (by omega);have q6:IntKind.i64.wrap (64*g+(af B (at_+j):Int))=64*g+(af B (at_+j):Int):=IntWalk.i64_in _ (by omega);have q7:IntKind.i64.wrap (64*g+(af B (at_+j):Int)-128)=64*g+(af B (at_+j):Int)-128:=IntWalk.i64_in _ (by omega);have t1:decide ((j:Int)<2)=true:=decide_eq_true (by omega)
    have R:sT B at_ 2 w (.int .i64 (64*g+(af B (at_+j):Int)-128)) (.int .i64 (j+1)) w:=⟨j+1,by go_num,by omega,by omega,by rw[HN.out],rfl⟩;have HR:=Lib.hid R;clear R;go_wp2;refine⟨?_,by simp[intOf]<;>omega⟩;have R:=HR.out;first|exact R|((repeat apply Exists.intro);exact⟨R,rfl⟩)
   ·obtain rfl:j=2:=by omega
    go_wp2;go_ret;exact⟨rfl,rfl⟩
 ·have G0:Hid (gN B at_ 3 0=(af B at_:Int)-224):=Lib.hid rfl;clear hk;go_enter Tryz.func132,Tryz.ntmps132;go_wp2_with fail;go_loopw[7,8](sT B at_ 3 w)(fun _ i _=>3-(intOf i).toNat);case atStart=>exact⟨1,rfl,by decide,by decide,by rw[show(1:Nat)-1=0 from rfl,G0.out];try simp,rfl⟩
  case round=>
   obtain⟨j,rfl,sU,hj,rfl,rfl⟩:=hrel;have hg:=zm B at_ 3 (j-1) (by omega);have hn:gN B at_ 3 (j+1-1)=64*gN B at_ 3 (j-1)+(af B (at_+j):Int)-128:=by obtain⟨m,rfl⟩:∃m,j=m+1:=⟨j-1,by omega⟩;rfl
   have HN:=Lib.hid hn;clear hn;by_cases hlt:j<3
   ·have x1:=HX.out (at_+j) (by omega);have ar:af B (at_+j)<256:=dm B _;generalize gN B at_ 3 (j-1)=g at*;have q1:IntKind.i64.wrap ((at_:Int)+(j:Int))=(at_:Int)+(j:Int):=IntWalk.i64_in _ (by omega);have q2:(0:Int)≤(at_:Int)+(j:Int):=by omega
    have q3:((at_:Int)+(j:Int)).toNat=at_+j:=by omega
    have q4:(at_:Int)+(j:Int)<(B.size:Int):=by omega
    have q5:IntKind.i64.wrap (64*g)=64*g:=IntWalk.i64_in _ (by omega);have q6:IntKind.i64.wrap (64*g+(af B (at_+j):Int))=64*g+(af B (at_+j):Int):=IntWalk.i64_in _ (by omega);have q7:IntKind.i64.wrap (64*g+(af B (at_+j):Int)-128)=64*g+(af B (at_+j):Int)-128:=IntWalk.i64_in _ (by omega);have t1:decide ((j:Int)<3)=true:=decide_eq_true (by omega)
    have R:sT B at_ 3 w (.int .i64 (64*g+(af B (at_+j):Int)-128)) (.int .i64 (j+1)) w:=⟨j+1,by go_num,by omega,by omega,by rw[HN.out],rfl⟩;have HR:=Lib.hid R;clear R;go_wp2;refine⟨?_,by simp[intOf]<;>omega⟩;have R:=HR.out;first|exact R|((repeat apply Exists.intro);exact⟨R,rfl⟩)
   ·obtain rfl:j=3:=by omega
    go_wp2;go_ret;exact⟨rfl,rfl⟩
 ·have G0:Hid (gN B at_ 4 0=(af B at_:Int)-240):=Lib.hid rfl;clear hk;go_enter Tryz.func132,Tryz.ntmps132;go_wp2_with fail;go_loopw[7,8](sT B at_ 4 w)(fun _ i _=>4-(intOf i).toNat);case atStart=>exact⟨1,rfl,by decide,by decide,by rw[show(1:Nat)-1=0 from rfl,G0.out];try simp,rfl⟩
  case round=>
   obtain⟨j,rfl,sU,hj,rfl,rfl⟩:=hrel;have hg:=zm B at_ 4 (j-1) (by omega);have hn:gN B at_ 4 (j+1-1)=64*gN B at_ 4 (j-1)+(af B (at_+j):Int)-128:=by obtain⟨m,rfl⟩:∃m,j=m+1:=⟨j-1,by omega⟩;rfl
   have HN:=Lib.hid hn;clear hn;by_cases hlt:j<4
   ·have x1:=HX.out (at_+j) (by omega);have ar:af B (at_+j)<256:=dm B _;generalize gN B at_ 4 (j-1)=g at*;have q1:IntKind.i64.wrap ((at_:Int)+(j:Int))=(at_:Int)+(j:Int):=IntWalk.i64_in _ (by omega);have q2:(0:Int)≤(at_:Int)+(j:Int):=by omega
    have q3:((at_:Int)+(j:Int)).toNat=at_+j:=by omega
    have q4:(at_:Int)+(j:Int)<(B.size:Int):=by omega
    have q5:IntKind.i64.wrap (64*g)=64*g:=IntWalk.i64_in _ (by omega);have q6:IntKind.i64.wrap (64*g+(af B (at_+j):Int))=64*g+(af B (at_+j):Int):=IntWalk.i64_in _ (by omega);have q7:IntKind.i64.wrap (64*g+(af B (at_+j):Int)-128)=64*g+(af B (at_+j):Int)-128:=IntWalk.i64_in _ (by omega);have t1:decide ((j:Int)<4)=true:=decide_eq_true (by omega)
    have R:sT B at_ 4 w (.int .i64 (64*g+(af B (at_+j):Int)-128)) (.int .i64 (j+1)) w:=⟨j+1,by go_num,by omega,by omega,by rw[HN.out],rfl⟩;have HR:=Lib.hid R;clear R;go_wp2;refine⟨?_,by simp[intOf]<;>omega⟩;have R:=HR.out;first|exact R|((repeat apply Exists.intro);exact⟨R,rfl⟩)
   ·obtain rfl:j=4:=by omega
    go_wp2;go_ret;exact⟨rfl,rfl⟩
def G6(t:Tok):Value:=.agg #[.int .i64 t.kind,.int .i64 t.fr,.int .i64 t.cK]
def ZV(w:World)(r:Sc Tok)(e:Ending)(w':World):Prop:=match r with
  |.ok t=>e=.returned (.tuple #[G6 t,.nilIface])∧Below w.heap.size w w'
  |.no k i=>∃u,e=.returned (.tuple #[.agg #[.int .i64 0,.int .i64 0,.int .i64 0],.iface 85 (.pointer (some u))])∧dK w k i (.iface 85 (.pointer (some u))) w'
def sV:List Nat:=[32,9,10,13]
def NZ(B:ByteArray)(e:Nat)(W:World)(k:Value)(wr:World):Prop:=wr=W∧∃j:Nat,k=.int .i64 j∧j≤e∧skip jV B j=e
theorem G7{w w1:World}(h:Below w.heap.size w w1)(a b c:Value):Below w.heap.size w (((w1.setCell ⟨w.heap.size,0,none⟩ a).setCell ⟨w.heap.size,1,none⟩ b).setCell ⟨w.heap.size,2,none⟩ c):=((h.setCell (Nat.le_refl _) a).setCell (Nat.le_refl _) b).setCell (Nat.le_refl _) c
theorem G8{w w1:World}{o:Obj}{k:Nat}{i:Int}{u:Value}(h:dK (w.alloc o) k i u w1)(a b c:Value):dK w k i u (((w1.setCell ⟨w.heap.size,0,none⟩ a).setCell ⟨w.heap.size,1,none⟩ b).setCell ⟨w.heap.size,2,none⟩ c):=⟨h.1.res (Below.refl _ _) (oB.set (oB.set (oB.set (oB.refl _ _)))),G7 (aF (aj (Below.refl _ _) o) h.2) a b c⟩
theorem N0(v:Value)(B:ByteArray)(at_:Int)(w:World)(h:Rd (Own w) w v (dF B))(he:gI w)(hm:B.size≤1100000):Calls Tryz.prog 49 #[v,.int .i64 at_] w (ZV w (b_ B at_)):=by
 unfold b_;by_cases uU:at_<0∨(B.size:Int)<at_
 ·rw[if_pos uU];obtain⟨a,c,rfl,_,_,_⟩:=h.eY
  have q:decide (at_<0)=true∨(decide (at_<0)=false∧decide ((B.size:Int)<at_)=true):=by
   by_cases h1:at_<0
   ·exact .inl (decide_eq_true h1)
   ·exact .inr ⟨decide_eq_false h1,decide_eq_true (uU.resolve_left h1)⟩
  clear h he uU;rcases q with q1|⟨q1,q2⟩
  all_goals
   go_enter Tryz.func49,Tryz.ntmps49;go_wp2_with fail;refine(fails 1 at_ _).mono ?_;rintro e w1⟨u,rfl,hx⟩;obtain⟨p,rfl⟩:=hx.form;have er:=aK hx.2 (b:=w.heap.size) (by simp);have Di:=oC hx.2 (b:=w.heap.size) (by simp);have hz:=hx.2.size;simp only[World.size_alloc]at hz;have HX:=Lib.hid hx;clear hx;go_wp2;refine bodyPost_ret (v:=.tuple #[.agg #[.int .i64 0,.int .i64 0,.int .i64 0],.iface 85 (.pointer (some p))]) (by simp[results,Tryz.results49,go_sem,er]) rfl ⟨_,rfl,?_⟩;exact G8 HX.out _ _ _
 ·rw[if_neg uU];obtain⟨i,rfl⟩:=Int.eq_ofNat_of_zero_le (show 0≤at_ by omega);rw[Int.toNat_natCast];have hi:i≤B.size:=by omega
  have nh:=h.ext (aj (Below.refl _ _) (.cells #[.int .i64 0,.int .i64 0,.int .i64 0] 128));have G9:=he.ext (aj (Below.refl _ _) (.cells #[.int .i64 0,.int .i64 0,.int .i64 0] 128));obtain⟨a,c,rfl,_,_,hc⟩:=h.eY;obtain⟨W0,dU⟩:∃W,w.alloc (.cells #[.int .i64 0,.int .i64 0,.int .i64 0] 128)=W:=⟨_,rfl⟩;have dc:Below w.heap.size w W0:=by rw[←dU];exact aj (Below.refl _ _) _
  have N2:∀o,W0.cell? ⟨w.heap.size,o,none⟩=#[Value.int .i64 0,.int .i64 0,.int .i64 0][o]?:=fun o=>by rw[←dU];simp
  have N3:∀o,W0.frozen? ⟨w.heap.size,o,none⟩=false:=fun o=>by rw[←dU];simp
  have bT:w.heap.size<W0.heap.size:=by rw[←dU];simp
  rw[dU]at nh G9;have eF:=Lib.hid nh;have ZW:=Lib.hid G9;have je:=Lib.hid dc;have ZX:=Lib.hid N2;have zt:=Lib.hid N3;have iP:=Lib.hid dU;unfold sH;have uI:=Cz jV B i;have hle:=yK jV B i hi;have hE:=CA jV B _ i rfl;generalize hes:skip jV B i=e at*;have ZY:=Lib.hid hes;have ZZ:=Lib.hid hE;have t1:decide ((i:Int)<0)=false:=decide_eq_false (by omega);have t2:decide (B.size<i)=false:=decide_eq_false (by omega);clear h he uU hc nh G9 dc N2 N3 hE hes;go_enter Tryz.func49,Tryz.ntmps49;go_wp2_with fail
  go_loopw[1](NZ B e W0)(fun k _=>B.size-(intOf k).toNat);case atStart=>exact⟨rfl,i,rfl,uI,ZY.out⟩
  case round=>
   obtain⟨rfl,j,rfl,hj,hs⟩:=hrel;clear dU;by_cases hlt:j<e
   ·have hd:jV (af B j)=true:=by
     cases hx:jV (af B j)with
     |true=>rfl
     |false=>rw[sE (fun _=>hx)]at hs;omega
    rw[yJ (by omega) hd]at hs;obtain⟨a',c',e1,_,_,hc⟩:=eF.out.eY;cases e1;obtain⟨b,off,rfl,_,x0⟩:=hc (by omega);have x1:=x0 j (by omega);have t3:decide ((j:Int)<(B.size:Int))=true:=decide_eq_true (by omega);have CI:=Lib.hid (fun s hl=>yN s sV hl (af B j) (dm B j) wr);have sN:=CG (l:=sV) (c:=af B j);rw[show sV.contains (af B j)=true from hd]at sN;generalize ku sV (af B j)=x at*;have R:NZ B e wr (.int .i64 (j+1)) wr:=⟨rfl,j+1,by go_num,by omega,hs⟩;have HR:=Lib.hid R
    have hje:j<B.size:=by omega
    clear R hs hd x0 hc;go_wp2_with fail;refine(CI.out _ (by rfl)).mono ?_;rintro ev w1⟨rfl,rfl⟩;go_wp2;refine⟨?_,by simp[intOf]<;>omega⟩;have R:=HR.out;first|exact R|((repeat apply Exists.intro);exact⟨R,rfl⟩)
   ·obtain rfl:j=e:=by omega
    have CT:=Lib.hid (Yx _ B j wr eF.out ZW.out hm hle);have Dj:=ZX.out;have ajH:=zt.out;have lh:=je.out.size;clear hs;by_cases hsz:j<B.size
    ·have hd:=ZZ.out hsz;obtain⟨a',c',e1,_,_,hc⟩:=eF.out.eY;cases e1;obtain⟨b,off,rfl,_,x0⟩:=hc (by omega);have x1:=x0 j (by omega);have t3:decide ((j:Int)<(B.size:Int))=true:=decide_eq_true (by omega);have CI:=Lib.hid (fun s hl=>yN s sV hl (af B j) (dm B j) wr);have sN:=CG (l:=sV) (c:=af B j);rw[show sV.contains (af B j)=false from hd]at sN;generalize ku sV (af B j)=x at*;clear hd x0 hc;go_wp2_with fail;refine(CI.out _ (by rfl)).mono ?_;rintro ev w1⟨rfl,rfl⟩;go_wp2_with fail
     refine CT.out.mono ?_;intro ev w1 bV
     cases hr:ng B j with
     |ok x=>rw[hr]at bV;obtain⟨rfl,hb⟩:=bV;have er:=aK hb (b:=w.heap.size) (by omega);have Di:=oC hb (b:=w.heap.size) (by omega);have hz:=hb.size;have HB:=Lib.hid (aF je.out hb);have HQ:=Lib.hid hr;clear hb hr;go_wp2;rw[HQ.out];refine bodyPost_ret (v:=.tuple #[.agg #[.int .i64 x.1,.int .i64 j,.int .i64 x.2],.nilIface]) (by simp[results,Tryz.results49,go_sem,er,Dj]) rfl ⟨rfl,?_⟩;exact G7 HB.out _ _ _
     |no k p=>rw[hr]at bV;obtain⟨u,a1,a2,rfl,hf⟩:=bV;have er:=aK hf.2 (b:=w.heap.size) (by omega);have Di:=oC hf.2 (b:=w.heap.size) (by omega);have hz:=hf.2.size;have HQ:=Lib.hid hr;have HX:=hf;rw[←iP.out]at HX;have HX:=Lib.hid HX;clear hf hr;go_wp2;rw[HQ.out];refine bodyPost_ret (v:=.tuple #[.agg #[.int .i64 0,.int .i64 0,.int .i64 0],.iface 85 (.pointer (some u))]) (by simp[results,Tryz.results49,go_sem,er,Dj]) rfl ⟨_,rfl,?_⟩;exact G8 HX.out _ _ _
    ·have t3:decide ((j:Int)<(B.size:Int))=false:=decide_eq_false (by omega);go_wp2_with fail;refine CT.out.mono ?_;intro ev w1 bV
     cases hr:ng B j with
     |ok x=>rw[hr]at bV;obtain⟨rfl,hb⟩:=bV;have er:=aK hb (b:=w.heap.size) (by omega);have Di:=oC hb (b:=w.heap.size) (by omega);have hz:=hb.size;have HB:=Lib.hid (aF je.out hb);have HQ:=Lib.hid hr;clear hb hr;go_wp2;rw[HQ.out];refine bodyPost_ret (v:=.tuple #[.agg #[.int .i64 x.1,.int .i64 j,.int .i64 x.2],.nilIface]) (by simp[results,Tryz.results49,go_sem,er,Dj]) rfl ⟨rfl,?_⟩;exact G7 HB.out _ _ _
     |no k p=>rw[hr]at bV;obtain⟨u,a1,a2,rfl,hf⟩:=bV;have er:=aK hf.2 (b:=w.heap.size) (by omega);have Di:=oC hf.2 (b:=w.heap.size) (by omega);have hz:=hf.2.size;have HQ:=Lib.hid hr;have HX:=hf;rw[←iP.out]at HX;have HX:=Lib.hid HX;clear hf hr;go_wp2;rw[HQ.out];refine bodyPost_ret (v:=.tuple #[.agg #[.int .i64 0,.int .i64 0,.int .i64 0],.iface 85 (.pointer (some u))]) (by simp[results,Tryz.results49,go_sem,er,Dj]) rfl ⟨_,rfl,?_⟩;exact G8 HX.out _ _ _
end Go.Proofs.YtcaiibkgajhohaaGreatDoor
