/- waybill: lemmas and walks, printed from longer texts. -/
import Derived.Test.YtcaiibkgajhohaaGreatDoorM05
set_option maxRecDepth 100000
set_option maxHeartbeats 8000000
namespace Go.Proofs.YtcaiibkgajhohaaGreatDoor
open Go.RowKit
def gH(B:ByteArray)(p n:Nat):ByteArray:=⟨B.data.extract p (p+n)⟩
theorem pV(B:ByteArray)(p n:Nat)(h:p+n≤B.size):(gH B p n).size=n:=by show(B.data.extract p (p+n)).size=n;have h':p+n≤B.data.size:=h;simp;omega
theorem oM(B:ByteArray)(p n j:Nat)(hj:j<n):af (gH B p n) j=af B (p+j):=by
 unfold af gH;simp only[Array.getElem?_extract];split
 ·rfl
 ·rename_i h;have hz:B.data.size=B.size:=rfl;have:B.data.size≤p+j:=by simp at h;omega
  rw[Array.getElem?_eq_none this]
theorem sM(w:World)(b off n cap:Nat)(S:ByteArray)(hS:S.size=n)(hc:∀j,j<n→w.cell? ⟨b,off+j,none⟩=some (.int .u8 (af S j))):(convert 22 9 (.slice (some ⟨b,off,none⟩) n cap)).run Tryz.prog w=.ok (.string S) w:=by(have hl:S.data.toList.length=n:=by rw[Array.length_toList];exact hS);have:=run_convert_bytes_back (P:=Tryz.prog) w 22 9 5 ⟨b,off,none⟩ cap S.data.toList Tryz.underlying22 Tryz.underlying5 Tryz.underlying9 (fun j hj=>by rw[Addr.add_lit,hc j (by omega)];(have hj':j<S.data.size:=by rw[←Array.length_toList];exact hj);unfold af;rw[Array.getElem?_eq_getElem hj'];rfl);rwa[hl,Array.toArray_toList]at this
theorem Gp(c:Nat):km c=decide (fD c<16):=by
 rw[Bool.eq_iff_iff,decide_eq_true_eq];simp only[km,ir,Bool.or_eq_true,Bool.and_eq_true,decide_eq_true_eq];unfold fD;split
 ·omega
 ·split
  ·omega
  ·split<;>omega
theorem CZ{c:Nat}(h:km c=true):oI c=fD c:=by simp only[km,ir,Bool.or_eq_true,Bool.and_eq_true,decide_eq_true_eq]at h;unfold oI fD;(repeat' split);all_goals omega
theorem Yh(B:ByteArray)(p:Nat)(h:p<B.size):pU 16 65535 (gH B p 1)=if km (af B p)then .ok (fD (af B p))else .no 11 0:=by
 have hs:=pV B p 1 (by omega);have h0:=oM B p 1 0 (by omega);rw[Nat.add_zero]at h0;by_cases hx:km (af B p)=true
 ·rw[if_pos hx];have hd:fD (af B p)<16:=by rw[Gp]at hx;exact of_decide_eq_true hx
  rw[Gc (by omega) (fun m hm=>by(obtain rfl:m=0:=by omega);unfold nt;rw[h0];exact decide_eq_false (by omega)),hs];simp only[gn,h0,Nat.zero_mul,Nat.zero_add];rw[if_neg (by omega)]
 ·rw[if_neg hx];have hd:¬fD (af B p)<16:=fun h=>hx (by rw[Gp];exact decide_eq_true h);exact MJ (j:=0) (by omega) (by unfold nt;rw[h0];exact decide_eq_true (by omega)) (fun m hm=>by omega)
theorem Yi(B:ByteArray)(p:Nat)(h:p+4≤B.size)(hx:∀k,k<4→km (af B (p+k))=true):pU 16 65535 (gH B p 4)=.ok (pS B p)∧pS B p<65536:=by
 have hs:=pV B p 4 h;have hd:∀k,k<4→fD (af B (p+k))<16:=fun k hk=>by have:=hx k hk;rw[Gp]at this;exact of_decide_eq_true this
 have d0:=hd 0 (by omega);have d1:=hd 1 (by omega);have d2:=hd 2 (by omega);have d3:=hd 3 (by omega);have e0:=CZ (hx 0 (by omega));have e1:=CZ (hx 1 (by omega));have e2:=CZ (hx 2 (by omega));have e3:=CZ (hx 3 (by omega));have s0:=oM B p 4 0 (by omega);have s1:=oM B p 4 1 (by omega);have s2:=oM B p 4 2 (by omega);have s3:=oM B p 4 3 (by omega);rw[Nat.add_zero]at d0 e0 s0;have hv:gn 16 (gH B p 4) 4=pS B p:=by simp only[gn,s0,s1,s2,s3,pS,e0,e1,e2,e3];omega
 have hlt:pS B p<65536:=by unfold pS;omega
 refine⟨?_,hlt⟩;rw[Gc (by omega) (fun m hm=>by unfold nt;rw[oM B p 4 m (by omega)];exact decide_eq_false (by have:=hd m (by omega);omega)),hs,hv,if_neg (by omega)]
def MX(B:ByteArray)(i:Nat)(w:World)(k:Value)(wr:World):Prop:=∃j:Nat,k=.int .i64 ((i+j:Nat):Int)∧j≤6∧Below w.heap.size w wr∧∀m,m<j→kn B i m=true
theorem MY(v:Value)(B:ByteArray)(i:Nat)(w:World)(h:Rd (Own w) w v (dF B))(hm:B.size≤1100000)(hi:i≤B.size):Calls Tryz.prog 185 #[v,.int .i64 i] w (F_ w (jB B i)):=by
 unfold jB;have HR:=Lib.hid h;obtain⟨a,c,rfl,_,gY,hc⟩:=h.eY;clear h hc;go_enter Tryz.func185,Tryz.ntmps185;go_wp2_with fail;go_loopw[6](MX B i w)(fun k _=>i+6-(intOf k).toNat);case atStart=>exact⟨0,rfl,by omega,Below.refl _ _,fun m h=>by omega⟩
 case round=>
  obtain⟨j,rfl,hj,hb,hf⟩:=hrel;have hR:=HR.out.ext hb;by_cases hlt:j<6
  ·have t0:decide (((i+j:Nat):Int)<(i:Int)+6)=true:=decide_eq_true (by omega);by_cases ja:i+j=B.size
   ·have hE:(iM B i 6 (kn B i))=.no 10 B.size:=by rw[CD hlt (by simp[kn];omega) hf,if_pos ja]
    have HE:=Lib.hid hE;have HB:=Lib.hid hb;have t1:(((i+j:Nat):Int)==(B.size:Int))=true:=beq_iff_eq.2 (by omega);have HS:=Lib.hid (yM _ B wr hR);have XT:=Lib.hid ja;clear hE hf ja hR hb;go_wp2_with fail;refine HS.out.mono ?_;rintro e w1⟨u,rfl,hx⟩;obtain⟨p,rfl⟩:=hx.form;have HX:=Lib.hid (hx.after HB.out);clear hx;go_wp2;go_ret2;rw[HE.out];exact⟨_,rfl,HX.out⟩
   ·have bP:i+j<B.size:=by
     by_cases h0:j=0
     ·omega
     ·have:=CF (hf (j-1) (by omega));omega
    obtain⟨a',c',e1,_,_,hc⟩:=hR.eY;cases e1;obtain⟨b,off,rfl,_,x0⟩:=hc (by omega);have x1:=x0 (i+j) bP;have t1:(((i+j:Nat):Int)==(B.size:Int))=false:=beq_eq_false_iff_ne.2 (by omega);have stop:kn B i j=false→(iM B i 6 (kn B i))=.no 11 (i+j:Nat):=fun hb=>by rw[CD hlt hb hf,if_neg ja]
    have go:kn B i j=true→∀W,Below w.heap.size w W→MX B i w (.int .i64 ((i+j:Nat)+1:Int)) W:=fun ht W hW=>⟨j+1,by go_num,by omega,hW,fun m hm=>by
     by_cases e:m=j
     ·subst e;exact ht
     ·exact hf m (by omega)⟩
    have hw:kn B i j=(if j=0 then af B i==92 else if j=1 then af B (i+1)==117 else km (af B (i+j))):=by unfold kn;rw[decide_eq_true bP,Bool.true_and]
    have Yj:j=0∨j=1∨2≤j:=by omega
    rcases Yj with rfl|rfl|hj2
    ·rw[if_pos rfl]at hw;simp only[Nat.add_zero]at*;have t2:((i:Int)==(i:Int))=true:=beq_self_eq_true _;by_cases hx:af B i=92
     ·have t3:((af B i:Int)==92)=true:=beq_iff_eq.2 (by omega);have aO:=Lib.hid (go (by rw[hw];simp[hx]) wr hb);clear go stop hw hf x0 hR hb hx hc;go_wp2;refine⟨?_,by simp[intOf]<;>omega⟩;have R:=aO.out;first|exact R|((repeat apply Exists.intro);exact⟨R,rfl⟩)
     ·have t3:((af B i:Int)==92)=false:=beq_eq_false_iff_ne.2 (by omega);have HE:=Lib.hid (stop (by rw[hw];simp[hx]));have HB:=Lib.hid hb;clear go stop hw hf x0 hR hb hx hc;go_wp2_with fail;refine(fails 11 _ _).mono ?_;rintro e w1⟨u,rfl,hx⟩;obtain⟨p,rfl⟩:=hx.form;have HX:=Lib.hid (hx.after HB.out);clear hx;go_wp2;go_ret2;rw[HE.out];exact⟨_,rfl,HX.out⟩
    ·rw[if_neg (by omega),if_pos rfl]at hw;have t2:(((i+1:Nat):Int)==(i:Int))=false:=beq_eq_false_iff_ne.2 (by omega);have t4:(((i+1:Nat):Int)==(i:Int)+1)=true:=beq_iff_eq.2 (by omega);by_cases hx:af B (i+1)=117
     ·have t3:((af B (i+1):Int)==117)=true:=beq_iff_eq.2 (by omega);have aO:=Lib.hid (go (by rw[hw];simp[hx]) wr hb);clear go stop hw hf x0 hR hb hx hc;generalize hp:i+1=p at*;have HP:=Lib.hid hp;clear hp;go_wp2;refine⟨?_,by have:=HP.out;simp[intOf]<;>omega⟩;have R:=aO.out;first|exact R|((repeat apply Exists.intro);exact⟨R,rfl⟩)
     ·have t3:((af B (i+1):Int)==117)=false:=beq_eq_false_iff_ne.2 (by omega);have HE:=Lib.hid (stop (by rw[hw];simp[hx]));have HB:=Lib.hid hb;clear go stop hw hf x0 hR hb hx hc;generalize hp:i+1=p at*;have HP:=Lib.hid hp;clear hp;go_wp2_with fail;refine(fails 11 _ _).mono ?_;rintro e w1⟨u,rfl,hx⟩;obtain⟨p,rfl⟩:=hx.form;have HX:=Lib.hid (hx.after HB.out);clear hx;go_wp2;go_ret2;rw[HE.out];exact⟨_,rfl,HX.out⟩
    ·rw[if_neg (by omega),if_neg (by omega)]at hw;have t2:(((i+j:Nat):Int)==(i:Int))=false:=beq_eq_false_iff_ne.2 (by omega);have t4:(((i+j:Nat):Int)==(i:Int)+1)=false:=beq_eq_false_iff_ne.2 (by omega);have q1:((i+j:Nat):Int)<(i:Int)+6:=by omega
     generalize hp:i+j=p at*;have HP:=Lib.hid hp;have cv:=sM wr b (off+p) 1 (c-p) (gH B p 1) (pV B p 1 (by omega)) (fun k hk=>by(obtain rfl:k=0:=by omega);rw[oM B p 1 0 hk,Nat.add_zero,Nat.add_zero];exact x1);have cq:=MO (gH B p 1) 65535 wr (by rw[pV B p 1 (by omega)];omega) (by decide);rw[Yh B p bP]at cq;have q2:(p:Int)<(c:Int):=by omega
     have q3:p+1≤c:=by omega
     cases hx:km (af B p)with
     |true=>rw[hx,if_pos rfl]at cq;have cq:=Lib.hid cq;have HG:=Lib.hid (go (by rw[hw];exact hx));have HB:=Lib.hid hb;clear go stop hw hf x0 hR hb hx hc hp;go_wp2_with fail;refine cq.out.mono ?_;rintro e w1⟨rfl,ar⟩;have R:=HG.out w1 (aF HB.out ar);have aO:=Lib.hid R;clear R ar;go_wp2;refine⟨?_,by have:=HP.out;simp[intOf]<;>omega⟩;have R:=aO.out;first|exact R|((repeat apply Exists.intro);exact⟨R,rfl⟩)
     |false=>rw[hx,if_neg (by simp)]at cq;have cq:=Lib.hid cq;have HE:=Lib.hid (stop (by rw[hw];exact hx));have HB:=Lib.hid hb;clear go stop hw hf x0 hR hb hx hc hp;go_wp2_with fail;refine cq.out.mono ?_;rintro e w1⟨u,rfl,Gq⟩;have aQ:=Lib.hid (aF HB.out Gq.2);clear Gq;go_wp2_with fail;refine(fails 11 _ _).mono ?_;rintro e w2⟨u2,rfl,hx⟩;obtain⟨p2,rfl⟩:=hx.form;have HX:=Lib.hid (hx.after aQ.out);clear hx;go_wp2;go_ret2;rw[HE.out];exact⟨_,rfl,HX.out⟩
  ·obtain rfl:j=6:=by omega
   have hE:(iM B i 6 (kn B i))=.ok ():=Mr hf;have hsz:i+6≤B.size:=by have:=CF (hf 5 (by omega));omega
   have yV:∀k,k<4→km (af B (i+2+k))=true:=fun k hk=>by have:=hf (k+2) (by omega);simp only[kn,Bool.and_eq_true]at this;rw[if_neg (by omega),if_neg (by omega)]at this;rw[show i+2+k=i+(k+2)by omega];exact this.2
   obtain⟨MZ,ai4⟩:=Yi B (i+2) (by omega) yV;obtain⟨a',c',e1,_,_,hc⟩:=hR.eY;cases e1;obtain⟨b,off,rfl,_,x0⟩:=hc (by omega);have cv:=sM wr b (off+(i+2)) 4 (c-(i+2)) (gH B (i+2) 4) (pV B (i+2) 4 (by omega)) (fun k hk=>by rw[oM B (i+2) 4 k hk,Nat.add_assoc];exact x0 (i+2+k) (by omega));have cq:=MO (gH B (i+2) 4) 65535 wr (by rw[pV B (i+2) 4 (by omega)];omega) (by decide);rw[MZ]at cq;have cq:=Lib.hid cq;have HE:=Lib.hid hE;have HB:=Lib.hid hb
   generalize hN:pS B (i+2)=N at*;have HN:=Lib.hid hN;have q0:i+6≤c:=by omega
   have q1:(i:Int)+2≤(c:Int):=by omega
   have q2:(i:Int)+6≤(c:Int):=by omega
   have q3:(N:Int)<65536:=by omega
   clear hf hE yV MZ hR hc x0 hb hN;go_wp2_with fail;refine cq.out.mono ?_;rintro e w1⟨rfl,ar⟩;have aQ:=Lib.hid (aF HB.out ar);clear ar;go_wp2;go_ret2;rw[HE.out,Sc.fA,HN.out];exact⟨rfl,aQ.out⟩
section
variable{v:Value}{B:ByteArray}{w:World}
theorem M0{i n:Nat}(hr:jB B i=.ok n)(h:Rd (Own w) w v (dF B))(hm:B.size≤1100000)(hi:i≤B.size):Calls Tryz.prog 185 #[v,.int .i64 i] w fun ev w'=>ev=.returned (.tuple #[.int .i64 n,.nilIface])∧Below w.heap.size w w':=by have:=MY v B i w h hm hi;rwa[hr]at this
theorem M1{i k:Nat}{p:Int}(hr:jB B i=.no k p)(h:Rd (Own w) w v (dF B))(hm:B.size≤1100000)(hi:i≤B.size):Calls Tryz.prog 185 #[v,.int .i64 i] w fun ev w'=>∃u,ev=.returned (.tuple #[.int .i64 0,.iface 85 (.pointer (some u))])∧dK w k p (.iface 85 (.pointer (some u))) w':=by have:=MY v B i w h hm hi;rw[hr]at this;exact this
end
theorem Yk(v:Value)(B:ByteArray)(i:Nat)(w:World)(h:Rd (Own w) w v (dF B))(hm:B.size≤1100000)(hi:i≤B.size):Calls Tryz.prog 173 #[v,.int .i64 i] w (Gm w (uF B i)):=by
 unfold uF;have HR:=Lib.hid h;clear h
 cases hu:jB B i with
 |no k p=>have HU:=Lib.hid (M1 hu HR.out hm hi);clear hu;go_enter Tryz.func173,Tryz.ntmps173;go_wp2_with fail;refine HU.out.mono ?_;rintro e w1⟨u,rfl,hf⟩;have HF:=Lib.hid hf;clear hf;go_wp2;go_ret3;exact⟨_,rfl,HF.out⟩
 |ok n=>
  have HU:=Lib.hid (M0 hu HR.out hm hi);have hn:=FZ hu;have h6:=(yL hu).2.2;clear hu;rw[Sc.fA];have hH:∀W,Calls Tryz.prog 186 #[.int .i64 n] W fun e w'=>e=.returned (.int .i64 (cY n))∧W=w':=fun W=>wN n W;by_cases h0:n<55296∨57343<n
  ·have e0:cY n=0:=by unfold cY;rw[if_neg (by omega),if_neg (by omega)]
   rw[e0]at hH;have HH:=Lib.hid hH;rw[if_pos h0];clear hH e0 h0;go_enter Tryz.func173,Tryz.ntmps173;go_wp2_with fail;refine HU.out.mono ?_;rintro e w1⟨rfl,hb⟩;have HB:=Lib.hid hb;clear hb;go_wp2_with fail;refine(HH.out _).mono ?_;rintro e w2⟨rfl,rfl⟩;go_wp2;go_ret3;exact⟨rfl,HB.out⟩
  ·rw[if_neg h0];by_cases h1:n<56320
   ·have e0:cY n=1:=by unfold cY;rw[if_pos (by omega)]
    rw[e0]at hH;have HH:=Lib.hid hH;rw[if_pos h1]
    cases hl:jB B (i+6)with
    |ok m=>
     have iw:=FZ hl;have HL:=Lib.hid (fun W(hW:Below w.heap.size w W)=>M0 hl (HR.out.ext hW) hm h6);clear hH e0 hl;by_cases hc:56320≤m∧m≤57343
     ·have HW:=Lib.hid (fun W=>Yg (n:Int) (m:Int) W (by omega) (by omega) (by omega) (by omega));have HE:jC B i n (.ok m)=.ok (65536+(n-55296)*1024+(m-56320),12):=by simp only[jC];rw[if_pos hc]
      have HE:=Lib.hid HE;have hv:Gn n m=((65536+(n-55296)*1024+(m-56320):Nat):Int):=by unfold Gn;omega
      have HV:=Lib.hid hv;clear hc h0 h1 hv;go_enter Tryz.func173,Tryz.ntmps173;go_wp2_with fail;refine HU.out.mono ?_;rintro e w1⟨rfl,hb⟩;have HB:=Lib.hid hb;clear hb;go_wp2_with fail;refine(HH.out _).mono ?_;rintro e w2⟨rfl,rfl⟩;go_wp2_with fail;refine(HL.out _ HB.out).mono ?_;rintro e w2⟨rfl,hb⟩;have aP:=Lib.hid (aF HB.out hb);clear hb;go_wp2_with fail;refine(HW.out _).mono ?_;rintro e w3⟨rfl,rfl⟩;go_wp2;go_ret3;rw[HE.out];refine⟨?_,aP.out⟩;rw[←HV.out];rfl
     ·have HW:=Lib.hid (fun W=>MW (n:Int) (m:Int) W (by omega));have HE:jC B i n (.ok m)=.no 11 i:=by simp only[jC];rw[if_neg hc]
      have HE:=Lib.hid HE;clear hc h0 h1;go_enter Tryz.func173,Tryz.ntmps173;go_wp2_with fail;refine HU.out.mono ?_;rintro e w1⟨rfl,hb⟩;have HB:=Lib.hid hb;clear hb;go_wp2_with fail;refine(HH.out _).mono ?_;rintro e w2⟨rfl,rfl⟩;go_wp2_with fail;refine(HL.out _ HB.out).mono ?_;rintro e w2⟨rfl,hb⟩;have aP:=Lib.hid (aF HB.out hb);clear hb;go_wp2_with fail;refine(HW.out _).mono ?_;rintro e w3⟨rfl,rfl⟩;go_wp2_with fail;refine(Cw (S:=Own w2) .nilIface 10 [] w2 (by simp only[cz];exact .mW)).mono ?_;rintro e w3⟨rfl,rfl⟩
      rw[show isKind [] 10=false from rfl];go_wp2_with fail;refine(fails 11 _ _).mono ?_;rintro e w4⟨u2,rfl,hx⟩;obtain⟨p2,rfl⟩:=hx.form;have HX:=Lib.hid (hx.after aP.out);clear hx;go_wp2;go_ret3;rw[HE.out];exact⟨_,rfl,HX.out⟩
    |no k p=>
     have HL:=Lib.hid (fun W(hW:Below w.heap.size w W)=>M1 hl (HR.out.ext hW) hm h6);have HW:=Lib.hid (fun W=>MW (n:Int) 0 W (by omega));clear hH e0 hl h0 h1;by_cases hk:k=10
     ·have HE:jC B i n (.no k p)=.no 10 p:=by simp only[jC];rw[if_pos hk]
      have HE:=Lib.hid HE;subst hk;go_enter Tryz.func173,Tryz.ntmps173;go_wp2_with fail;refine HU.out.mono ?_;rintro e w1⟨rfl,hb⟩;have HB:=Lib.hid hb;clear hb;go_wp2_with fail;refine(HH.out _).mono ?_;rintro e w2⟨rfl,rfl⟩;go_wp2_with fail;refine(HL.out _ HB.out).mono ?_;rintro e w2⟨u,rfl,hf⟩;have HF:=Lib.hid hf;clear hf;go_wp2_with fail;refine(HW.out _).mono ?_;rintro e w3⟨rfl,rfl⟩;go_wp2_with fail;refine(Cw _ 10 [((10:Nat),p)] w2 HF.out.1).mono ?_;rintro e w3⟨rfl,rfl⟩
      rw[show isKind [((10:Nat),p)] 10=true from rfl];have HX:=Lib.hid (HF.out.after HB.out);go_wp2;go_ret3;rw[HE.out];exact⟨_,rfl,HX.out⟩
     ·have HE:jC B i n (.no k p)=.no 11 i:=by simp only[jC];rw[if_neg hk]
      have HE:=Lib.hid HE;have lf:isKind [((k:Int),p)] 10=false:=by simp;omega
      have HK:=Lib.hid lf;clear hk lf;go_enter Tryz.func173,Tryz.ntmps173;go_wp2_with fail;refine HU.out.mono ?_;rintro e w1⟨rfl,hb⟩;have HB:=Lib.hid hb;clear hb;go_wp2_with fail;refine(HH.out _).mono ?_;rintro e w2⟨rfl,rfl⟩;go_wp2_with fail;refine(HL.out _ HB.out).mono ?_;rintro e w2⟨u,rfl,hf⟩;have HF:=Lib.hid hf;clear hf;go_wp2_with fail;refine(HW.out _).mono ?_;rintro e w3⟨rfl,rfl⟩;go_wp2_with fail;refine(Cw _ 10 [((k:Int),p)] w2 HF.out.1).mono ?_;rintro e w3⟨rfl,rfl⟩;rw[HK.out]
      have aP:=Lib.hid (HF.out.after HB.out).2;go_wp2_with fail;refine(fails 11 _ _).mono ?_;rintro e w4⟨u2,rfl,hx⟩;obtain⟨p2,rfl⟩:=hx.form;have HX:=Lib.hid (hx.after aP.out);clear hx;go_wp2;go_ret3;rw[HE.out];exact⟨_,rfl,HX.out⟩
   ·have e0:cY n=2:=by unfold cY;rw[if_neg (by omega),if_pos (by omega)]
    rw[e0]at hH;have HH:=Lib.hid hH;rw[if_neg h1];clear hH e0 h0;go_enter Tryz.func173,Tryz.ntmps173;go_wp2_with fail;refine HU.out.mono ?_;rintro e w1⟨rfl,hb⟩;have HB:=Lib.hid hb;clear hb;go_wp2_with fail;refine(HH.out _).mono ?_;rintro e w2⟨rfl,rfl⟩;go_wp2_with fail;refine(fails 11 _ _).mono ?_;rintro e w2⟨u2,rfl,hx⟩;obtain⟨p2,rfl⟩:=hx.form;have HX:=Lib.hid (hx.after HB.out);clear hx;go_wp2;go_ret3;exact⟨_,rfl,HX.out⟩
theorem Yl(v:Value)(B:ByteArray)(i:Nat)(w:World)(h:Rd (Own w) w v (dF B))(hm:B.size≤1100000)(hi:i<B.size):Calls Tryz.prog 153 #[v,.int .i64 i] w (Gm w (pT B i)):=by
 unfold pT;have HS:=Lib.hid (yM v B w h);have HP:=Lib.hid (Yk v B i w h hm (by omega));obtain⟨a,c,rfl,_,_,hc⟩:=h.eY;clear h;by_cases h1:i+1=B.size
 ·rw[if_pos h1];have t:((i:Int)+1==(B.size:Int))=true:=beq_iff_eq.2 (by omega);clear hc h1;go_enter Tryz.func153,Tryz.ntmps153;go_wp2_with fail;refine HS.out.mono ?_;rintro e w1⟨u,rfl,hx⟩;obtain⟨p,rfl⟩:=hx.form;have HX:=Lib.hid hx;clear hx;go_wp2;go_ret3;exact⟨_,rfl,HX.out⟩
 ·rw[if_neg h1];have t:((i:Int)+1==(B.size:Int))=false:=beq_eq_false_iff_ne.2 (by omega);obtain⟨b,off,rfl,_,x0⟩:=hc (by omega);have x1:=x0 (i+1) (by omega);have hlt:i+1<B.size:=by omega
  have q1:(i:Int)+1<(B.size:Int):=by omega
  have b9:=dm B (i+1);by_cases hu:af B (i+1)=117
  ·rw[if_pos hu];have t2:((af B (i+1):Int)==117)=true:=beq_iff_eq.2 (by omega);clear hc x0 h1 hu;go_enter Tryz.func153,Tryz.ntmps153;go_wp2_with fail;refine HP.out.mono ?_;intro e w1 bV
   cases hr:uF B i with
   |ok x=>rw[hr]at bV;obtain⟨rfl,hb⟩:=bV;have HB:=Lib.hid hb;have HQ:=Lib.hid hr;clear hb hr;go_wp2;go_ret3;rw[HQ.out];exact⟨rfl,HB.out⟩
   |no k p=>rw[hr]at bV;obtain⟨u,rfl,hf⟩:=bV;have HF:=Lib.hid hf;have HQ:=Lib.hid hr;clear hf hr;go_wp2;go_ret3;rw[HQ.out];exact⟨_,rfl,HF.out⟩
  ·rw[if_neg hu];have t2:((af B (i+1):Int)==117)=false:=beq_eq_false_iff_ne.2 (by omega);have hs:=XV (af B (i+1)) w b9
   cases hx:sG (af B (i+1))with
   |some x=>(have oH:x<256:=by unfold sG at hx;(repeat' split at hx);all_goals first|(cases hx;done)|(cases hx;omega));(have e0:uJ (af B (i+1))=(.int .u8 x,.bool true):=by unfold uJ;rw[hx]);rw[e0]at hs;have Gr:=Lib.hid hs;clear hs e0 hx hc x0 h1 hu;go_enter Tryz.func153,Tryz.ntmps153;go_wp2_with fail;refine Gr.out.mono ?_;rintro e w1⟨rfl,rfl⟩;go_wp2;go_ret3;exact⟨rfl,Below.refl _ _⟩
   |none=>(have e0:uJ (af B (i+1))=(.int .u8 0,.bool false):=by unfold uJ;rw[hx]);rw[e0]at hs;have Gr:=Lib.hid hs;clear hs e0 hx hc x0 h1 hu;go_enter Tryz.func153,Tryz.ntmps153;go_wp2_with fail;refine Gr.out.mono ?_;rintro e w1⟨rfl,rfl⟩;go_wp2_with fail;refine(fails 11 _ _).mono ?_;rintro e w4⟨u2,rfl,hx⟩;obtain⟨p2,rfl⟩:=hx.form;have HX:=Lib.hid hx;clear hx;go_wp2;go_ret3;exact⟨_,rfl,HX.out⟩
end Go.Proofs.YtcaiibkgajhohaaGreatDoor
