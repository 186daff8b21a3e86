/- waybill: lemmas and walks, printed from longer texts. -/
import Derived.Test.YtcaiibkgajhohaaGreatDoorM06
import Derived.Lib.RuneBytes
set_option maxRecDepth 100000
set_option maxHeartbeats 16000000
namespace Go.Proofs.YtcaiibkgajhohaaGreatDoor
open Go.RowKit
theorem Ym{B:ByteArray}{i:Nat}(_h:bR B i≠(65533,1)):dv ((bR B i).1:Int)=true:=by have h0:=dm B i;have h1:=dm B (i+1);have h2:=dm B (i+2);have h3:=dm B (i+3);rw[k_];unfold bR Go.Lib.decodeN at _h⊢;(repeat' split);all_goals first|(simp only;omega)|(exfalso;simp_all;done)|skip
theorem M3{B:ByteArray}{i:Nat}{x:Nat×Nat}(h:kr B i=.ok x):dv (x.1:Int)=true:=by
 unfold kr at h;split at h
 ·unfold pT at h;split at h
  ·cases h
  ·split at h
   ·obtain⟨n,h1,h2⟩:=Sc.dT h;have hn:=FZ h1;split at h2
    ·obtain rfl:=Sc.ok.inj h2;rw[k_];simp only;omega
    ·split at h2
     ·cases hl:jB B (i+6)with
      |ok m=>
       rw[hl]at h2;simp only[jC]at h2;split at h2
       ·obtain rfl:=Sc.ok.inj h2;rw[k_];simp only;omega
       ·cases h2
      |no k j=>rw[hl]at h2;simp only[jC]at h2;split at h2<;>cases h2
     ·cases h2
   ·split at h
    ·rename_i y hy;obtain rfl:=Sc.ok.inj h;have hc:=dm B (i+1);have:y<256:=by unfold sG at hy;(repeat' split at hy);all_goals first|(cases hy;done)|(cases hy;omega)
     rw[k_];simp only;omega
    ·cases h
 ·unfold lW at h;split at h
  ·cases h
  ·split at h
   ·cases h
   ·rename_i hne;obtain rfl:=Sc.ok.inj h;exact Ym hne
inductive yW(I:List Nat→World→Prop):Value→Prop
 |nil(h:∀acc c W,I acc W→I (acc++[c]) W):yW I .nilFunc
 |fn(L:Nat)(h:∀acc(c:Nat)W,acc.length≤1100000→I acc W→dv (c:Int)=true→Calls Tryz.prog 156 #[.int .i64 c,.pointer (some ⟨L,0,none⟩)] W fun e W'=>e=.returned (.tuple #[])∧I (acc++[c]) W'):yW I (.func (.func 156) #[] #[.pointer (some ⟨L,0,none⟩)])
structure Gs(v:Value)(B:ByteArray)(I:List Nat→World→Prop):Prop where
 reads:∀acc W,I acc W→Rd (Own W) W v (dF B)
 wP:∀acc W,I acc W→nu W
 ext:∀acc W W',I acc W→Below W.heap.size W W'→I acc W'
def Yn(I:List Nat→World→Prop)(r:Sc (List Nat×Nat))(e:Ending)(w':World):Prop:=match r with
  |.ok x=>e=.returned (.tuple #[.int .i64 x.2,.nilIface])∧I x.1 w'
  |.no k i=>∃u acc W,e=.returned (.tuple #[.int .i64 0,.iface 85 (.pointer (some u))])∧I acc W∧dK W k i (.iface 85 (.pointer (some u))) w'
theorem Yo(d:Nat)(w:World):(Op.equalIn (d+1) 77 .nilFunc .nilFunc).run Tryz.prog w=.ok true w:=by simp[Op.equalIn,run_underlying (P:=Tryz.prog) Tryz.underlying77]
theorem Yp(d:Nat)(k:FuncId)(b:Array Value)(w:World):(Op.equalIn (d+1) 77 (.func (.func k) #[] b) .nilFunc).run Tryz.prog w=.ok false w:=by simp[Op.equalIn,run_underlying (P:=Tryz.prog) Tryz.underlying77]
theorem M4(w:World):(binOp .neq 77 .nilFunc .nilFunc).run Tryz.prog w=.ok (.bool false) w:=by simp only[binOp];simp[Op.equal,Op.maxDepth,Yo 9999 w]
theorem M5(k:FuncId)(b:Array Value)(w:World):(binOp .neq 77 (.func (.func k) #[] b) .nilFunc).run Tryz.prog w=.ok (.bool true) w:=by simp only[binOp];simp[Op.equal,Op.maxDepth,Yp 9999 k b w]
def yX(B:ByteArray)(I:List Nat→World→Prop)(R:Sc (List Nat×Nat))(k:Value)(wr:World):Prop:=∃(j:Nat)(acc:List Nat),k=.int .i64 j∧j≤B.size∧acc.length≤j∧I acc wr∧jW B j acc=R
theorem M6(v:Value)(B:ByteArray)(i:Nat)(I:List Nat→World→Prop)(tell:Value)(yY:List Nat)(w:World)(hT:Gs v B I)(ht:yW I tell)(hI:I yY w)(hm:B.size≤1100000)(hi:i≤B.size)(ha:yY.length≤i):Calls Tryz.prog 117 #[v,.int .i64 i,tell] w (Yn I (jW B i yY)):=by
 obtain⟨R,hR⟩:∃R,jW B i yY=R:=⟨_,rfl⟩;rw[hR];obtain⟨a,c,rfl,_,_,_⟩:=(hT.reads _ _ hI).eY;have HR:=Lib.hid hR;have HT:=Lib.hid hT;have M7:=Lib.hid ht;have HI:=Lib.hid hI;clear hR hT ht hI;go_enter Tryz.func117,Tryz.ntmps117;go_wp2_with fail;go_loopw[1](yX B I R)(fun k _=>B.size-(intOf k).toNat);case atStart=>exact⟨i,yY,rfl,hi,ha,HI.out,HR.out⟩
 case round=>
  obtain⟨j,acc,rfl,hj,iN,hI,hr⟩:=hrel;rw[Mu hj]at hr;have gm:=HT.out.reads _ _ hI;by_cases ja:j=B.size
  ·rw[if_pos ja]at hr;subst hr;have t1:((j:Int)==(B.size:Int))=true:=beq_iff_eq.2 (by omega);have HS:=Lib.hid (yM _ B wr gm);have oN:=Lib.hid hI;clear gm hI ja;go_wp2_with fail;refine HS.out.mono ?_;rintro e w1⟨u,rfl,hx⟩;obtain⟨p,rfl⟩:=hx.form;have HX:=Lib.hid hx;clear hx;go_wp2;go_ret2;exact⟨_,_,_,rfl,oN.out,HX.out⟩
  ·rw[if_neg ja]at hr;have hlt:j<B.size:=by omega
   have t1:((j:Int)==(B.size:Int))=false:=beq_eq_false_iff_ne.2 (by omega);obtain⟨a',c',e1,_,_,hc⟩:=gm.eY;cases e1;obtain⟨b,off,rfl,_,x0⟩:=hc (by omega);have x1:=x0 j hlt;have b9:=dm B j;by_cases hq:af B j=34
   ·rw[if_pos hq]at hr;subst hr;have t2:((af B j:Int)==34)=true:=beq_iff_eq.2 (by omega);have oN:=Lib.hid hI;clear gm hI ja x0 hc hq;go_wp2;go_ret2;exact⟨rfl,oN.out⟩
   ·rw[if_neg hq]at hr;have t2:((af B j:Int)==34)=false:=beq_eq_false_iff_ne.2 (by omega);by_cases hs:af B j<32
    ·rw[if_pos hs]at hr;subst hr;have t3:decide ((af B j:Int)<32)=true:=decide_eq_true (by omega);have oN:=Lib.hid hI;clear gm hI ja x0 hc hq;go_wp2_with fail;refine(fails 11 _ _).mono ?_;rintro e w1⟨u,rfl,hx⟩;obtain⟨p,rfl⟩:=hx.form;have HX:=Lib.hid hx;clear hx;go_wp2;go_ret2;exact⟨_,_,_,rfl,oN.out,HX.out⟩
    ·rw[if_neg hs]at hr;have t3:decide ((af B j:Int)<32)=false:=decide_eq_false (by omega);have cE:=Yl _ B j wr gm hm hlt;have cN:=MV _ B j wr gm (HT.out.wP _ _ hI) hm hlt;have hstep:kr B j=kr B j:=rfl;conv at hstep=>rhs;unfold kr
     have eO:af B j=92∨af B j≠92:=by omega
     cases hx:kr B j with
     |no k p=>
      rw[hx]at hr hstep;rw[Sc.Xw]at hr;subst hr;have oN:=Lib.hid hI;rcases eO with eO|eO
      ·rw[if_pos eO]at hstep;rw[←hstep]at cE;have CE:=Lib.hid cE;have t4:((af B j:Int)==92)=true:=beq_iff_eq.2 (by omega);clear hstep gm hI ja x0 hc hq hs cE cN hx eO;go_wp2_with fail;refine CE.out.mono ?_;rintro e w1⟨u,rfl,hx⟩;have HX:=Lib.hid hx;clear hx;go_wp2;go_ret2;exact⟨_,_,_,rfl,oN.out,HX.out⟩
      ·rw[if_neg eO]at hstep;rw[←hstep]at cN;have CE:=Lib.hid cN;have t4:((af B j:Int)==92)=false:=beq_eq_false_iff_ne.2 (by omega);clear hstep gm hI ja x0 hc hq hs cE cN hx eO;go_wp2_with fail;refine CE.out.mono ?_;rintro e w1⟨u,rfl,hx⟩;have HX:=Lib.hid hx;clear hx;go_wp2;go_ret2;exact⟨_,_,_,rfl,oN.out,HX.out⟩
     |ok x=>
      have e_:=wK hlt hx;have M8:=Lib.hid (M3 hx);rw[hx]at hr hstep;rw[Sc.fA]at hr;obtain⟨ch,n⟩:=x;simp only at hr e_;have C0:=Lib.hid hr;have oN:=Lib.hid hI;have hn1:0<n:=e_.1;have C2:j+n≤B.size:=e_.2;rcases eO with eO|eO
      ·rw[if_pos eO]at hstep;rw[←hstep]at cE;have CE:=Lib.hid cE;have t4:((af B j:Int)==92)=true:=beq_iff_eq.2 (by omega);clear hstep gm hI ja x0 hc hq hs cE cN hx eO hr e_;go_wp2_with fail;refine CE.out.mono ?_;rintro e w1⟨rfl,hb⟩;have rl:=Lib.hid (HT.out.ext _ _ _ oN.out hb);clear hb
       cases M7.out with
       |nil h=>have R:yX B I R (.int .i64 (j+n)) w1:=⟨j+n,_,by go_num,C2,by simp;omega,h _ ch _ rl.out,C0.out⟩;have aO:=Lib.hid R;have rn:=M4;clear R h;go_wp2;refine⟨?_,by simp[intOf]<;>omega⟩;have R:=aO.out;first|exact R|((repeat apply Exists.intro);exact⟨R,rfl⟩)
       |fn L h=>have CT:=Lib.hid (h _ ch _ (by omega) rl.out M8.out);have rn:=M5;clear h;go_wp2_with fail;refine CT.out.mono ?_;rintro e w2⟨rfl,yZ⟩;have R:yX B I R (.int .i64 (j+n)) w2:=⟨j+n,_,by go_num,C2,by simp;omega,yZ,C0.out⟩;have aO:=Lib.hid R;clear R yZ;go_wp2;refine⟨?_,by simp[intOf]<;>omega⟩;have R:=aO.out;first|exact R|((repeat apply Exists.intro);exact⟨R,rfl⟩)
      ·rw[if_neg eO]at hstep;rw[←hstep]at cN;have CE:=Lib.hid cN;have t4:((af B j:Int)==92)=false:=beq_eq_false_iff_ne.2 (by omega);clear hstep gm hI ja x0 hc hq hs cE cN hx eO hr e_;go_wp2_with fail;refine CE.out.mono ?_;rintro e w1⟨rfl,hb⟩;have rl:=Lib.hid (HT.out.ext _ _ _ oN.out hb);clear hb
       cases M7.out with
       |nil h=>have R:yX B I R (.int .i64 (j+n)) w1:=⟨j+n,_,by go_num,C2,by simp;omega,h _ ch _ rl.out,C0.out⟩;have aO:=Lib.hid R;have rn:=M4;clear R h;go_wp2;refine⟨?_,by simp[intOf]<;>omega⟩;have R:=aO.out;first|exact R|((repeat apply Exists.intro);exact⟨R,rfl⟩)
       |fn L h=>have CT:=Lib.hid (h _ ch _ (by omega) rl.out M8.out);have rn:=M5;clear h;go_wp2_with fail;refine CT.out.mono ?_;rintro e w2⟨rfl,yZ⟩;have R:yX B I R (.int .i64 (j+n)) w2:=⟨j+n,_,by go_num,C2,by simp;omega,yZ,C0.out⟩;have aO:=Lib.hid R;clear R yZ;go_wp2;refine⟨?_,by simp[intOf]<;>omega⟩;have R:=aO.out;first|exact R|((repeat apply Exists.intro);exact⟨R,rfl⟩)
def rm(n:Nat):List Value:=(bm n).map fun x:Nat=>Value.int .u8 (x:Int)
theorem GA:∀{acc:List Nat},gJ acc→jb (strOf acc)=acc.flatMap rm
 |[],_=>rfl
 |c::acc,h=>by have ih:=GA (acc:=acc) (fun x hx=>h x (List.mem_cons_of_mem _ hx));have hc:=C6 (h c (by simp));unfold jb strOf at ih⊢;rw[List.toList_toArray]at ih⊢;rw[List.flatMap_cons,List.map_append,List.map_append,ih,List.flatMap_cons];congr 1;unfold rm;rw[List.map_map];apply List.map_congr_left;intro x hx;have:=CW hc x hx;simp;omega
theorem C9:∀acc:List Nat,(strOf acc).size≤4*acc.length
 |[]=>by simp[Gx]
 |c::acc=>by have ih:=C9 acc;have:=YP c;rw[Gx]at ih⊢;rw[List.flatMap_cons,List.length_append,List.length_cons];omega
theorem YZ{c:Nat}(h:dv (c:Int)=true):Go.Lib.runeCells (c:Int)=rm c:=by
 have hc:=(k_ _).1 h;unfold Go.Lib.runeCells rm bm;by_cases h1:c<128
 ·rw[if_pos h1,Go.Lib.encodeRuneZ_one (by omega) (by omega)];rfl
 ·rw[if_neg h1];by_cases h2:c<2048
  ·rw[if_pos h2,Go.Lib.encodeRuneZ_two (by omega) (by omega)];simp
  ·rw[if_neg h2];by_cases h3:c<65536
   ·rw[if_pos h3,Go.Lib.encodeRuneZ_three (by omega)];simp
   ·rw[if_neg h3,Go.Lib.encodeRuneZ_four (by omega) (by omega)];simp
theorem Nk(B:ByteArray):(jb B).length=B.size:=by simp[jb]
theorem Y0{acc:List Nat}{c:Nat}(h:gJ acc)(hc:dv (c:Int)=true):jb (strOf (acc++[c]))=jb (strOf acc)++rm c:=by rw[GA (h.snoc hc),GA h,List.flatMap_append];simp
theorem Y2{acc:List Nat}{j:Nat}(hj:j<acc.length):acc.take (j+1)=acc.take j++[acc[j]]:=List.take_succ_eq_append_getElem hj
theorem Nl{B:ByteArray}:∀f i acc x,gJ acc→kt B f i acc=.ok x→gJ x.1
 |0,i,acc,x,_,h=>by cases h
 |f+1,i,acc,x,ha,h=>by
  rw[kt]at h;split at h
  ·cases h
  ·split at h
   ·cases h;exact ha
   ·split at h
    ·cases h
    ·obtain⟨y,h1,h2⟩:=Sc.dT h;exact Nl f _ _ x (ha.snoc (M3 h1)) h2
theorem Nn{B:ByteArray}{i:Nat}{x:List Nat×Nat}(h:jW B i []=.ok x):gJ x.1:=Nl _ _ _ _ (fun c hc=>by cases hc) h
theorem No{B:ByteArray}:∀f i acc x,i≤B.size→kt B f i acc=.ok x→x.1.length≤acc.length+(B.size-i)
 |0,i,acc,x,_,h=>by cases h
 |f+1,i,acc,x,hi,h=>by
  rw[kt]at h;split at h
  ·cases h
  ·split at h
   ·cases h;simp
   ·split at h
    ·cases h
    ·obtain⟨y,h1,h2⟩:=Sc.dT h;have hs:=wK (by omega) h1;have:=No f _ _ x hs.2 h2;rw[List.length_append,List.length_cons,List.length_nil]at this;omega
theorem GB{B:ByteArray}{i:Nat}{x:List Nat×Nat}(hi:i≤B.size)(h:jW B i []=.ok x):x.1.length≤B.size:=by have:=No _ _ _ _ hi h;simp at this;omega
def fa(B:ByteArray)(t:Tok):Option ByteArray:=match b_ B t.fr with
  |.ok x=>if x=t∧t.kind=7 then(match jW B (t.fr.toNat+1) []with|.ok y=>some (strOf y.1)|.no _ _=>none)else none
  |.no _ _=>none
theorem Np{B:ByteArray}{t:Tok}(h:b_ B t.fr=.ok t)(h7:t.kind=7):∃(p:Nat)(y:List Nat×Nat),t.fr=p∧p<B.size∧af B p=34∧jW B (p+1) []=.ok y:=by
 unfold b_ at h;split at h
 ·cases h
 ·rename_i hn;obtain⟨p,hp⟩:=Int.eq_ofNat_of_zero_le (show 0≤t.fr by omega);rw[hp,Int.toNat_natCast]at h;unfold sH at h;obtain⟨x,h1,h2⟩:=Sc.dT h;have Nq:=Sc.ok.inj h2;have hk:x.1=7:=by have:=congrArg Tok.kind Nq;simp only at this;omega
  have hf:skip jV B p=p:=by have:=congrArg Tok.fr Nq;simp only at this;omega
  rw[hf]at h1;have ajl:p≤B.size:=by omega
  unfold ng at h1;split at h1
  ·cases h1;simp at hk
  ·rename_i hpe;split at h1
   ·rename_i hm;have hlt:oJ.idxOf (af B p)<6:=List.idxOf_lt_length_iff.2 (by simpa using hm);cases h1;simp only at hk;omega
   ·split at h1
    ·rename_i Nr;obtain⟨y,h3,h4⟩:=Sc.dT h1;exact⟨p,y,hp,by omega,Nr,h3⟩
    ·split at h1
     ·obtain⟨y,h3,h4⟩:=Sc.dT h1;cases h4;simp at hk
     ·split at h1
      ·obtain⟨y,h3,h4⟩:=Sc.dT h1;cases h4;simp at hk
      ·split at h1
       ·obtain⟨y,h3,h4⟩:=Sc.dT h1;cases h4;simp at hk
       ·split at h1
        ·obtain⟨y,h3,h4⟩:=Sc.dT h1;cases h4;simp at hk
        ·cases h1
theorem ZE(n:Int)(w:World):Calls Tryz.prog 164 #[.int .i64 n] w fun e w'=>e=.returned (.int .i64 (cY n))∧w=w':=by
 by_cases h1:n<55296
 ·have t1:decide ((55296:Int)≤n)=false:=decide_eq_false (by omega);have t2:decide ((56320:Int)≤n)=false:=decide_eq_false (by omega);have HE:Hid (cY n=0):=Lib.hid (by unfold cY;rw[if_neg (by omega),if_neg (by omega)]);clear h1;go_enter Tryz.func164,Tryz.ntmps164;go_wp2;go_ret;exact⟨by rw[HE.out];rfl,rfl⟩
 ·have t1:decide ((55296:Int)≤n)=true:=decide_eq_true (by omega);by_cases h2:n<56320
  ·have t2:decide (n<56320)=true:=decide_eq_true (by omega);have HE:Hid (cY n=1):=Lib.hid (by unfold cY;rw[if_pos (by omega)]);clear h1 h2;go_enter Tryz.func164,Tryz.ntmps164;go_wp2;go_ret;exact⟨by rw[HE.out];rfl,rfl⟩
  ·have t2:decide (n<56320)=false:=decide_eq_false (by omega);have t3:decide ((56320:Int)≤n)=true:=decide_eq_true (by omega);by_cases h3:n<57344
   ·have t4:decide (n<57344)=true:=decide_eq_true (by omega);have HE:Hid (cY n=2):=Lib.hid (by unfold cY;rw[if_neg (by omega),if_pos (by omega)]);clear h1 h2 h3;go_enter Tryz.func164,Tryz.ntmps164;go_wp2;go_ret;exact⟨by rw[HE.out];rfl,rfl⟩
   ·have t4:decide (n<57344)=false:=decide_eq_false (by omega);have HE:Hid (cY n=0):=Lib.hid (by unfold cY;rw[if_neg (by omega),if_neg (by omega)]);clear h1 h2 h3;go_enter Tryz.func164,Tryz.ntmps164;go_wp2;go_ret;exact⟨by rw[HE.out];rfl,rfl⟩
theorem ZF(n:Int)(w:World):Calls Tryz.prog 133 #[.int .i64 n] w fun e w'=>e=.returned (.bool (dv n))∧w=w':=by
 cases h1:decide ((0:Int)≤n)with
 |false=>have HE:Hid (dv n=false):=Lib.hid (by unfold dv;rw[h1];rfl);go_enter Tryz.func133,Tryz.ntmps133;go_wp2;go_ret;exact⟨by rw[HE.out];rfl,rfl⟩
 |true=>
  cases h2:decide (n<1114112)with
  |false=>have HE:Hid (dv n=false):=Lib.hid (by unfold dv;rw[h1,h2];rfl);go_enter Tryz.func133,Tryz.ntmps133;go_wp2;go_ret;exact⟨by rw[HE.out];rfl,rfl⟩
  |true=>have HE:Hid (dv n=(cY n==0)):=Lib.hid (by unfold dv;rw[h1,h2];rfl);go_enter Tryz.func133,Tryz.ntmps133;go_wp2_with fail;refine(ZE n w).mono ?_;rintro e w'⟨rfl,rfl⟩;go_wp2;go_ret;exact⟨by rw[HE.out];rfl,rfl⟩
def qq(B:Nat)(w:World)(v:Value)(b:Nat):Prop:=B≤b∧b<w.heap.size∧v.ownBlock≠some b
def dN(B:Nat)(e:TypeId)(k:Nat)(w:World)(v:Value)(n:Nat)(ds:List a_):Prop:=∃cells,w.ownsRow B e k v n cells∧bp (qq B w v) w cells ds
section
variable{B k n m:Nat}{e:TypeId}{w w' w6:World}{v v2:Value}{ds dn:List a_}{cells news:List Value}
theorem dN.nil:dN B e k w (.slice none 0 0) 0 []:=⟨[],World.ownsRow_nil w B e k,bp.nil⟩
theorem dN.turn{T:Nat→Prop}(h:dN B e k w v n ds)(ho:ag T w w')(hT:∀b,T b→b<B):dN B e k w' v n ds:=by obtain⟨cells,h1,h2⟩:=h;exact⟨cells,bu h1 (fun g hg=>ho.block g (h1.lt g hg).2 (fun t=>by have:=hT _ t;have:=(h1.lt g hg).1;omega)) (Nat.le_refl _),h2.mono (fun b hb=>ho.block b hb.2.1 (fun t=>by have:=hT _ t;have:=hb.1;omega)) (fun b hb=>⟨hb.1,Nat.lt_of_lt_of_le hb.2.1 ho.size,hb.2.2⟩)⟩
theorem dN.ext(h:dN B e k w v n ds)(hb:Below w.heap.size w w'):dN B e k w' v n ds:=h.turn (T:=fun _=>False) (ag.of hb) (fun _ h=>h.elim)
theorem dN.low{B':Nat}(h:dN B e k w v n ds)(hB:B'≤B):dN B' e k w v n ds:=by obtain⟨cells,h1,h2⟩:=h;exact⟨cells,bu h1 (fun _ _=>rfl) hB,h2.mono (fun _ _=>rfl) (fun b hb=>⟨Nat.le_trans hB hb.1,hb.2⟩)⟩
theorem dN.lt(h:dN B e k w v n ds):∀g,v.ownBlock=some g→B≤g∧g<w.heap.size:=by obtain⟨cells,h1,_⟩:=h;exact h1.lt
theorem dN.push{o:Obj}(h2:bp (qq B w v) w cells ds)(hn:bp (qq B w v) w news dn)(ho:w6.ownsRow B e k v2 m (cells++news))(hg:(w.alloc o).grownBy w6 v.ownBlock)(cf:v.ownBlock=v2.ownBlock∨v2.ownBlock=some (w.heap.size+1)):dN B e k w6 v2 m (ds++dn):=by
 refine⟨_,ho,(h2.append hn).mono (fun b hb=>?_) (fun b hb=>⟨hb.1,?_,?_⟩)⟩
 ·have hl:b<(w.alloc o).heap.size:=by have:=hb.2.1;simp;omega
  exact(hg.block b hl (fun e=>hb.2.2 e.symm)).trans (Below.heap_alloc w o b hb.2.1)
 ·have:=hb.2.1;have h1:=hg.size;simp at h1;omega
 ·rcases cf with h|h
  ·rw[←h];exact hb.2.2
  ·rw[h];intro h1;cases h1;have:=hb.2.1;omega
theorem bp.fresh{lo:Nat}(hn:bp (fun b=>lo≤b∧b<w.heap.size) w news dn)(hB:B≤lo)(hv:∀g,v.ownBlock=some g→g<lo):bp (qq B w v) w news dn:=hn.mono (fun _ _=>rfl) (fun b hb=>⟨Nat.le_trans hB hb.1,hb.2,fun e=>by have:=hv b e;have:=hb.1;omega⟩)
theorem dN.rd(h:dN B e k w v n ds):Rd (fun b=>B≤b∧b<w.heap.size) w v (.list k ds):=by obtain⟨cells,h1,h2⟩:=h;exact mY h1 (h2.mono (fun _ _=>rfl) (fun b hb=>⟨hb.1,hb.2.1⟩)) h1.lt
end
end Go.Proofs.YtcaiibkgajhohaaGreatDoor
