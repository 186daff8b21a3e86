/- AasaWrites answers true at every input whose arguments, with the variables that it reads, are together of bulk at most 1048576. Conditions: the variables unicode/utf8.first, unicode/utf8.acceptRanges, scan.words, subst.classes and errors.errorType hold what the text of the program lays (tied by the given card). -/
import Derived.Test.YtcaiibkgajhohaaGreatDoorM48
import Derived.Test.YtcaiibkgajhohaaGreatDoorCards
import Derived.Test.YtcaiibkgajhohaaGreatDoorTie
import Derived.Deep.DeepHandedRow
set_option maxRecDepth 100000
set_option maxHeartbeats 8000000
namespace Go.Proofs.YtcaiibkgajhohaaGreatDoor.AasaWrites
open Go.RowKit Go.ChangeShapes Go.WideShapes
theorem contract(H:Type)(enc:TypeId×Value→H)(W:World)(base:Nat)(args:Array Value)(ds gs:List (DataW H))(before:List MemPlace)(hval:∀(j:Nat)t v,Tryz.f7.params[j]?=some t→args[j]?=some v→Value.okWide Tryz.prog W .any base t v)(hW:DataW.Whole enc Tryz.prog Tryz.f7.params.toList Rows.aasaWritesSpec.vars false W args.toList ds gs before)(hL:laidMetH Tryz.prog Rows.aasaWritesUptoRow.laid W)(iB:W.ShapedOpen Tryz.prog)(fR:Rows.uptoBulkAll (ds++gs)≤1048576):Calls Tryz.prog 7 args W fun e W'=>∃v,e=.returned v∧Rows.aasaWritesSpec.post enc Tryz.prog Tryz.f7 false true false false W args v W':=by
 have FU:=hW;obtain⟨p,q,hA,hV,rfl,hfz,jf⟩:=hW;rw[Tryz.params7]at hA hval;obtain⟨v0,vs0,d0,ds0,p0,q0,amI,rfl,rfl,h0,r0⟩:=trodAll_cons hA;obtain⟨rfl,rfl,rfl⟩:=trodAll_nil r0;obtain rfl:args=#[v0]:=by cases args;simp_all
 obtain⟨rfl,rfl⟩:=trodVars_none hV;refine Xn Xp ?_ (by rfl) Tryz.underlying4 rfl FU rfl rfl rfl ?_
 ·rw[Tryz.params7];intro t ht;simp at ht;subst ht;exact⟨by kernel_rfl,of_decide_eq_true (by kernel_rfl)⟩
 ·obtain⟨x0,c0,_,b0⟩:=aiy.one h0;have bT:yu x0≤1048576:=by simp only[Rows.uptoBulkAll,List.append_nil]at fR;omega
  obtain⟨va,vv,rfl,r0,r1⟩:=aiJ (hval 0 _ v0 rfl rfl) c0;exact aik (Wn x0) W va vv (Te hL iB).1 (Te hL iB).2 (fun X hX=>aiD r0 hX) (fun X hX=>aiE r1 hX) (aiI x0 bT)
def Co:Array Value:=#[.agg #[.slice none 0 0,.slice none 0 0]]
theorem laid_met(os:Os):laidMetH Tryz.prog Rows.aasaWritesUptoRow.laid ((Bg os).forCall (fun _ _=>0) ⟨#[],Co,[]⟩).memory:=afb os Co
theorem reads(os:Os){H:Type}(enc:TypeId×Value→H):∃places,DataW.whole enc Tryz.prog ((Bg os).forCall (fun _ _=>0) ⟨#[],Co,[]⟩).memory Tryz.f7.params.toList Rows.aasaWritesSpec.vars false Co.toList 8=some ([.agg [.nil,.nil]],[],places):=⟨[],by kernel_rfl⟩
theorem lifted(os:Os)(started:os.Started)(H:Type)(enc:TypeId×Value→H)(F:Stop.Interp):ReturnsInHanded {} Tryz.checked os 7 .any ((Rows.OpenSpec.upto Rows.aasaWritesSpec).preRow enc Tryz.prog Tryz.f7 Rows.aasaWritesUptoRow.domain false Rows.aasaWritesUptoRow.laid) (((Rows.OpenSpec.upto Rows.aasaWritesSpec).at F).post enc Tryz.prog Tryz.f7 false true false false):=by
 obtain⟨places,hx⟩:=reads os enc;refine returnsInHanded_of_row (C:=Tryz.checked) (s:=Rows.OpenSpec.upto Rows.aasaWritesSpec) Xo started (by kernel_rfl) Tryz.func7 (witness_row_at (enc:=enc) (C:=Tryz.checked) false (Bg os) Co rfl (by kernel_rfl) (by kernel_rfl) (by kernel_rfl) (OpenSpec.preRow_of_cond 8 hx (by kernel_rfl) (fun k hk=>by cases hk;kernel_rfl) (by kernel_rfl) (laid_met os))) ?_;intro W base args ds gs before hval hW _ aiK _ hL iB _
 exact contract H enc W base args ds gs before hval hW hL iB (of_decide_eq_true (aiK _ rfl))
theorem both{a b:Bool}(h1:a=true)(h2:b=true):(a&&b)=true:=by rw[h1,h2];rfl
theorem closed:joinedFacts Tryz.pinned.checked.prog 7 Tryz.f7 (Rows.OpenSpec.upto Rows.aasaWritesSpec).bare Rows.aasaWritesUptoRow=true:=by unfold joinedFacts;(repeat'(with_reducible refine both ?_ ?_));all_goals(as_aux_lemma=>kernel_rfl)
theorem said:Rows.AasaWritesUptoSaid:=OpenClaim.holds_of_cond 7 Tryz.f7 rfl rfl rfl rfl rfl rfl rfl ⟨rfl,rfl,rfl,rfl,rfl⟩ rfl rfl rfl rfl rfl (by kernel_rfl) Tryz.func7 closed (of_decide_eq_true (by kernel_rfl)) (by unfold Func.isWrapper;first|(rw[if_pos (by decide+kernel)];kernel_rfl)|(rw[if_neg (by decide+kernel)];exact⟨rfl,rfl⟩)) (fun os started H enc _ F=>by rw[OpenClaim.pre_eq_preRow];exact lifted os started H enc F)
theorem plain(f:FuncId)(fn:Func)(hf:Tryz.pinned.checked.prog.funcNamed "waybill/waybilllaw20.AasaWrites"=some f)(PU:Tryz.pinned.checked.prog.funcs[f]?=some fn):true=Tryz.pinned.checked.prog.looks []∧∀(j:Nat)t,fn.params[j]?=some t→Tryz.pinned.checked.prog.wantsStandIn t=false:=by obtain rfl:f=7:=Option.some.inj ((show Tryz.prog.funcNamed "waybill/waybilllaw20.AasaWrites"=some 7 by kernel_rfl).symm.trans hf)|>.symm;obtain rfl:fn=Tryz.f7:=(Option.some.inj (Tryz.func7.symm.trans PU)).symm;refine⟨by kernel_rfl,fun j t ht=>?_⟩;rw[Tryz.params7]at ht;have hm:=Array.mem_of_getElem? ht;simp at hm;subst hm;exact(show Tryz.prog.wantsStandIn 27=false by kernel_rfl)
theorem card:Rows.AasaWritesUptoCardSaid:=Claim7.holds_tied_plain_at .later [] _ _ _ _ said (fun _ h=>by cases h) (by kernel_rfl) (fun _ h=>by cases h) aasaWritesUpto_row_tie rfl ⟨rfl,rfl⟩ (by kernel_rfl) rfl plain (by kernel_rfl)
end Go.Proofs.YtcaiibkgajhohaaGreatDoor.AasaWrites
