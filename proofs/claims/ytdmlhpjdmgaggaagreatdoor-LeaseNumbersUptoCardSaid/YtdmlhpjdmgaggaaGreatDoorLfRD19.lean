/-
 The card of the law LeaseNumbers is proved: for every input that its row takes, the function returns true, and leaves what it was given.
-/
import Derived.Test.YtdmlhpjdmgaggaaGreatDoorLfZ23ToO5
import Derived.Test.YtdmlhpjdmgaggaaGreatDoorLfQ19
set_option linter.unusedVariables false
set_option linter.unusedSimpArgs false
set_option maxRecDepth 100000
set_option linter.unusedVariables false
set_option linter.unusedSimpArgs false
namespace Go.Proofs.YtdmlhpjdmgaggaaGreatDoor
open Go Go.Lf Go.Lf.G Go.ChangeShapes Go.WideShapes Go.ChangeAt Go.RowKit
theorem own:ownKnob Tryz.prog.godebug=none:=by kernel_rfl
theorem Pk(H:Type)(enc:TypeId×Value→H)(W:World)(base:Nat)(args:Array Value)(ds gs:List (DataW H))(before:List MemPlace)
  (hval: ∀(j:Nat) t v,Tryz.f11.params[j]? =some t→args[j]? =some v→Value.okWide Tryz.prog W .any base t v)
  (hW:DataW.Whole enc Tryz.prog Tryz.f11.params.toList Rows.leaseNumbersSpec.vars false W args.toList ds gs before) (hk:Rows.uptoSmall H (ds++gs)=true) (hL:laidMetH Tryz.prog listed W):
  Calls Tryz.prog 11 args W fun e W'=> ∃v,e= .returned v∧Rows.leaseNumbersSpec.post enc Tryz.prog Tryz.f11 false true false false W args v W':=by
 have hW':=hW
 obtain⟨p,q,hA0,hV,rfl,hfz,hnd⟩:=hW
 have hA:DataW.TrodAll enc Tryz.prog W 0 (fun _=>true) true Tryz.f11.params.toList args.toList ds p:=hA0
 rw[Tryz.params11] at hA hval
 obtain⟨v0,vs0,d0,ds0,p0,q0,hargs,rfl,rfl,h0,r0⟩:=trodAll_cons hA
 obtain⟨rfl,rfl,rfl⟩:=trodAll_nil r0
 obtain rfl:args= #[v0]:=by cases args;simp_all
 obtain⟨rfl,rfl⟩:=trodVars_none hV
 obtain⟨s0,l0,rfl,f0,g0⟩:=Ub (hval 0 _ v0 rfl rfl) h0
 have hb:Rows.uptoBulkAll ([d0]++ []:List (DataW H))≤1048576:=of_decide_eq_true hk
 simp only[List.append_nil,List.nil_append,List.cons_append,Rows.uptoBulkAll] at hb
 have H0:=XM (A:=QZ W) (h:=W.heap) (R:=fun v h=>v= .bool true∧Ext W.heap h) (order:=s0) (os:=l0)
  (ACm hL) f0 (fun h' x=>⟨rfl,x⟩) W.drawn
 refine Calls.mono H0 ?_
 rintro e W' ⟨v,rfl,h',n',rfl,rfl,x⟩
 exact⟨_,rfl,QO hW' rfl rfl rfl rfl laid (by kernel_rfl) rfl Qv x⟩
theorem SS(os:Os){H:Type}(enc:TypeId×Value→H): ∃places,DataW.whole enc Tryz.prog ((Hz os).forCall (fun _ _=>0) ⟨#[],#[.slice none 0 0],[]⟩).memory Tryz.f11.params.toList Rows.leaseNumbersSpec.vars false (#[.slice none 0 0]:Array Value).toList 8=some ([.nil],[],places):=
 ⟨[],by kernel_rfl⟩
set_option maxRecDepth 100000 in
theorem Ro(os:Os)(started:os.Started)(H:Type)(enc:TypeId×Value→H)(F:Stop.Interp):
  ReturnsInHanded {} Tryz.checked os 11 .any ((Rows.OpenSpec.upto Rows.leaseNumbersSpec).preRow enc Tryz.prog Tryz.f11 Rows.leaseNumbersUptoRow.domain false Rows.leaseNumbersUptoRow.laid) (((Rows.OpenSpec.upto Rows.leaseNumbersSpec).at F).post enc Tryz.prog Tryz.f11 false true false false):=by
 obtain⟨places,hx⟩:=SS os enc
 refine returnsInHanded_of_row (C:=Tryz.checked) (s:=Rows.OpenSpec.upto Rows.leaseNumbersSpec) own started (by kernel_rfl) Tryz.func11
  (witness_row_at (enc:=enc) (C:=Tryz.checked) false (Hz os) #[.slice none 0 0] rfl (by kernel_rfl) (by kernel_rfl) (by kernel_rfl)
   (OpenSpec.preRow_of_cond 8 hx (by kernel_rfl) (fun k hk=>by cases hk;kernel_rfl) (by kernel_rfl) (Md os _))) ?_
 intro W base args ds gs before hval hW _ hcond _ hL _ _
 exact Pk H enc W base args ds gs before hval hW (hcond _ rfl) hL
theorem Us:Rows.LeaseNumbersUptoSaid:=
 OpenClaim.holds_of_cond 11 Tryz.f11 rfl rfl rfl rfl rfl rfl rfl ⟨rfl,rfl,rfl,rfl,rfl⟩ rfl rfl rfl rfl rfl (by kernel_rfl) Tryz.func11 (by kernel_rfl)
  (of_decide_eq_true (by kernel_rfl)) (by unfold Func.isWrapper;first|(rw [if_pos (by decide +kernel)];kernel_rfl)|(rw [if_neg (by decide +kernel)];exact⟨rfl,rfl⟩))
  (fun os started H enc _ F=>by rw[OpenClaim.pre_eq_preRow];exact Ro os started H enc F)
theorem TK(f:FuncId)(fn:Func)(hf:Tryz.pinned.checked.prog.funcNamed Rows.leaseNumbersUptoRow.func=some f)(hfn:Tryz.pinned.checked.prog.funcs[f]? =some fn):
  true=Tryz.pinned.checked.prog.looks []∧ ∀(j:Nat) t,fn.params[j]? =some t→Tryz.pinned.checked.prog.wantsStandIn t=false:=by
 obtain rfl:f=11:=Option.some.inj ((show Tryz.prog.funcNamed Rows.leaseNumbersUptoRow.func=some 11 by kernel_rfl).symm.trans hf) |>.symm
 obtain rfl:fn=Tryz.f11:=(Option.some.inj (Tryz.func11.symm.trans hfn)).symm
 refine⟨by kernel_rfl,fun j t ht=>?_⟩
 rw[Tryz.params11] at ht
 have hm:=Array.mem_of_getElem? ht
 simp only[List.mem_toArray,List.mem_cons,List.not_mem_nil,or_false] at hm
 subst hm;show _=false;kernel_rfl
theorem leaseNumbers_proved:Rows.LeaseNumbersUptoCardSaid:=
 Claim7.holds_tied_plain_at .later [] _ _ _ _ Us (fun _ h=>by cases h) (by kernel_rfl) (fun _ h=>by cases h) leaseNumbersUpto_row_tie rfl ⟨rfl,rfl⟩ (by kernel_rfl) rfl TK (by kernel_rfl)
#print axioms leaseNumbers_proved
end Go.Proofs.YtdmlhpjdmgaggaaGreatDoor

