/-
 The card of the law ArchiveRefuses is proved: for every input that its row takes, the function returns true, and leaves what it was given.
-/
import Derived.Test.YtgpmoonnachoaaaGreatDoorLfZ11ToU32
import Derived.Test.YtgpmoonnachoaaaGreatDoorLfE14ToQ34
set_option maxRecDepth 100000
set_option linter.unusedVariables false
set_option linter.unusedSimpArgs false
open Go.IntKind renaming i64→J9,wrap→J8
open Go.Value renaming string→J7,int→J6,pointer→J5,slice→J4,bool→J3,tuple→J1
open Go.Obj renaming cells→J2
open Go renaming Value→J0,Addr→Q6,TypeId→Q7,FuncId→Q8,Program→Q1
open Go.Addr renaming add→Q9,mk→Q5
namespace Go.Proofs.YtgpmoonnachoaaaGreatDoor
open Go Go.Lf Go.Lf.G Go.ChangeShapes Go.WideShapes Go.ChangeAt Go.RowKit
theorem own:ownKnob Tryz.prog.godebug=none:=by kernel_rfl
theorem Qd(b:Type)(c:TypeId×Value->b)(a:World)(base:Nat)(args:Array Value)(ds d:List (DataW b))(l:List MemPlace)
  (e: ∀(f:Nat) t v,Tryz.f4.params[f]? =some t->args[f]? =some v->Value.okWide Tryz.prog a .any base t v)
  (g:DataW.Whole c Tryz.prog Tryz.f4.params.toList Rows.archiveRefusesSpec.vars false a args.toList ds d l) (m:Rows.uptoSmall b (ds++d)=true) (n:laidMetH Tryz.prog listed a):
  Calls Tryz.prog 4 args a λi j=> ∃v,i= .returned v/\Rows.archiveRefusesSpec.post c Tryz.prog Tryz.f4 false true false false a args v j:=by
 have o:=g;obtain⟨p,E,q,r,rfl,F,G⟩:=g;have hA:DataW.TrodAll c Tryz.prog a 0 (λ_=>true) true Tryz.f4.params.toList args.toList ds p:=q;rw[Tryz.params4] at hA e;obtain⟨k,H,I,J,K,L,M,rfl,rfl,s,u⟩:=trodAll_cons hA;obtain⟨rfl,rfl,rfl⟩:=trodAll_nil u;obtain rfl:args= #[k]:=by cases args;simp_all
 obtain⟨rfl,rfl⟩:=trodVars_none r;obtain⟨w,rfl,y,_,z⟩:=open_int ATp (e 0 _ k rfl rfl) s;subst y;have N:=wf_i64 z;have B:Rows.uptoBulkAll ([_]++ []:List (DataW b))<=1048576:=of_decide_eq_true m;simp only[AM,DA,DG,Rows.uptoBulkAll] at B;have C:=Xq (A:=mj a) (h:=a.heap) (R:=λv h=>v= .bool true/\Ext a.heap h) (signals:=w)
  (ASi n)  (λD x => ⟨rfl, x⟩) a.drawn
 refine Calls.mono C ?_;rintro i j ⟨v,rfl,D,O,rfl,rfl,x⟩;exact⟨_,rfl,AO3 o rfl rfl rfl rfl laid (by kernel_rfl) rfl ASO x⟩
theorem VB(os:Os){a:Type}(b:TypeId×Value->a): ∃c,DataW.whole b Tryz.prog ((Zl os).forCall (λ_ _=>0) ⟨#[],#[.int .i64 0],[]⟩).memory Tryz.f4.params.toList Rows.archiveRefusesSpec.vars false (#[.int .i64 0]:Array Value).toList 8=some ([.lit (.int .i64 0)],[],c):=
 ⟨[],by kernel_rfl⟩
theorem TK(os:Os)(b:os.Started)(a:Type)(enc:TypeId×Value->a)(c:Stop.Interp):
  ReturnsInHanded {} Tryz.checked os 4 .any ((Rows.OpenSpec.upto Rows.archiveRefusesSpec).preRow enc Tryz.prog Tryz.f4 Rows.archiveRefusesUptoRow.domain false Rows.archiveRefusesUptoRow.laid) (((Rows.OpenSpec.upto Rows.archiveRefusesSpec).at c).post enc Tryz.prog Tryz.f4 false true false false):=by
 obtain⟨m,d⟩:=VB os enc;refine returnsInHanded_of_row (C:=Tryz.checked) (s:=Rows.OpenSpec.upto Rows.archiveRefusesSpec) own b (by kernel_rfl) Tryz.func4
  (witness_row_at (enc:=enc) (C:=Tryz.checked) false (Zl os) #[.int .i64 0] rfl (by kernel_rfl) (by kernel_rfl) (by kernel_rfl)
   (OpenSpec.preRow_of_cond 8 d (by kernel_rfl) (λn e=>by cases e;kernel_rfl) (by kernel_rfl) (AIt os _))) ?_
 intro f base args ds g h i j _ k _ l _ _;exact Qd a enc f base args ds g h i j (k _ rfl) l
theorem Xu:laidOutB Tryz.pinned.checked.prog=true:=by kernel_rfl
theorem Xo:mapsRowed Tryz.pinned.checked.prog=true:=by kernel_rfl
theorem ZM:(Rows.archiveRefusesUptoRow.inPlace==Tryz.pinned.checked.prog.inPlace 4)=true:=by kernel_rfl
theorem Yt:(Rows.archiveRefusesUptoRow.unfollowed==Tryz.pinned.checked.prog.unfollowed 4)=true:=by kernel_rfl
theorem YC:(Rows.archiveRefusesUptoRow.recurses==Tryz.pinned.checked.prog.recurses 4)=true:=by kernel_rfl
theorem ZN:(Rows.archiveRefusesUptoRow.named==Tryz.pinned.checked.prog.varsNamed 4)=true:=by kernel_rfl
theorem ZT:(Rows.archiveRefusesUptoRow.loops==(Tryz.f4.params.toList++(Rows.OpenSpec.upto Rows.archiveRefusesSpec).bare.plain.varTypes Tryz.pinned.checked.prog).any (Tryz.pinned.checked.prog.loopsFrom ·))=true:=by kernel_rfl
theorem Yc:(Rows.archiveRefusesUptoRow.plainKeys==Tryz.pinned.checked.prog.plainKeys)=true:=by kernel_rfl
theorem X0:Tryz.pinned.checked.prog.stopsHeard=true:=by kernel_rfl
theorem ZP:Tryz.pinned.checked.prog.mayEnter=true:=by kernel_rfl
theorem XA:(Rows.archiveRefusesUptoRow.lifted==Tryz.pinned.checked.prog.liftsFinal)=true:=by kernel_rfl
theorem XM:(Tryz.pinned.checked.prog.make==some Rows.archiveRefusesUptoRow.make)=true:=by kernel_rfl
theorem aB {a b:Bool}(c:a=true)(d:b=true):(a&&b)=true:=by rw[c,d];rfl
theorem TZ:joinedFacts Tryz.pinned.checked.prog 4 Tryz.f4 (Rows.OpenSpec.upto Rows.archiveRefusesSpec).bare Rows.archiveRefusesUptoRow=true:=by
 unfold joinedFacts
 repeat' first|(with_reducible refine aB ?_ ?_)|(with_reducible exact Xu)|(with_reducible exact Xo)|(with_reducible exact ZM)|(with_reducible exact Yt)|(with_reducible exact YC)|(with_reducible exact ZN)|(with_reducible exact ZT)|(with_reducible exact Yc)|(with_reducible exact X0)|(with_reducible exact ZP)|(with_reducible exact XA)|(with_reducible exact XM)
 all_goals kernel_rfl
theorem Vj:Rows.ArchiveRefusesUptoSaid:=
 OpenClaim.holds_of_cond 4 Tryz.f4 rfl rfl rfl rfl rfl rfl rfl ⟨rfl,rfl,rfl,rfl,rfl⟩ rfl rfl rfl rfl rfl (by kernel_rfl) Tryz.func4 TZ
  (of_decide_eq_true (by kernel_rfl)) (by unfold Func.isWrapper;first|(rw[if_pos (by decide +kernel)];kernel_rfl)|(rw[if_neg (by decide +kernel)];exact⟨rfl,rfl⟩))
  (λos a b c _ d=>by rw[OpenClaim.pre_eq_preRow];exact TK os a b c d)
theorem UK(f:FuncId)(fn:Func)(d:Tryz.pinned.checked.prog.funcNamed Rows.archiveRefusesUptoRow.func=some f)(e:Tryz.pinned.checked.prog.funcs[f]? =some fn):
  true=Tryz.pinned.checked.prog.looks []/\ ∀(a:Nat) t,fn.params[a]? =some t->Tryz.pinned.checked.prog.wantsStandIn t=false:=by
 obtain rfl:f=4:=By ((show Tryz.prog.funcNamed Rows.archiveRefusesUptoRow.func=some 4 by kernel_rfl).symm.trans d) |>.symm;obtain rfl:fn=Tryz.f4:=(By (Tryz.func4.symm.trans e)).symm;refine⟨by kernel_rfl,λa t b=>?_⟩;rw[Tryz.params4] at b;have c:=V0 b;simp only[List.mem_toArray,HM,ON,or_false] at c;subst c;show _=false;kernel_rfl
theorem archiveRefuses_proved:Rows.ArchiveRefusesUptoCardSaid:=
 Claim7.holds_tied_plain_at .later [] _ _ _ _ Vj (λ_ a=>by cases a) (by kernel_rfl) (λ_ a=>by cases a) archiveRefusesUpto_row_tie rfl ⟨rfl,rfl⟩ (by kernel_rfl) rfl UK (by kernel_rfl)
#print axioms archiveRefuses_proved
end Go.Proofs.YtgpmoonnachoaaaGreatDoor
