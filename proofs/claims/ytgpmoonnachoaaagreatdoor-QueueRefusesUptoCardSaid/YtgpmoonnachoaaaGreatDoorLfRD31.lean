/-
 The card of the law QueueRefuses is proved: for every input that its row takes, the function returns true, and leaves what it was given.
-/
import Derived.Test.YtgpmoonnachoaaaGreatDoorLfZ11ToU32
import Derived.Test.YtgpmoonnachoaaaGreatDoorLfE14ToQ31
set_option maxRecDepth 100000
set_option linter.unusedVariables false
set_option linter.unusedSimpArgs false
open Go.IntKind renaming i64→J9,wrap→J8
open Go.Value renaming string→J7,int→J6,pointer→J5,slice→J4,bool→J3,tuple→J1
open Go.Obj renaming cells→J2
open Go renaming Value→J0,Addr→Q6,TypeId→Q7,FuncId→Q8,Program→Q1
open Go.Addr renaming add→Q9,mk→Q5
namespace Go.Proofs.YtgpmoonnachoaaaGreatDoor
open Go Go.Lf Go.Lf.G Go.ChangeShapes Go.WideShapes Go.ChangeAt Go.RowKit
theorem own:ownKnob Tryz.prog.godebug=none:=by kernel_rfl
theorem TD(b:Type)(d:TypeId×Value->b)(a:World)(base:Nat)(args:Array Value)(ds e:List (DataW b))(l:List MemPlace)
  (c: ∀(f:Nat) t v,Tryz.f8.params[f]? =some t->args[f]? =some v->Value.okWide Tryz.prog a .any base t v)
  (g:DataW.Whole d Tryz.prog Tryz.f8.params.toList Rows.queueRefusesSpec.vars false a args.toList ds e l) (m:Rows.uptoSmall b (ds++e)=true) (n:laidMetH Tryz.prog listed a):
  Calls Tryz.prog 8 args a λi j=> ∃v,i= .returned v/\Rows.queueRefusesSpec.post d Tryz.prog Tryz.f8 false true false false a args v j:=by
 have o:=g;obtain⟨p,N,q,r,rfl,O,P⟩:=g;have hA:DataW.TrodAll d Tryz.prog a 0 (λ_=>true) true Tryz.f8.params.toList args.toList ds p:=q;rw[Tryz.params8] at hA c;obtain⟨k,Q,S,T,U,V,W,rfl,rfl,s,u⟩:=trodAll_cons hA;obtain⟨v1,X,Y,Z,aa,ab,rfl,rfl,rfl,w,y⟩:=trodAll_cons u;obtain⟨v2,ac,z,ad,ae,af,rfl,rfl,rfl,B,C⟩:=trodAll_cons y;obtain⟨rfl,rfl,rfl⟩:=trodAll_nil C;obtain rfl:args= #[k,v1,v2]:=by cases args;simp_all
 obtain⟨rfl,rfl⟩:=trodVars_none r;obtain⟨D,rfl,E,_,F⟩:=open_int vM (c 0 _ k rfl rfl) s;subst E;have ag:=wf_i64 F;obtain⟨G,rfl,H,_,I⟩:=open_int vM (c 1 _ v1 rfl rfl) w;subst H;have ah:=wf_i64 I;obtain⟨J,rfl,ai⟩:=ARQ (c 2 _ v2 rfl rfl) B;have K:Rows.uptoBulkAll ([_,_,z]++ []:List (DataW b))<=1048576:=of_decide_eq_true m;simp only[AM,CM,CN,Rows.uptoBulkAll] at K;have L:=ABg (A:=lS a) (h:=a.heap) (R:=λv h=>v= .bool true/\Ext a.heap h) (ak:=D) (now:=G) (name:=J)
  (ASj n) (by omega) (λM x=>⟨rfl,x⟩) a.drawn
 refine Calls.mono L ?_;rintro i j ⟨v,rfl,M,aj,rfl,rfl,x⟩;exact⟨_,rfl,AO8 o rfl rfl rfl rfl laid (by kernel_rfl) rfl ASP x⟩
theorem Ww(os:Os){a:Type}(b:TypeId×Value->a): ∃c,DataW.whole b Tryz.prog ((ZN os).forCall (λ_ _=>0) ⟨#[],#[.int .i64 0,.int .i64 0,.string ⟨#[]⟩],[]⟩).memory Tryz.f8.params.toList Rows.queueRefusesSpec.vars false (#[.int .i64 0,.int .i64 0,.string ⟨#[]⟩]:Array Value).toList 8=some ([.lit (.int .i64 0),.lit (.int .i64 0),.lit (.string [])],[],c):=
 ⟨[],by kernel_rfl⟩
theorem Vm(os:Os)(b:os.Started)(a:Type)(enc:TypeId×Value->a)(c:Stop.Interp):
  ReturnsInHanded {} Tryz.checked os 8 .any ((Rows.OpenSpec.upto Rows.queueRefusesSpec).preRow enc Tryz.prog Tryz.f8 Rows.queueRefusesUptoRow.domain false Rows.queueRefusesUptoRow.laid) (((Rows.OpenSpec.upto Rows.queueRefusesSpec).at c).post enc Tryz.prog Tryz.f8 false true false false):=by
 obtain⟨m,d⟩:=Ww os enc;refine returnsInHanded_of_row (C:=Tryz.checked) (s:=Rows.OpenSpec.upto Rows.queueRefusesSpec) own b (by kernel_rfl) Tryz.func8
  (witness_row_at (enc:=enc) (C:=Tryz.checked) false (ZN os) #[.int .i64 0,.int .i64 0,.string ⟨#[]⟩] rfl (by kernel_rfl) (by kernel_rfl) (by kernel_rfl)
   (OpenSpec.preRow_of_cond 8 d (by kernel_rfl) (λn e=>by cases e;kernel_rfl) (by kernel_rfl) (AI1 os _))) ?_
 intro f base args ds g h i j _ k _ l _ _;exact TD a enc f base args ds g h i j (k _ rfl) l
theorem ABM:laidOutB Tryz.pinned.checked.prog=true:=by kernel_rfl
theorem ABJ:mapsRowed Tryz.pinned.checked.prog=true:=by kernel_rfl
theorem ABa:(Rows.queueRefusesUptoRow.inPlace==Tryz.pinned.checked.prog.inPlace 8)=true:=by kernel_rfl
theorem ABh:(Rows.queueRefusesUptoRow.unfollowed==Tryz.pinned.checked.prog.unfollowed 8)=true:=by kernel_rfl
theorem ABP:(Rows.queueRefusesUptoRow.recurses==Tryz.pinned.checked.prog.recurses 8)=true:=by kernel_rfl
theorem ABX:(Rows.queueRefusesUptoRow.named==Tryz.pinned.checked.prog.varsNamed 8)=true:=by kernel_rfl
theorem ABR:(Rows.queueRefusesUptoRow.loops==(Tryz.f8.params.toList++(Rows.OpenSpec.upto Rows.queueRefusesSpec).bare.plain.varTypes Tryz.pinned.checked.prog).any (Tryz.pinned.checked.prog.loopsFrom ·))=true:=by kernel_rfl
theorem ABY:(Rows.queueRefusesUptoRow.plainKeys==Tryz.pinned.checked.prog.plainKeys)=true:=by kernel_rfl
theorem ABH:Tryz.pinned.checked.prog.stopsHeard=true:=by kernel_rfl
theorem ABW:Tryz.pinned.checked.prog.mayEnter=true:=by kernel_rfl
theorem AAK:(Rows.queueRefusesUptoRow.lifted==Tryz.pinned.checked.prog.liftsFinal)=true:=by kernel_rfl
theorem ZW:(Tryz.pinned.checked.prog.make==some Rows.queueRefusesUptoRow.make)=true:=by kernel_rfl
theorem aB {a b:Bool}(c:a=true)(d:b=true):(a&&b)=true:=by rw[c,d];rfl
theorem XJ:joinedFacts Tryz.pinned.checked.prog 8 Tryz.f8 (Rows.OpenSpec.upto Rows.queueRefusesSpec).bare Rows.queueRefusesUptoRow=true:=by
 unfold joinedFacts
 repeat' first|(with_reducible refine aB ?_ ?_)|(with_reducible exact ABM)|(with_reducible exact ABJ)|(with_reducible exact ABa)|(with_reducible exact ABh)|(with_reducible exact ABP)|(with_reducible exact ABX)|(with_reducible exact ABR)|(with_reducible exact ABY)|(with_reducible exact ABH)|(with_reducible exact ABW)|(with_reducible exact AAK)|(with_reducible exact ZW)
 all_goals kernel_rfl
theorem YE:Rows.QueueRefusesUptoSaid:=
 OpenClaim.holds_of_cond 8 Tryz.f8 rfl rfl rfl rfl rfl rfl rfl ⟨rfl,rfl,rfl,rfl,rfl⟩ rfl rfl rfl rfl rfl (by kernel_rfl) Tryz.func8 XJ
  (of_decide_eq_true (by kernel_rfl)) (by unfold Func.isWrapper;first|(rw[if_pos (by decide +kernel)];kernel_rfl)|(rw[if_neg (by decide +kernel)];exact⟨rfl,rfl⟩))
  (λos a b c _ d=>by rw[OpenClaim.pre_eq_preRow];exact Vm os a b c d)
theorem XN(f:FuncId)(fn:Func)(d:Tryz.pinned.checked.prog.funcNamed Rows.queueRefusesUptoRow.func=some f)(e:Tryz.pinned.checked.prog.funcs[f]? =some fn):
  true=Tryz.pinned.checked.prog.looks []/\ ∀(b:Nat) t,fn.params[b]? =some t->Tryz.pinned.checked.prog.wantsStandIn t=false:=by
 obtain rfl:f=8:=BY ((show Tryz.prog.funcNamed Rows.queueRefusesUptoRow.func=some 8 by kernel_rfl).symm.trans d) |>.symm;obtain rfl:fn=Tryz.f8:=(BY (Tryz.func8.symm.trans e)).symm;refine⟨by kernel_rfl,λb t c=>?_⟩;rw[Tryz.params8] at c;have a:=Wr c;simp only[List.mem_toArray,Gk,IH,or_false] at a;rcases a with a|a|a<;>(subst a;show _=false;kernel_rfl)
theorem queueRefuses_proved:Rows.QueueRefusesUptoCardSaid:=
 Claim7.holds_tied_plain_at .later [] _ _ _ _ YE (λ_ a=>by cases a) (by kernel_rfl) (λ_ a=>by cases a) queueRefusesUpto_row_tie rfl ⟨rfl,rfl⟩ (by kernel_rfl) rfl XN (by kernel_rfl)
#print axioms queueRefuses_proved
end Go.Proofs.YtgpmoonnachoaaaGreatDoor
