/-
 The card of the law QueueShards is proved: for every input that its row takes, the function returns true, and leaves what it was given.
-/
import Derived.Test.YtgpmoonnachoaaaGreatDoorLfZ11ToU32
import Derived.Test.YtgpmoonnachoaaaGreatDoorLfE14ToQ33
set_option maxRecDepth 100000
set_option linter.unusedVariables false
set_option linter.unusedSimpArgs false
open Go.IntKind renaming i64→J9,wrap→J8
open Go.Value renaming string→J7,int→J6,pointer→J5,slice→J4,bool→J3,tuple→J1
open Go.Obj renaming cells→J2
open Go renaming Value→J0,Addr→Q6,TypeId→Q7,FuncId→Q8,Program→Q1
open Go.Addr renaming add→Q9,mk→Q5
namespace Go.Proofs.YtgpmoonnachoaaaGreatDoor
open Go Go.Lf Go.Lf.G Go.ChangeShapes Go.WideShapes Go.ChangeAt Go.RowKit
theorem own:ownKnob Tryz.prog.godebug=none:=by kernel_rfl
theorem Tx(b:Type)(c:TypeId×Value->b)(a:World)(base:Nat)(args:Array Value)(ds d:List (DataW b))(l:List MemPlace)
  (e: ∀(f:Nat) t v,Tryz.f6.params[f]? =some t->args[f]? =some v->Value.okWide Tryz.prog a .any base t v)
  (g:DataW.Whole c Tryz.prog Tryz.f6.params.toList Rows.queueShardsSpec.vars false a args.toList ds d l) (m:Rows.uptoSmall b (ds++d)=true) (o:laidMetH Tryz.prog listed a):
  Calls Tryz.prog 6 args a λi j=> ∃v,i= .returned v/\Rows.queueShardsSpec.post c Tryz.prog Tryz.f6 false true false false a args v j:=by
 have q:=g;obtain⟨p,F,r,s,rfl,G,H⟩:=g;have hA:DataW.TrodAll c Tryz.prog a 0 (λ_=>true) true Tryz.f6.params.toList args.toList ds p:=r;rw[Tryz.params6] at hA e;obtain⟨k,I,J,K,L,M,N,rfl,rfl,u,w⟩:=trodAll_cons hA;obtain⟨rfl,rfl,rfl⟩:=trodAll_nil w;obtain rfl:args= #[k]:=by cases args;simp_all
 obtain⟨rfl,rfl⟩:=trodVars_none s;obtain⟨y,rfl,z,_,B⟩:=open_int ATb (e 0 _ k rfl rfl) u;subst z;have O:=wf_i64 B;have C:Rows.uptoBulkAll ([_]++ []:List (DataW b))<=1048576:=of_decide_eq_true m;simp only[AK,CT,Dd,Rows.uptoBulkAll] at C;have D:=ABv (A:=lX a) (h:=a.heap) (R:=λv h=>v= .bool true/\Ext a.heap h) (n:=y)
  (ASb o)  (λE x => ⟨rfl, x⟩) a.drawn
 refine Calls.mono D ?_;rintro i j ⟨v,rfl,E,P,rfl,rfl,x⟩;exact⟨_,rfl,AO6 q rfl rfl rfl rfl laid (by kernel_rfl) rfl ASF x⟩
theorem YO(os:Os){a:Type}(b:TypeId×Value->a): ∃c,DataW.whole b Tryz.prog ((ZI os).forCall (λ_ _=>0) ⟨#[],#[.int .i64 0],[]⟩).memory Tryz.f6.params.toList Rows.queueShardsSpec.vars false (#[.int .i64 0]:Array Value).toList 8=some ([.lit (.int .i64 0)],[],c):=
 ⟨[],by kernel_rfl⟩
theorem XI(os:Os)(b:os.Started)(a:Type)(enc:TypeId×Value->a)(c:Stop.Interp):
  ReturnsInHanded {} Tryz.checked os 6 .any ((Rows.OpenSpec.upto Rows.queueShardsSpec).preRow enc Tryz.prog Tryz.f6 Rows.queueShardsUptoRow.domain false Rows.queueShardsUptoRow.laid) (((Rows.OpenSpec.upto Rows.queueShardsSpec).at c).post enc Tryz.prog Tryz.f6 false true false false):=by
 obtain⟨m,d⟩:=YO os enc;refine returnsInHanded_of_row (C:=Tryz.checked) (s:=Rows.OpenSpec.upto Rows.queueShardsSpec) own b (by kernel_rfl) Tryz.func6
  (witness_row_at (enc:=enc) (C:=Tryz.checked) false (ZI os) #[.int .i64 0] rfl (by kernel_rfl) (by kernel_rfl) (by kernel_rfl)
   (OpenSpec.preRow_of_cond 8 d (by kernel_rfl) (λn e=>by cases e;kernel_rfl) (by kernel_rfl) (AI1 os _))) ?_
 intro f base args ds g h i j _ k _ l _ _;exact Tx a enc f base args ds g h i j (k _ rfl) l
theorem ACG:laidOutB Tryz.pinned.checked.prog=true:=by kernel_rfl
theorem ADY:mapsRowed Tryz.pinned.checked.prog=true:=by kernel_rfl
theorem ACQ:(Rows.queueShardsUptoRow.inPlace==Tryz.pinned.checked.prog.inPlace 6)=true:=by kernel_rfl
theorem ACy:(Rows.queueShardsUptoRow.unfollowed==Tryz.pinned.checked.prog.unfollowed 6)=true:=by kernel_rfl
theorem ACC:(Rows.queueShardsUptoRow.recurses==Tryz.pinned.checked.prog.recurses 6)=true:=by kernel_rfl
theorem ADP:(Rows.queueShardsUptoRow.named==Tryz.pinned.checked.prog.varsNamed 6)=true:=by kernel_rfl
theorem ACW:(Rows.queueShardsUptoRow.loops==(Tryz.f6.params.toList++(Rows.OpenSpec.upto Rows.queueShardsSpec).bare.plain.varTypes Tryz.pinned.checked.prog).any (Tryz.pinned.checked.prog.loopsFrom ·))=true:=by kernel_rfl
theorem AB1:(Rows.queueShardsUptoRow.plainKeys==Tryz.pinned.checked.prog.plainKeys)=true:=by kernel_rfl
theorem AB4:Tryz.pinned.checked.prog.stopsHeard=true:=by kernel_rfl
theorem ACJ:Tryz.pinned.checked.prog.mayEnter=true:=by kernel_rfl
theorem ABD:(Rows.queueShardsUptoRow.lifted==Tryz.pinned.checked.prog.liftsFinal)=true:=by kernel_rfl
theorem ABK:(Tryz.pinned.checked.prog.make==some Rows.queueShardsUptoRow.make)=true:=by kernel_rfl
theorem aB {a b:Bool}(c:a=true)(d:b=true):(a&&b)=true:=by rw[c,d];rfl
theorem XU:joinedFacts Tryz.pinned.checked.prog 6 Tryz.f6 (Rows.OpenSpec.upto Rows.queueShardsSpec).bare Rows.queueShardsUptoRow=true:=by
 unfold joinedFacts
 repeat' first|(with_reducible refine aB ?_ ?_)|(with_reducible exact ACG)|(with_reducible exact ADY)|(with_reducible exact ACQ)|(with_reducible exact ACy)|(with_reducible exact ACC)|(with_reducible exact ADP)|(with_reducible exact ACW)|(with_reducible exact AB1)|(with_reducible exact AB4)|(with_reducible exact ACJ)|(with_reducible exact ABD)|(with_reducible exact ABK)
 all_goals kernel_rfl
theorem Zn:Rows.QueueShardsUptoSaid:=
 OpenClaim.holds_of_cond 6 Tryz.f6 rfl rfl rfl rfl rfl rfl rfl ⟨rfl,rfl,rfl,rfl,rfl⟩ rfl rfl rfl rfl rfl (by kernel_rfl) Tryz.func6 XU
  (of_decide_eq_true (by kernel_rfl)) (by unfold Func.isWrapper;first|(rw[if_pos (by decide +kernel)];kernel_rfl)|(rw[if_neg (by decide +kernel)];exact⟨rfl,rfl⟩))
  (λos a b c _ d=>by rw[OpenClaim.pre_eq_preRow];exact XI os a b c d)
theorem Yj(f:FuncId)(fn:Func)(d:Tryz.pinned.checked.prog.funcNamed Rows.queueShardsUptoRow.func=some f)(e:Tryz.pinned.checked.prog.funcs[f]? =some fn):
  true=Tryz.pinned.checked.prog.looks []/\ ∀(a:Nat) t,fn.params[a]? =some t->Tryz.pinned.checked.prog.wantsStandIn t=false:=by
 obtain rfl:f=6:=BY ((show Tryz.prog.funcNamed Rows.queueShardsUptoRow.func=some 6 by kernel_rfl).symm.trans d) |>.symm;obtain rfl:fn=Tryz.f6:=(BY (Tryz.func6.symm.trans e)).symm;refine⟨by kernel_rfl,λa t b=>?_⟩;rw[Tryz.params6] at b;have c:=Wk b;simp only[List.mem_toArray,GB,IH,or_false] at c;subst c;show _=false;kernel_rfl
theorem queueShards_proved:Rows.QueueShardsUptoCardSaid:=
 Claim7.holds_tied_plain_at .later [] _ _ _ _ Zn (λ_ a=>by cases a) (by kernel_rfl) (λ_ a=>by cases a) queueShardsUpto_row_tie rfl ⟨rfl,rfl⟩ (by kernel_rfl) rfl Yj (by kernel_rfl)
#print axioms queueShards_proved
end Go.Proofs.YtgpmoonnachoaaaGreatDoor
