/-
 The card of the law EngineChanges is proved: for every input that its row takes, the function returns true, and leaves what it was given.
-/
import Derived.Test.YtecomiijolnjpaaGreatDoorLfZ10ToGLEngineChanges_1
import Derived.Test.YtecomiijolnjpaaGreatDoorLfE13ToQ28
set_option maxRecDepth 100000
set_option linter.unusedVariables false
set_option linter.unusedSimpArgs false
open Go.IntKind renaming i64→J9,wrap→J8
open Go.Value renaming string→J7,int→J6,pointer→J5,slice→J4,bool→J3,tuple→J1
open Go.Obj renaming cells→J2
open Go renaming Value→J0,Addr→Q6,TypeId→Q7,FuncId→Q8,Program→Q1
open Go.Addr renaming add→Q9,mk→Q5
namespace Go.Proofs.YtecomiijolnjpaaGreatDoor
open Go Go.Lf Go.Lf.G Go.ChangeShapes Go.WideShapes Go.ChangeAt Go.RowKit
theorem own:ownKnob Tryz.prog.godebug=none:=by kernel_rfl
theorem RX(b:Type)(c:TypeId×Value->b)(a:World)(base:Nat)(args:Array Value)(ds d:List (DataW b))(l:List MemPlace)
  (e: ∀(f:Nat) t v,Tryz.f5.params[f]? =some t->args[f]? =some v->Value.okWide Tryz.prog a .any base t v)
  (g:DataW.Whole c Tryz.prog Tryz.f5.params.toList Rows.engineChangesSpec.vars false a args.toList ds d l) (m:Rows.uptoSmall b (ds++d)=true) (n:laidMetH Tryz.prog listed a):
  Calls Tryz.prog 5 args a λi j=> ∃v,i= .returned v/\Rows.engineChangesSpec.post c Tryz.prog Tryz.f5 false true false false a args v j:=by
 have o:=g;obtain⟨p,D,q,r,rfl,E,F⟩:=g;have hA:DataW.TrodAll c Tryz.prog a 0 (λ_=>true) true Tryz.f5.params.toList args.toList ds p:=q;rw[Tryz.params5] at hA e;obtain⟨k,G,s,H,I,J,K,rfl,rfl,u,w⟩:=trodAll_cons hA;obtain⟨rfl,rfl,rfl⟩:=trodAll_nil w;obtain rfl:args= #[k]:=by cases args;simp_all
 obtain⟨rfl,rfl⟩:=trodVars_none r;obtain⟨y,L,rfl,M,N⟩:=AO1 (e 0 _ k rfl rfl) u;have z:Rows.uptoBulkAll ([s]++ []:List (DataW b))<=1048576:=of_decide_eq_true m;simp only[AM,DA,F0,Rows.uptoBulkAll] at z;have B:=ZH (A:=lM a) (h:=a.heap) (R:=λv h=>v= .bool true/\Ext a.heap h) (x:=y)
  (ARS n) (by omega) (λC x=>⟨rfl,x⟩) a.drawn
 refine Calls.mono B ?_;rintro i j ⟨v,rfl,C,O,rfl,rfl,x⟩;exact⟨_,rfl,AN7 o rfl rfl rfl rfl laid (by kernel_rfl) rfl uE x⟩
theorem Ur(os:Os){a:Type}(b:TypeId×Value->a): ∃c,DataW.whole b Tryz.prog ((Yd os).forCall (λ_ _=>0) ⟨#[],#[.agg #[.string ⟨#[]⟩,.string ⟨#[]⟩,.int .i64 0,.int .i64 0,.bool false]],[]⟩).memory Tryz.f5.params.toList Rows.engineChangesSpec.vars false (#[.agg #[.string ⟨#[]⟩,.string ⟨#[]⟩,.int .i64 0,.int .i64 0,.bool false]]:Array Value).toList 8=some ([.agg [.lit (.string []),.lit (.string []),.lit (.int .i64 0),.lit (.int .i64 0),.lit (.bool false)]],[],c):=
 ⟨[],by kernel_rfl⟩
theorem TF(os:Os)(b:os.Started)(a:Type)(enc:TypeId×Value->a)(c:Stop.Interp):
  ReturnsInHanded {} Tryz.checked os 5 .any ((Rows.OpenSpec.upto Rows.engineChangesSpec).preRow enc Tryz.prog Tryz.f5 Rows.engineChangesUptoRow.domain false Rows.engineChangesUptoRow.laid) (((Rows.OpenSpec.upto Rows.engineChangesSpec).at c).post enc Tryz.prog Tryz.f5 false true false false):=by
 obtain⟨m,d⟩:=Ur os enc;refine returnsInHanded_of_row (C:=Tryz.checked) (s:=Rows.OpenSpec.upto Rows.engineChangesSpec) own b (by kernel_rfl) Tryz.func5
  (witness_row_at (enc:=enc) (C:=Tryz.checked) false (Yd os) #[.agg #[.string ⟨#[]⟩,.string ⟨#[]⟩,.int .i64 0,.int .i64 0,.bool false]] rfl (by kernel_rfl) (by kernel_rfl) (by kernel_rfl)
   (OpenSpec.preRow_of_cond 8 d (by kernel_rfl) (λn e=>by cases e;kernel_rfl) (by kernel_rfl) (AIH os _))) ?_
 intro f base args ds g h i j _ k _ l _ _;exact RX a enc f base args ds g h i j (k _ rfl) l
theorem ZZ:laidOutB Tryz.pinned.checked.prog=true:=by kernel_rfl
theorem ZG:mapsRowed Tryz.pinned.checked.prog=true:=by kernel_rfl
theorem Zv:(Rows.engineChangesUptoRow.inPlace==Tryz.pinned.checked.prog.inPlace 5)=true:=by kernel_rfl
theorem Za:(Rows.engineChangesUptoRow.unfollowed==Tryz.pinned.checked.prog.unfollowed 5)=true:=by kernel_rfl
theorem ZI:(Rows.engineChangesUptoRow.recurses==Tryz.pinned.checked.prog.recurses 5)=true:=by kernel_rfl
theorem ZW:(Rows.engineChangesUptoRow.named==Tryz.pinned.checked.prog.varsNamed 5)=true:=by kernel_rfl
theorem Ye:(Rows.engineChangesUptoRow.loops==(Tryz.f5.params.toList++(Rows.OpenSpec.upto Rows.engineChangesSpec).bare.plain.varTypes Tryz.pinned.checked.prog).any (Tryz.pinned.checked.prog.loopsFrom ·))=true:=by kernel_rfl
theorem Yy:(Rows.engineChangesUptoRow.plainKeys==Tryz.pinned.checked.prog.plainKeys)=true:=by kernel_rfl
theorem Zk:Tryz.pinned.checked.prog.stopsHeard=true:=by kernel_rfl
theorem ZC:Tryz.pinned.checked.prog.mayEnter=true:=by kernel_rfl
theorem Ww:(Rows.engineChangesUptoRow.lifted==Tryz.pinned.checked.prog.liftsFinal)=true:=by kernel_rfl
theorem X9:(Tryz.pinned.checked.prog.make==some Rows.engineChangesUptoRow.make)=true:=by kernel_rfl
theorem aB {a b:Bool}(c:a=true)(d:b=true):(a&&b)=true:=by rw[c,d];rfl
theorem Uz:joinedFacts Tryz.pinned.checked.prog 5 Tryz.f5 (Rows.OpenSpec.upto Rows.engineChangesSpec).bare Rows.engineChangesUptoRow=true:=by
 unfold joinedFacts
 repeat' first|(with_reducible refine aB ?_ ?_)|(with_reducible exact ZZ)|(with_reducible exact ZG)|(with_reducible exact Zv)|(with_reducible exact Za)|(with_reducible exact ZI)|(with_reducible exact ZW)|(with_reducible exact Ye)|(with_reducible exact Yy)|(with_reducible exact Zk)|(with_reducible exact ZC)|(with_reducible exact Ww)|(with_reducible exact X9)
 all_goals kernel_rfl
theorem WZ:Rows.EngineChangesUptoSaid:=
 OpenClaim.holds_of_cond 5 Tryz.f5 rfl rfl rfl rfl rfl rfl rfl ⟨rfl,rfl,rfl,rfl,rfl⟩ rfl rfl rfl rfl rfl (by kernel_rfl) Tryz.func5 Uz
  (of_decide_eq_true (by kernel_rfl)) (by unfold Func.isWrapper;first|(rw[if_pos (by decide +kernel)];kernel_rfl)|(rw[if_neg (by decide +kernel)];exact⟨rfl,rfl⟩))
  (λos a b c _ d=>by rw[OpenClaim.pre_eq_preRow];exact TF os a b c d)
theorem Uv(f:FuncId)(fn:Func)(d:Tryz.pinned.checked.prog.funcNamed Rows.engineChangesUptoRow.func=some f)(e:Tryz.pinned.checked.prog.funcs[f]? =some fn):
  true=Tryz.pinned.checked.prog.looks []/\ ∀(a:Nat) t,fn.params[a]? =some t->Tryz.pinned.checked.prog.wantsStandIn t=false:=by
 obtain rfl:f=5:=BT ((show Tryz.prog.funcNamed Rows.engineChangesUptoRow.func=some 5 by kernel_rfl).symm.trans d) |>.symm;obtain rfl:fn=Tryz.f5:=(BT (Tryz.func5.symm.trans e)).symm;refine⟨by kernel_rfl,λa t b=>?_⟩;rw[Tryz.params5] at b;have c:=IH b;simp only[List.mem_toArray,Hc,List.not_mem_nil,or_false] at c;subst c;show _=false;kernel_rfl
theorem engineChanges_proved:Rows.EngineChangesUptoCardSaid:=
 Claim7.holds_tied_plain_at .later [] _ _ _ _ WZ (λ_ a=>by cases a) (by kernel_rfl) (λ_ a=>by cases a) engineChangesUpto_row_tie rfl ⟨rfl,rfl⟩ (by kernel_rfl) rfl Uv (by kernel_rfl)
#print axioms engineChanges_proved
end Go.Proofs.YtecomiijolnjpaaGreatDoor
