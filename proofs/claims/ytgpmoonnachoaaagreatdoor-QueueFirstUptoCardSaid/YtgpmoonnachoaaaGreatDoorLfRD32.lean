/-
 The card of the law QueueFirst is proved: for every input that its row takes, the function returns true, and leaves what it was given.
-/
import Derived.Test.YtgpmoonnachoaaaGreatDoorLfZ11ToU32
import Derived.Test.YtgpmoonnachoaaaGreatDoorLfE14ToQ32
set_option maxRecDepth 100000
set_option linter.unusedVariables false
set_option linter.unusedSimpArgs false
open Go.IntKind renaming i64→J9,wrap→J8
open Go.Value renaming string→J7,int→J6,pointer→J5,slice→J4,bool→J3,tuple→J1
open Go.Obj renaming cells→J2
open Go renaming Value→J0,Addr→Q6,TypeId→Q7,FuncId→Q8,Program→Q1
open Go.Addr renaming add→Q9,mk→Q5
namespace Go.Proofs.YtgpmoonnachoaaaGreatDoor
open Go Go.Lf Go.Lf.G Go.ChangeShapes Go.WideShapes Go.ChangeAt Go.RowKit
theorem own:ownKnob Tryz.prog.godebug=none:=by kernel_rfl
theorem VZ(b:Type)(c:TypeId×Value->b)(a:World)(base:Nat)(args:Array Value)(ds e:List (DataW b))(l:List MemPlace)
  (d: ∀(f:Nat) t v,Tryz.f5.params[f]? =some t->args[f]? =some v->Value.okWide Tryz.prog a .any base t v)
  (g:DataW.Whole c Tryz.prog Tryz.f5.params.toList Rows.queueFirstSpec.vars false a args.toList ds e l) (m:Rows.uptoSmall b (ds++e)=true) (n:laidMetH Tryz.prog listed a):
  Calls Tryz.prog 5 args a λi j=> ∃v,i= .returned v/\Rows.queueFirstSpec.post c Tryz.prog Tryz.f5 false true false false a args v j:=by
 have o:=g;obtain⟨p,L,q,r,rfl,M,N⟩:=g;have hA:DataW.TrodAll c Tryz.prog a 0 (λ_=>true) true Tryz.f5.params.toList args.toList ds p:=q;rw[Tryz.params5] at hA d;obtain⟨k,O,s,P,Q,S,T,rfl,rfl,u,w⟩:=trodAll_cons hA;obtain⟨v1,U,V,W,X,Y,rfl,rfl,rfl,y,z⟩:=trodAll_cons w;obtain⟨rfl,rfl,rfl⟩:=trodAll_nil z;obtain rfl:args= #[k,v1]:=by cases args;simp_all
 obtain⟨rfl,rfl⟩:=trodVars_none r;obtain⟨B,C,rfl,D,Z⟩:=APb (d 0 _ k rfl rfl) u;obtain⟨E,rfl,F,_,G⟩:=open_int ATl (d 1 _ v1 rfl rfl) y;subst F;have aa:=wf_i64 G;have H:Rows.uptoBulkAll ([s,_]++ []:List (DataW b))<=1048576:=of_decide_eq_true m;simp only[AK,CT,Dd,Rows.uptoBulkAll] at H;have I:=AES (A:=lY a) (h:=a.heap) (R:=λv h=>v= .bool true/\Ext a.heap h) (names:=B) (ns:=C) (dI:=E)
  (ASl n) D (λx J=>by have:=ARY J;omega) (λK x=>⟨rfl,x⟩) a.drawn
 refine Calls.mono I ?_;rintro i j ⟨v,rfl,K,ab,rfl,rfl,x⟩;exact⟨_,rfl,APA o rfl rfl rfl rfl laid (by kernel_rfl) rfl ASR x⟩
theorem ZK(os:Os){a:Type}(b:TypeId×Value->a): ∃c,DataW.whole b Tryz.prog ((ZJ os).forCall (λ_ _=>0) ⟨#[],#[.slice none 0 0,.int .i64 0],[]⟩).memory Tryz.f5.params.toList Rows.queueFirstSpec.vars false (#[.slice none 0 0,.int .i64 0]:Array Value).toList 8=some ([.nil,.lit (.int .i64 0)],[],c):=
 ⟨[],by kernel_rfl⟩
theorem Yp(os:Os)(b:os.Started)(a:Type)(enc:TypeId×Value->a)(c:Stop.Interp):
  ReturnsInHanded {} Tryz.checked os 5 .any ((Rows.OpenSpec.upto Rows.queueFirstSpec).preRow enc Tryz.prog Tryz.f5 Rows.queueFirstUptoRow.domain false Rows.queueFirstUptoRow.laid) (((Rows.OpenSpec.upto Rows.queueFirstSpec).at c).post enc Tryz.prog Tryz.f5 false true false false):=by
 obtain⟨m,d⟩:=ZK os enc;refine returnsInHanded_of_row (C:=Tryz.checked) (s:=Rows.OpenSpec.upto Rows.queueFirstSpec) own b (by kernel_rfl) Tryz.func5
  (witness_row_at (enc:=enc) (C:=Tryz.checked) false (ZJ os) #[.slice none 0 0,.int .i64 0] rfl (by kernel_rfl) (by kernel_rfl) (by kernel_rfl)
   (OpenSpec.preRow_of_cond 8 d (by kernel_rfl) (λn e=>by cases e;kernel_rfl) (by kernel_rfl) (AIz os _))) ?_
 intro f base args ds g h i j _ k _ l _ _;exact VZ a enc f base args ds g h i j (k _ rfl) l
theorem AEY:laidOutB Tryz.pinned.checked.prog=true:=by kernel_rfl
theorem AEf:mapsRowed Tryz.pinned.checked.prog=true:=by kernel_rfl
theorem AEB:(Rows.queueFirstUptoRow.inPlace==Tryz.pinned.checked.prog.inPlace 5)=true:=by kernel_rfl
theorem AEa:(Rows.queueFirstUptoRow.unfollowed==Tryz.pinned.checked.prog.unfollowed 5)=true:=by kernel_rfl
theorem AEX:(Rows.queueFirstUptoRow.recurses==Tryz.pinned.checked.prog.recurses 5)=true:=by kernel_rfl
theorem AEn:(Rows.queueFirstUptoRow.named==Tryz.pinned.checked.prog.varsNamed 5)=true:=by kernel_rfl
theorem AEN:(Rows.queueFirstUptoRow.loops==(Tryz.f5.params.toList++(Rows.OpenSpec.upto Rows.queueFirstSpec).bare.plain.varTypes Tryz.pinned.checked.prog).any (Tryz.pinned.checked.prog.loopsFrom ·))=true:=by kernel_rfl
theorem AEk:(Rows.queueFirstUptoRow.plainKeys==Tryz.pinned.checked.prog.plainKeys)=true:=by kernel_rfl
theorem AEp:Tryz.pinned.checked.prog.stopsHeard=true:=by kernel_rfl
theorem AEC:Tryz.pinned.checked.prog.mayEnter=true:=by kernel_rfl
theorem ADW:(Rows.queueFirstUptoRow.lifted==Tryz.pinned.checked.prog.liftsFinal)=true:=by kernel_rfl
theorem AC2:(Tryz.pinned.checked.prog.make==some Rows.queueFirstUptoRow.make)=true:=by kernel_rfl
theorem aB {a b:Bool}(c:a=true)(d:b=true):(a&&b)=true:=by rw[c,d];rfl
theorem Zp:joinedFacts Tryz.pinned.checked.prog 5 Tryz.f5 (Rows.OpenSpec.upto Rows.queueFirstSpec).bare Rows.queueFirstUptoRow=true:=by
 unfold joinedFacts
 repeat' first|(with_reducible refine aB ?_ ?_)|(with_reducible exact AEY)|(with_reducible exact AEf)|(with_reducible exact AEB)|(with_reducible exact AEa)|(with_reducible exact AEX)|(with_reducible exact AEn)|(with_reducible exact AEN)|(with_reducible exact AEk)|(with_reducible exact AEp)|(with_reducible exact AEC)|(with_reducible exact ADW)|(with_reducible exact AC2)
 all_goals kernel_rfl
theorem ABE:Rows.QueueFirstUptoSaid:=
 OpenClaim.holds_of_cond 5 Tryz.f5 rfl rfl rfl rfl rfl rfl rfl ⟨rfl,rfl,rfl,rfl,rfl⟩ rfl rfl rfl rfl rfl (by kernel_rfl) Tryz.func5 Zp
  (of_decide_eq_true (by kernel_rfl)) (by unfold Func.isWrapper;first|(rw[if_pos (by decide +kernel)];kernel_rfl)|(rw[if_neg (by decide +kernel)];exact⟨rfl,rfl⟩))
  (λos a b c _ d=>by rw[OpenClaim.pre_eq_preRow];exact Yp os a b c d)
theorem ZG(f:FuncId)(fn:Func)(d:Tryz.pinned.checked.prog.funcNamed Rows.queueFirstUptoRow.func=some f)(e:Tryz.pinned.checked.prog.funcs[f]? =some fn):
  true=Tryz.pinned.checked.prog.looks []/\ ∀(b:Nat) t,fn.params[b]? =some t->Tryz.pinned.checked.prog.wantsStandIn t=false:=by
 obtain rfl:f=5:=C2 ((show Tryz.prog.funcNamed Rows.queueFirstUptoRow.func=some 5 by kernel_rfl).symm.trans d) |>.symm;obtain rfl:fn=Tryz.f5:=(C2 (Tryz.func5.symm.trans e)).symm;refine⟨by kernel_rfl,λb t c=>?_⟩;rw[Tryz.params5] at c;have a:=Wr c;simp only[List.mem_toArray,GB,IH,or_false] at a;rcases a with a|a<;>(subst a;show _=false;kernel_rfl)
theorem queueFirst_proved:Rows.QueueFirstUptoCardSaid:=
 Claim7.holds_tied_plain_at .later [] _ _ _ _ ABE (λ_ a=>by cases a) (by kernel_rfl) (λ_ a=>by cases a) queueFirstUpto_row_tie rfl ⟨rfl,rfl⟩ (by kernel_rfl) rfl ZG (by kernel_rfl)
#print axioms queueFirst_proved
end Go.Proofs.YtgpmoonnachoaaaGreatDoor
