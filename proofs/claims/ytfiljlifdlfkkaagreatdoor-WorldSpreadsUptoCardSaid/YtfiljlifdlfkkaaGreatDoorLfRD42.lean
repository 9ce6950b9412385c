/-
 The card of the law WorldSpreads is proved: for every input that its row takes, the function returns true, and leaves what it was given.
-/
import Derived.Test.YtfiljlifdlfkkaaGreatDoorLfP9ToO4
set_option maxRecDepth 100000
set_option linter.unusedVariables false
set_option linter.unusedSimpArgs false
open Go.IntKind renaming i64→J9,wrap→J8
open Go.Value renaming string→J7,int→J6,pointer→J5,slice→J4,bool→J3,tuple→J1
open Go.Obj renaming cells→J2
open Go renaming Value→J0,Addr→Q6,TypeId→Q7,FuncId→Q8,Program→Q1
open Go.Addr renaming add→Q9,mk→Q5
namespace Go.Proofs.YtfiljlifdlfkkaaGreatDoor
open Go Go.Lf Go.Lf.G Go.ChangeShapes Go.WideShapes Go.ChangeAt Go.RowKit
theorem own:ownKnob Tryz.prog.godebug=none:=by kernel_rfl
theorem Tn(b:Type)(c:TypeId×Value->b)(a:World)(base:Nat)(args:Array Value)(ds e:List (DataW b))(l:List MemPlace)
  (d: ∀(f:Nat) t v,Tryz.f3.params[f]? =some t->args[f]? =some v->Value.okWide Tryz.prog a .any base t v)
  (g:DataW.Whole c Tryz.prog Tryz.f3.params.toList Rows.worldSpreadsSpec.vars false a args.toList ds e l) (H:Rows.uptoSmall b (ds++e)=true) (m:laidMetH Tryz.prog listed a):
  Calls Tryz.prog 3 args a λi j=> ∃v,i= .returned v/\Rows.worldSpreadsSpec.post c Tryz.prog Tryz.f3 false true false false a args v j:=by
 have n:=g;obtain⟨p,q,o,r,rfl,I,J⟩:=g;have hA:DataW.TrodAll c Tryz.prog a 0 (λ_=>true) true Tryz.f3.params.toList args.toList ds p:=o;rw[Tryz.params3] at hA d;obtain⟨k,K,L,M,N,O,P,rfl,rfl,s,u⟩:=trodAll_cons hA;obtain⟨v1,Q,S,T,U,V,rfl,rfl,rfl,w,y⟩:=trodAll_cons u;obtain⟨rfl,rfl,rfl⟩:=trodAll_nil y;obtain rfl:args= #[k,v1]:=by cases args;simp_all
 obtain⟨rfl,rfl⟩:=trodVars_none r;obtain⟨z,B,rfl,C,g0⟩:=AQk (d 0 _ k rfl rfl) s;obtain⟨D,rfl,E,_,W⟩:=open_int xo (d 1 _ v1 rfl rfl) w;subst E;have F:=ACO (A:=lB a) (h:=a.heap) (R:=λv h=>v= .bool true/\Ext a.heap h) (order:=z) (ol:=B) (sh:=D)
  (AUX m) C (λG x=>⟨rfl,x⟩) a.drawn
 refine Calls.mono F ?_;rintro i j ⟨v,rfl,G,X,rfl,rfl,x⟩;exact⟨_,rfl,AQa n rfl rfl rfl rfl laid (by kernel_rfl) rfl AUE x⟩
theorem YC(os:Os){a:Type}(b:TypeId×Value->a): ∃c,DataW.whole b Tryz.prog ((qK os).forCall (λ_ _=>0) ⟨#[],#[.slice none 0 0,.int .i64 0],[]⟩).memory Tryz.f3.params.toList Rows.worldSpreadsSpec.vars false (#[.slice none 0 0,.int .i64 0]:Array Value).toList 8=some ([.nil,.lit (.int .i64 0)],[],c):=
 ⟨[],by kernel_rfl⟩
noncomputable abbrev sU:=Rows.OpenSpec.upto Rows.worldSpreadsSpec
theorem Wm(os:Os)(b:os.Started)(a:Type)(enc:TypeId×Value->a)(c:Stop.Interp):
  ReturnsInHanded {} Tryz.checked os 3 .any (sU.preRow enc Tryz.prog Tryz.f3 Rows.worldSpreadsUptoRow.domain false Rows.worldSpreadsUptoRow.laid) ((sU.at c).post enc Tryz.prog Tryz.f3 false true false false):=by
 obtain⟨m,d⟩:=YC os enc;refine returnsInHanded_of_row (C:=Tryz.checked) (s:=sU) own b (by kernel_rfl) Tryz.func3
  (witness_row_at (enc:=enc) (C:=Tryz.checked) false (qK os) #[.slice none 0 0,.int .i64 0] rfl (by kernel_rfl) (by kernel_rfl) (by kernel_rfl)
   (OpenSpec.preRow_of_cond 8 d (by kernel_rfl) (λn e=>by cases e;kernel_rfl) (by kernel_rfl) (AKH os _))) ?_
 intro f base args ds g h i j _ k _ l _ _;exact Tn a enc f base args ds g h i j (k _ rfl) l
noncomputable abbrev pr:=Tryz.pinned.checked.prog
theorem ACZ:laidOutB pr=true:=by kernel_rfl
theorem ACf:mapsRowed pr=true:=by kernel_rfl
theorem ACC:(Rows.worldSpreadsUptoRow.inPlace==pr.inPlace 3)=true:=by kernel_rfl
theorem ACV:(Rows.worldSpreadsUptoRow.unfollowed==pr.unfollowed 3)=true:=by kernel_rfl
theorem ACF:(Rows.worldSpreadsUptoRow.recurses==pr.recurses 3)=true:=by kernel_rfl
theorem ACM:(Rows.worldSpreadsUptoRow.named==pr.varsNamed 3)=true:=by kernel_rfl
theorem ACT:(Rows.worldSpreadsUptoRow.loops==(Tryz.f3.params.toList++sU.bare.plain.varTypes pr).any (pr.loopsFrom ·))=true:=by kernel_rfl
theorem ACU:(Rows.worldSpreadsUptoRow.plainKeys==pr.plainKeys)=true:=by kernel_rfl
theorem ACR:pr.stopsHeard=true:=by kernel_rfl
theorem ACE:pr.mayEnter=true:=by kernel_rfl
theorem ABK:(Rows.worldSpreadsUptoRow.lifted==pr.liftsFinal)=true:=by kernel_rfl
theorem ABA:(pr.make==some Rows.worldSpreadsUptoRow.make)=true:=by kernel_rfl
theorem aB {a b:Bool}(c:a=true)(d:b=true):(a&&b)=true:=by rw[c,d];rfl
theorem X6:joinedFacts pr 3 Tryz.f3 sU.bare Rows.worldSpreadsUptoRow=true:=by
 unfold joinedFacts
 repeat' with_reducible first|refine aB ?_ ?_|exact ACZ|exact ACf|exact ACC|exact ACV|exact ACF|exact ACM|exact ACT|exact ACU|exact ACR|exact ACE|exact ABK|exact ABA
 all_goals kernel_rfl
theorem ZL:Rows.WorldSpreadsUptoSaid:=
 OpenClaim.holds_of_cond 3 Tryz.f3 rfl rfl rfl rfl rfl rfl rfl ⟨rfl,rfl,rfl,rfl,rfl⟩ rfl rfl rfl rfl rfl (by kernel_rfl) Tryz.func3 X6
  (of_decide_eq_true (by kernel_rfl)) (by unfold Func.isWrapper;first|(rw[if_pos (by decide +kernel)];kernel_rfl)|(rw[if_neg (by decide +kernel)];exact⟨rfl,rfl⟩))
  (λos a b c _ d=>by rw[OpenClaim.pre_eq_preRow];exact Wm os a b c d)
theorem YF(f:FuncId)(fn:Func)(d:pr.funcNamed Rows.worldSpreadsUptoRow.func=some f)(e:pr.funcs[f]? =some fn):
  true=pr.looks []/\ ∀(b:Nat) t,fn.params[b]? =some t->pr.wantsStandIn t=false:=by
 obtain rfl:f=3:=B9 ((show Tryz.prog.funcNamed Rows.worldSpreadsUptoRow.func=some 3 by kernel_rfl).symm.trans d) |>.symm;obtain rfl:fn=Tryz.f3:=(B9 (Tryz.func3.symm.trans e)).symm;refine⟨by kernel_rfl,λb t c=>?_⟩;rw[Tryz.params3] at c;have a:=Wf c;simp only[List.mem_toArray,GB,Kd,or_false] at a;rcases a with a|a<;>(subst a;show _=false;kernel_rfl)
theorem worldSpreads_proved:Rows.WorldSpreadsUptoCardSaid:=
 Claim7.holds_tied_plain_at .later [] _ _ _ _ ZL (λ_ a=>by cases a) (by kernel_rfl) (λ_ a=>by cases a) worldSpreadsUpto_row_tie rfl ⟨rfl,rfl⟩ (by kernel_rfl) rfl YF (by kernel_rfl)
#print axioms worldSpreads_proved
end Go.Proofs.YtfiljlifdlfkkaaGreatDoor
