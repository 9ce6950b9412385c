/-
 The card of the law EngineRuns is proved: for every input that its row takes, the function returns true, and leaves what it was given.
-/
import Derived.Test.YtebeggcpmdegnaaGreatDoorLfD30ToO4
import Derived.Test.YtebeggcpmdegnaaGreatDoorLfQ50
set_option maxRecDepth 100000
set_option linter.unusedVariables false
set_option linter.unusedSimpArgs false
set_option linter.defProp false
set_option linter.unnecessarySimpa false
open Go.IntKind renaming i64→D,wrap→J8
open Go.Value renaming string→J7,int→J6,pointer→J5,slice→J4,bool→J3,tuple→J1
open Go.Obj renaming cells→J2
open Go renaming Value→J0,Addr→Q6,TypeId→Q7,FuncId→Q8,Program→Q1
open Go.Addr renaming add→Q9,mk→Q5
open Option renaming some→Z,none→V
open Bool renaming true→Y,false→U
open List renaming length→J
namespace Go.Proofs.YtebeggcpmdegnaaGreatDoor
open Go Go.Lf Go.ChangeShapes Go.WideShapes Go.ChangeAt Go.RowKit
theorem own:ownKnob Tryz.prog.godebug=none:=by kernel_rfl
theorem ZZ(d:Type)(e:TypeId×Value->d)(a:World)(q:Nat)(b:Array Value)(f g:List (DataW d))(r:List MemPlace)
  (i: ∀(j:Nat) t v,Tryz.f3.params[j]? =some t->b[j]? =some v->Value.okWide Tryz.prog a .any q t v)
  (k:DataW.Whole e Tryz.prog Tryz.f3.params.toList Rows.engineRunsSpec.vars false a b.toList f g r) (s:Rows.uptoSmall d (f++g)=true) (u:laidMetH Tryz.prog listed a):
  Calls Tryz.prog 3 b a λl m=> ∃v,l= .returned v/\Rows.engineRunsSpec.post e Tryz.prog Tryz.f3 false true false false a b v m:=by
 have w:=k;obtain⟨p,M,y,z,rfl,Q,ae⟩:=k;have hA:DataW.TrodAll e Tryz.prog a 0 (λ_=>true) true Tryz.f3.params.toList b.toList f p:=y;rw[Tryz.params3] at hA i;obtain⟨n,af,B,ag,ah,ai,aj,rfl,rfl,C,F⟩:=trodAll_cons hA;obtain⟨rfl,rfl,rfl⟩:=trodAll_nil F;obtain rfl:b= #[n]:=by cases b;simp_all
 obtain⟨rfl,rfl⟩:=trodVars_none z;obtain⟨H,I,rfl,K,g0⟩:=wx (i 0 _ n rfl rfl) C;have o:Rows.uptoBulkAll ([B]++ []:List (DataW d))<=1048576:=A5 s;simp only[AM,CM,DH,Rows.uptoBulkAll] at o;have hB:=o;have P:=AH2 (A:=nB a) (h:=a.heap) (R:=λv h=>v= .bool true/\G a.heap h) (calls:=H) (cl:=I)
  (wu u) K (λc S=>by obtain⟨p,cm,X,vc⟩:=g0 c S;exact⟨p,cm,X.at (by omega),vc⟩) (λW x=>⟨rfl,x⟩) a.drawn
 refine Calls.mono P ?_;rintro l m ⟨v,rfl,W,ak,rfl,rfl,x⟩;exact⟨_,rfl,wk w rfl rfl rfl rfl laid (by kernel_rfl) rfl mw x⟩
theorem ACd(a:Os){b:Type}(c:TypeId×Value->b): ∃places,DataW.whole c Tryz.prog ((Pb a).forCall (λ_ _=>0) ⟨#[],#[.slice none 0 0],[]⟩).memory Tryz.f3.params.toList Rows.engineRunsSpec.vars false (#[.slice none 0 0]:Array Value).toList 8=some ([.nil],[],places):=
 ⟨[],by kernel_rfl⟩
noncomputable abbrev sU:=Rows.OpenSpec.upto Rows.engineRunsSpec
theorem AA7(a:Os)(c:a.Started)(b:Type)(enc:TypeId×Value->b)(d:Stop.Interp):
  ReturnsInHanded {} Tryz.checked a 3 .any (sU.preRow enc Tryz.prog Tryz.f3 Rows.engineRunsUptoRow.domain false Rows.engineRunsUptoRow.laid) ((sU.at d).post enc Tryz.prog Tryz.f3 false true false false):=by
 obtain⟨places,e⟩:=ACd a enc;refine returnsInHanded_of_row (C:=Tryz.checked) (s:=sU) own c (by kernel_rfl) Tryz.func3
  (witness_row_at (enc:=enc) (C:=Tryz.checked) false (Pb a) #[.slice none 0 0] rfl (by kernel_rfl) (by kernel_rfl) (by kernel_rfl)
   (OpenSpec.preRow_of_cond 8 e (by kernel_rfl) (λn f=>by cases f;kernel_rfl) (by kernel_rfl) (Xv a _))) ?_
 intro g base args ds h i j k _ l _ m _ _;exact ZZ b enc g base args ds h i j k (l _ rfl) m
noncomputable abbrev pr:=Tryz.pinned.checked.prog
theorem AHx:laidOutB pr=true:=by kernel_rfl
theorem AIV:mapsRowed pr=true:=by kernel_rfl
theorem AIS:(Rows.engineRunsUptoRow.inPlace==pr.inPlace 3)=true:=by kernel_rfl
theorem AHn:(Rows.engineRunsUptoRow.unfollowed==pr.unfollowed 3)=true:=by kernel_rfl
theorem AIO:(Rows.engineRunsUptoRow.recurses==pr.recurses 3)=true:=by kernel_rfl
theorem AIL:(Rows.engineRunsUptoRow.named==pr.varsNamed 3)=true:=by kernel_rfl
theorem AHh:(Rows.engineRunsUptoRow.loops==(Tryz.f3.params.toList++sU.bare.plain.varTypes pr).any (pr.loopsFrom ·))=true:=by kernel_rfl
theorem AHm:(Rows.engineRunsUptoRow.plainKeys==pr.plainKeys)=true:=by kernel_rfl
theorem AIe:pr.stopsHeard=true:=by kernel_rfl
theorem AIK:pr.mayEnter=true:=by kernel_rfl
theorem AFf:(Rows.engineRunsUptoRow.lifted==pr.liftsFinal)=true:=by kernel_rfl
theorem AFo:(pr.make==some Rows.engineRunsUptoRow.make)=true:=by kernel_rfl
theorem aB {a b:Bool}(c:a=true)(d:b=true):(a&&b)=true:=by rw[c,d];rfl
theorem ACq:joinedFacts pr 3 Tryz.f3 sU.bare Rows.engineRunsUptoRow=true:=by
 unfold joinedFacts
 repeat' with_reducible first|refine aB ?_ ?_|exact AHx|exact AIV|exact AIS|exact AHn|exact AIO|exact AIL|exact AHh|exact AHm|exact AIe|exact AIK|exact AFf|exact AFo
 all_goals kernel_rfl
theorem AEO:Rows.EngineRunsUptoSaid:=
 OpenClaim.holds_of_cond 3 Tryz.f3 rfl rfl rfl rfl rfl rfl rfl ⟨rfl,rfl,rfl,rfl,rfl⟩ rfl rfl rfl rfl rfl (by kernel_rfl) Tryz.func3 ACq
  (A5 (by kernel_rfl)) (by unfold Func.isWrapper;first|(rw[A1 (by decide +kernel)];kernel_rfl)|(rw[A0 (by decide +kernel)];exact⟨rfl,rfl⟩))
  (λos a b c _ d=>by rw[OpenClaim.pre_eq_preRow];exact AA7 os a b c d)
theorem ACz(a:FuncId)(b:Func)(f:pr.funcNamed Rows.engineRunsUptoRow.func=some a)(g:pr.funcs[a]? =some b):
  true=pr.looks []/\ ∀(c:Nat) t,b.params[c]? =some t->pr.wantsStandIn t=false:=by
 obtain rfl:a=3:=CC ((show Tryz.prog.funcNamed Rows.engineRunsUptoRow.func=some 3 by kernel_rfl).symm.trans f) |>.symm;obtain rfl:b=Tryz.f3:=(CC (Tryz.func3.symm.trans g)).symm;refine⟨by kernel_rfl,λc t d=>?_⟩;rw[Tryz.params3] at d;have e:=ZS d;simp only[A00,AN,No,Nx] at e;subst e;show _=false;kernel_rfl
theorem q1:Rows.engineRunsUptoRow.wfByText sU=true:=by kernel_rfl
theorem q2 : pr.mainIs = some (true, "afbe726dd67a770dc31fd7a745dba06988b95f6ca1958192bd6e8a5f0c96bcea".toList) := by kernel_rfl
theorem q3:false=Rows.engineRunsUptoRow.goesBy pr:=by kernel_rfl
theorem engineRuns_proved:Rows.EngineRunsUptoCardSaid:=
 Claim7.holds_tied_plain_at .later [] _ _ _ _ AEO (λ_ a=>by cases a) q1 (λ_ a=>by cases a) engineRunsUpto_row_tie rfl ⟨rfl,rfl⟩ q2 rfl ACz q3
#print axioms engineRuns_proved
end Go.Proofs.YtebeggcpmdegnaaGreatDoor
