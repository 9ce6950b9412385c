/-
 The card of the law EngineFences is proved: for every input that its row takes, the function returns true, and leaves what it was given.
-/
import Derived.Test.YtebeggcpmdegnaaGreatDoorLfD30ToO4
import Derived.Test.YtebeggcpmdegnaaGreatDoorLfQ54
set_option maxRecDepth 100000
set_option linter.unusedVariables false
set_option linter.unusedSimpArgs false
set_option linter.defProp false
set_option linter.unnecessarySimpa false
open Go.IntKind renaming i64→D,wrap→J8
open Go.Value renaming string→J7,int→J6,pointer→J5,slice→J4,bool→J3,tuple→J1
open Go.Obj renaming cells→J2
open Go renaming Value→J0,Addr→Q6,TypeId→Q7,FuncId→Q8,Program→Q1
open Go.Addr renaming add→Q9,mk→Q5
open Option renaming some→Z,none→V
open Bool renaming true→Y,false→U
open List renaming length→J
namespace Go.Proofs.YtebeggcpmdegnaaGreatDoor
open Go Go.Lf Go.ChangeShapes Go.WideShapes Go.ChangeAt Go.RowKit
theorem own:ownKnob Tryz.prog.godebug=none:=by kernel_rfl
theorem WW(d:Type)(e:TypeId×Value->d)(a:World)(q:Nat)(b:Array Value)(f i:List (DataW d))(r:List MemPlace)
  (g: ∀(j:Nat) t v,Tryz.f4.params[j]? =some t->b[j]? =some v->Value.okWide Tryz.prog a .any q t v)
  (k:DataW.Whole e Tryz.prog Tryz.f4.params.toList Rows.engineFencesSpec.vars false a b.toList f i r) (s:Rows.uptoSmall d (f++i)=true) (u:laidMetH Tryz.prog listed a):
  Calls Tryz.prog 4 b a λl m=> ∃v,l= .returned v/\Rows.engineFencesSpec.post e Tryz.prog Tryz.f4 false true false false a b v m:=by
 have w:=k;obtain⟨p,ag,y,z,rfl,ah,ai⟩:=k;have hA:DataW.TrodAll e Tryz.prog a 0 (λ_=>true) true Tryz.f4.params.toList b.toList f p:=y;rw[Tryz.params4] at hA g;obtain⟨n,aj,B,ak,al,O,an,rfl,rfl,C,F⟩:=trodAll_cons hA;obtain⟨v1,ao,ap,T,ar,q1,rfl,rfl,rfl,H,I⟩:=trodAll_cons F;obtain⟨rfl,rfl,rfl⟩:=trodAll_nil I;obtain rfl:b= #[n,v1]:=by cases b;simp_all
 obtain⟨rfl,rfl⟩:=trodVars_none z;obtain⟨K,P,rfl,S,g0⟩:=wx (g 0 _ n rfl rfl) C;obtain⟨X,rfl,W,_,au⟩:=open_int TT (g 1 _ v1 rfl rfl) H;subst W;have o:Rows.uptoBulkAll ([B,_]++ []:List (DataW d))<=1048576:=A5 s;simp only[AM,CM,DH,Rows.uptoBulkAll] at o;have hB:=o;have M:=AEp (A:=nB a) (h:=a.heap) (R:=λv h=>v= .bool true/\G a.heap h) (calls:=K) (cl:=P) (lost:=X)
  (wu u) S (λc Q=>by obtain⟨p,cm,ae,vc⟩:=g0 c Q;exact⟨p,cm,ae.at (by omega),vc⟩) (λaf x=>⟨rfl,x⟩) a.drawn
 refine Calls.mono M ?_;rintro l m ⟨v,rfl,af,av,rfl,rfl,x⟩;exact⟨_,rfl,wk w rfl rfl rfl rfl laid (by kernel_rfl) rfl mw x⟩
theorem AA1(a:Os){b:Type}(c:TypeId×Value->b): ∃places,DataW.whole c Tryz.prog ((Pb a).forCall (λ_ _=>0) ⟨#[],#[.slice none 0 0,.int .i64 0],[]⟩).memory Tryz.f4.params.toList Rows.engineFencesSpec.vars false (#[.slice none 0 0,.int .i64 0]:Array Value).toList 8=some ([.nil,.lit (.int .i64 0)],[],places):=
 ⟨[],by kernel_rfl⟩
noncomputable abbrev sU:=Rows.OpenSpec.upto Rows.engineFencesSpec
theorem ZO(a:Os)(c:a.Started)(b:Type)(enc:TypeId×Value->b)(d:Stop.Interp):
  ReturnsInHanded {} Tryz.checked a 4 .any (sU.preRow enc Tryz.prog Tryz.f4 Rows.engineFencesUptoRow.domain false Rows.engineFencesUptoRow.laid) ((sU.at d).post enc Tryz.prog Tryz.f4 false true false false):=by
 obtain⟨places,e⟩:=AA1 a enc;refine returnsInHanded_of_row (C:=Tryz.checked) (s:=sU) own c (by kernel_rfl) Tryz.func4
  (witness_row_at (enc:=enc) (C:=Tryz.checked) false (Pb a) #[.slice none 0 0,.int .i64 0] rfl (by kernel_rfl) (by kernel_rfl) (by kernel_rfl)
   (OpenSpec.preRow_of_cond 8 e (by kernel_rfl) (λn f=>by cases f;kernel_rfl) (by kernel_rfl) (Xv a _))) ?_
 intro g base args ds h i j k _ l _ m _ _;exact WW b enc g base args ds h i j k (l _ rfl) m
noncomputable abbrev pr:=Tryz.pinned.checked.prog
theorem AEi:laidOutB pr=true:=by kernel_rfl
theorem AEb:mapsRowed pr=true:=by kernel_rfl
theorem AEY:(Rows.engineFencesUptoRow.inPlace==pr.inPlace 4)=true:=by kernel_rfl
theorem AEk:(Rows.engineFencesUptoRow.unfollowed==pr.unfollowed 4)=true:=by kernel_rfl
theorem AEd:(Rows.engineFencesUptoRow.recurses==pr.recurses 4)=true:=by kernel_rfl
theorem AEt:(Rows.engineFencesUptoRow.named==pr.varsNamed 4)=true:=by kernel_rfl
theorem AES:(Rows.engineFencesUptoRow.loops==(Tryz.f4.params.toList++sU.bare.plain.varTypes pr).any (pr.loopsFrom ·))=true:=by kernel_rfl
theorem AEW:(Rows.engineFencesUptoRow.plainKeys==pr.plainKeys)=true:=by kernel_rfl
theorem AEn:pr.stopsHeard=true:=by kernel_rfl
theorem AET:pr.mayEnter=true:=by kernel_rfl
theorem ACv:(Rows.engineFencesUptoRow.lifted==pr.liftsFinal)=true:=by kernel_rfl
theorem ACW:(pr.make==some Rows.engineFencesUptoRow.make)=true:=by kernel_rfl
theorem aB {a b:Bool}(c:a=true)(d:b=true):(a&&b)=true:=by rw[c,d];rfl
theorem AAW:joinedFacts pr 4 Tryz.f4 sU.bare Rows.engineFencesUptoRow=true:=by
 unfold joinedFacts
 repeat' with_reducible first|refine aB ?_ ?_|exact AEi|exact AEb|exact AEY|exact AEk|exact AEd|exact AEt|exact AES|exact AEW|exact AEn|exact AET|exact ACv|exact ACW
 all_goals kernel_rfl
theorem ACT:Rows.EngineFencesUptoSaid:=
 OpenClaim.holds_of_cond 4 Tryz.f4 rfl rfl rfl rfl rfl rfl rfl ⟨rfl,rfl,rfl,rfl,rfl⟩ rfl rfl rfl rfl rfl (by kernel_rfl) Tryz.func4 AAW
  (A5 (by kernel_rfl)) (by unfold Func.isWrapper;first|(rw[A1 (by decide +kernel)];kernel_rfl)|(rw[A0 (by decide +kernel)];exact⟨rfl,rfl⟩))
  (λos a b c _ d=>by rw[OpenClaim.pre_eq_preRow];exact ZO os a b c d)
theorem AAw(b:FuncId)(c:Func)(f:pr.funcNamed Rows.engineFencesUptoRow.func=some b)(g:pr.funcs[b]? =some c):
  true=pr.looks []/\ ∀(d:Nat) t,c.params[d]? =some t->pr.wantsStandIn t=false:=by
 obtain rfl:b=4:=CC ((show Tryz.prog.funcNamed Rows.engineFencesUptoRow.func=some 4 by kernel_rfl).symm.trans f) |>.symm;obtain rfl:c=Tryz.f4:=(CC (Tryz.func4.symm.trans g)).symm;refine⟨by kernel_rfl,λd t e=>?_⟩;rw[Tryz.params4] at e;have a:=ZS e;simp only[A00,AN,No,Nx] at a;rcases a with a|a<;>(subst a;show _=false;kernel_rfl)
theorem q1:Rows.engineFencesUptoRow.wfByText sU=true:=by kernel_rfl
theorem q2 : pr.mainIs = some (true, "afbe726dd67a770dc31fd7a745dba06988b95f6ca1958192bd6e8a5f0c96bcea".toList) := by kernel_rfl
theorem q3:false=Rows.engineFencesUptoRow.goesBy pr:=by kernel_rfl
theorem engineFences_proved:Rows.EngineFencesUptoCardSaid:=
 Claim7.holds_tied_plain_at .later [] _ _ _ _ ACT (λ_ a=>by cases a) q1 (λ_ a=>by cases a) engineFencesUpto_row_tie rfl ⟨rfl,rfl⟩ q2 rfl AAw q3
#print axioms engineFences_proved
end Go.Proofs.YtebeggcpmdegnaaGreatDoor
