/-
 The card of the law EnginePages is proved: for every input that its row takes, the function returns true, and leaves what it was given.
-/
import Derived.Test.YtebeggcpmdegnaaGreatDoorLfD29ToO4
import Derived.Test.YtebeggcpmdegnaaGreatDoorLfQ52
set_option maxRecDepth 100000
set_option linter.unusedVariables false
set_option linter.unusedSimpArgs false
set_option linter.defProp false
open Go.IntKind renaming i64→D,wrap→J8
open Go.Value renaming string→J7,int→J6,pointer→J5,slice→J4,bool→J3,tuple→J1
open Go.Obj renaming cells→J2
open Go renaming Value→J0,Addr→Q6,TypeId→Q7,FuncId→Q8,Program→Q1
open Go.Addr renaming add→Q9,mk→Q5
open Option renaming some→Z,none→V
open Bool renaming true→Y,false→U
open List renaming length→J
namespace Go.Proofs.YtebeggcpmdegnaaGreatDoor
open Go Go.Lf Go.ChangeShapes Go.WideShapes Go.ChangeAt Go.RowKit
theorem own:ownKnob Tryz.prog.godebug=none:=by kernel_rfl
theorem Wz(d:Type)(e:TypeId×Value->d)(a:World)(q:Nat)(b:Array Value)(f i:List (DataW d))(r:List MemPlace)
  (g: ∀(j:Nat) t v,Tryz.f5.params[j]? =some t->b[j]? =some v->Value.okWide Tryz.prog a .any q t v)
  (k:DataW.Whole e Tryz.prog Tryz.f5.params.toList Rows.enginePagesSpec.vars false a b.toList f i r) (s:Rows.uptoSmall d (f++i)=true) (u:laidMetH Tryz.prog listed a):
  Calls Tryz.prog 5 b a λl m=> ∃v,l= .returned v/\Rows.enginePagesSpec.post e Tryz.prog Tryz.f5 false true false false a b v m:=by
 have w:=k;obtain⟨p,ag,y,z,rfl,ah,ai⟩:=k;have hA:DataW.TrodAll e Tryz.prog a 0 (λ_=>true) true Tryz.f5.params.toList b.toList f p:=y;rw[Tryz.params5] at hA g;obtain⟨n,aj,B,ak,al,O,an,rfl,rfl,C,F⟩:=trodAll_cons hA;obtain⟨v1,ao,H,ap,aq,q1,rfl,rfl,rfl,I,K⟩:=trodAll_cons F;obtain⟨rfl,rfl,rfl⟩:=trodAll_nil K;obtain rfl:b= #[n,v1]:=by cases b;simp_all
 obtain⟨rfl,rfl⟩:=trodVars_none z;obtain⟨P,S,rfl,X,g0⟩:=AMR (g 0 _ n rfl rfl) C;obtain⟨Q,rfl,g1⟩:=APp (g 1 _ v1 rfl rfl) I;have o:Rows.uptoBulkAll ([B,H]++ []:List (DataW d))<=1048576:=A5 s;simp only[AK,CN,DO,Rows.uptoBulkAll] at o;have hB:=o;have N:=AF1 (A:=oV a) (h:=a.heap) (R:=λv h=>v= .bool true/\L a.heap h) (calls:=P) (cl:=S) (wid:=Q)
  (ATc u) X (λc ac=>by obtain⟨p,cm,ae,vc⟩:=g0 c ac;exact⟨p,cm,ae.at (by omega),vc⟩) (λaf x=>⟨rfl,x⟩) a.drawn
 refine Calls.mono N ?_;rintro l m ⟨v,rfl,af,ar,rfl,rfl,x⟩;exact⟨_,rfl,ALw w rfl rfl rfl rfl laid (by kernel_rfl) rfl mV x⟩
theorem AA5(a:Os){b:Type}(c:TypeId×Value->b): ∃places,DataW.whole c Tryz.prog ((Te a).forCall (λ_ _=>0) ⟨#[],#[.slice none 0 0,.string ⟨#[]⟩],[]⟩).memory Tryz.f5.params.toList Rows.enginePagesSpec.vars false (#[.slice none 0 0,.string ⟨#[]⟩]:Array Value).toList 8=some ([.nil,.lit (.string [])],[],places):=
 ⟨[],by kernel_rfl⟩
noncomputable abbrev sU:=Rows.OpenSpec.upto Rows.enginePagesSpec
theorem AAM(a:Os)(c:a.Started)(b:Type)(enc:TypeId×Value->b)(d:Stop.Interp):
  ReturnsInHanded {} Tryz.checked a 5 .any (sU.preRow enc Tryz.prog Tryz.f5 Rows.enginePagesUptoRow.domain false Rows.enginePagesUptoRow.laid) ((sU.at d).post enc Tryz.prog Tryz.f5 false true false false):=by
 obtain⟨places,e⟩:=AA5 a enc;refine returnsInHanded_of_row (C:=Tryz.checked) (s:=sU) own c (by kernel_rfl) Tryz.func5
  (witness_row_at (enc:=enc) (C:=Tryz.checked) false (Te a) #[.slice none 0 0,.string ⟨#[]⟩] rfl (by kernel_rfl) (by kernel_rfl) (by kernel_rfl)
   (OpenSpec.preRow_of_cond 8 e (by kernel_rfl) (λn f=>by cases f;kernel_rfl) (by kernel_rfl) (ADd a _))) ?_
 intro g base args ds h i j k _ l _ m _ _;exact Wz b enc g base args ds h i j k (l _ rfl) m
noncomputable abbrev pr:=Tryz.pinned.checked.prog
theorem AEq:laidOutB pr=true:=by kernel_rfl
theorem AFZ:mapsRowed pr=true:=by kernel_rfl
theorem AEv:(Rows.enginePagesUptoRow.inPlace==pr.inPlace 5)=true:=by kernel_rfl
theorem AFx:(Rows.enginePagesUptoRow.unfollowed==pr.unfollowed 5)=true:=by kernel_rfl
theorem AF5:(Rows.enginePagesUptoRow.recurses==pr.recurses 5)=true:=by kernel_rfl
theorem AF4:(Rows.enginePagesUptoRow.named==pr.varsNamed 5)=true:=by kernel_rfl
theorem AGW:(Rows.enginePagesUptoRow.loops==(Tryz.f5.params.toList++sU.bare.plain.varTypes pr).any (pr.loopsFrom ·))=true:=by kernel_rfl
theorem AGY:(Rows.enginePagesUptoRow.plainKeys==pr.plainKeys)=true:=by kernel_rfl
theorem AGB:pr.stopsHeard=true:=by kernel_rfl
theorem AGE:pr.mayEnter=true:=by kernel_rfl
theorem AD0:(Rows.enginePagesUptoRow.lifted==pr.liftsFinal)=true:=by kernel_rfl
theorem ADq:(pr.make==some Rows.enginePagesUptoRow.make)=true:=by kernel_rfl
theorem aB {a b:Bool}(c:a=true)(d:b=true):(a&&b)=true:=by rw[c,d];rfl
theorem AAw:joinedFacts pr 5 Tryz.f5 sU.bare Rows.enginePagesUptoRow=true:=by
 unfold joinedFacts
 repeat' with_reducible first|refine aB ?_ ?_|exact AEq|exact AFZ|exact AEv|exact AFx|exact AF5|exact AF4|exact AGW|exact AGY|exact AGB|exact AGE|exact AD0|exact ADq
 all_goals kernel_rfl
theorem ACw:Rows.EnginePagesUptoSaid:=
 OpenClaim.holds_of_cond 5 Tryz.f5 rfl rfl rfl rfl rfl rfl rfl ⟨rfl,rfl,rfl,rfl,rfl⟩ rfl rfl rfl rfl rfl (by kernel_rfl) Tryz.func5 AAw
  (A5 (by kernel_rfl)) (by unfold Func.isWrapper;first|(rw[A1 (by decide +kernel)];kernel_rfl)|(rw[A0 (by decide +kernel)];exact⟨rfl,rfl⟩))
  (λos a b c _ d=>by rw[OpenClaim.pre_eq_preRow];exact AAM os a b c d)
theorem ABW(b:FuncId)(c:Func)(f:pr.funcNamed Rows.enginePagesUptoRow.func=some b)(g:pr.funcs[b]? =some c):
  true=pr.looks []/\ ∀(d:Nat) t,c.params[d]? =some t->pr.wantsStandIn t=false:=by
 obtain rfl:b=5:=CH ((show Tryz.prog.funcNamed Rows.enginePagesUptoRow.func=some 5 by kernel_rfl).symm.trans f) |>.symm;obtain rfl:c=Tryz.f5:=(CH (Tryz.func5.symm.trans g)).symm;refine⟨by kernel_rfl,λd t e=>?_⟩;rw[Tryz.params5] at e;have a:=A0T e;simp only[List.mem_toArray,AS,SR,or_false] at a;rcases a with a|a<;>(subst a;show _=false;kernel_rfl)
theorem q1:Rows.enginePagesUptoRow.wfByText sU=true:=by kernel_rfl
theorem q2 : pr.mainIs = some (true, "afbe726dd67a770dc31fd7a745dba06988b95f6ca1958192bd6e8a5f0c96bcea".toList) := by kernel_rfl
theorem q3:false=Rows.enginePagesUptoRow.goesBy pr:=by kernel_rfl
theorem enginePages_proved:Rows.EnginePagesUptoCardSaid:=
 Claim7.holds_tied_plain_at .later [] _ _ _ _ ACw (λ_ a=>by cases a) q1 (λ_ a=>by cases a) enginePagesUpto_row_tie rfl ⟨rfl,rfl⟩ q2 rfl ABW q3
#print axioms enginePages_proved
end Go.Proofs.YtebeggcpmdegnaaGreatDoor
