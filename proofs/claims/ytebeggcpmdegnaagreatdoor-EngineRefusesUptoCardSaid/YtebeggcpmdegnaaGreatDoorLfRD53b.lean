/-
 The card of the law EngineRefuses is proved: for every input that its row takes, the function returns true, and leaves what it was given.
-/
import Derived.Test.YtebeggcpmdegnaaGreatDoorLfO5
import Derived.Test.YtebeggcpmdegnaaGreatDoorLfQ53
set_option maxRecDepth 100000
set_option linter.unusedVariables false
set_option linter.unusedSimpArgs false
set_option linter.defProp false
set_option linter.unnecessarySimpa false
open Go.IntKind renaming i64→D,wrap→J8
open Go.Value renaming string→J7,int→J6,pointer→J5,slice→J4,bool→J3,tuple→J1
open Go.Obj renaming cells→J2
open Go renaming Value→J0,Addr→Q6,TypeId→Q7,FuncId→Q8,Program→Q1
open Go.Addr renaming add→Q9,mk→Q5
open Option renaming some→Z,none→V
open Bool renaming true→Y,false→U
open List renaming length→J
namespace Go.Proofs.YtebeggcpmdegnaaGreatDoor
open Go Go.Lf Go.ChangeShapes Go.WideShapes Go.ChangeAt Go.RowKit
theorem own:ownKnob Tryz.prog.godebug=none:=by kernel_rfl
theorem Vk(d:Type)(e:TypeId×Value->d)(a:World)(r:Nat)(b:Array Value)(f i:List (DataW d))(s:List MemPlace)
  (g: ∀(j:Nat) t v,Tryz.f7.params[j]? =some t->b[j]? =some v->Value.okWide Tryz.prog a .any r t v)
  (k:DataW.Whole e Tryz.prog Tryz.f7.params.toList Rows.engineRefusesSpec.vars false a b.toList f i s) (u:Rows.uptoSmall d (f++i)=true) (w:laidMetH Tryz.prog listed a):
  Calls Tryz.prog 7 b a λl m=> ∃v,l= .returned v/\Rows.engineRefusesSpec.post e Tryz.prog Tryz.f7 false true false false a b v m:=by
 have y:=k;obtain⟨p,q,z,B,rfl,ai,aj⟩:=k;have hA:DataW.TrodAll e Tryz.prog a 0 (λ_=>true) true Tryz.f7.params.toList b.toList f p:=z;rw[Tryz.params7] at hA g;obtain⟨n,ak,C,al,O,an,ao,rfl,rfl,F,H⟩:=trodAll_cons hA;obtain⟨v1,ap,I,T,ar,q1,rfl,rfl,rfl,K,P⟩:=trodAll_cons H;obtain⟨rfl,rfl,rfl⟩:=trodAll_nil P;obtain rfl:b= #[n,v1]:=by cases b;simp_all
 obtain⟨rfl,rfl⟩:=trodVars_none B;obtain⟨S,X,rfl,W,g0⟩:=wx (g 0 _ n rfl rfl) F;obtain⟨M,au,rfl,Q,g1⟩:=AZH (g 1 _ v1 rfl rfl) K;have o:Rows.uptoBulkAll ([C,I]++ []:List (DataW d))<=1048576:=A5 u;simp only[AM,CM,DH,Rows.uptoBulkAll] at o;have hB:=o;have ae:=AC4 (A:=nB a) (h:=a.heap) (R:=λv h=>v= .bool true/\G a.heap h) (calls:=S) (cl:=X) (q:=M)
  (wu w) W (λc af=>by obtain⟨p,cm,ag,vc⟩:=g0 c af;exact⟨p,cm,ag.at (by omega),vc⟩) (Q.at (by omega)) g1 (λah x=>⟨rfl,x⟩) a.drawn
 refine Calls.mono ae ?_;rintro l m ⟨v,rfl,ah,av,rfl,rfl,x⟩;exact⟨_,rfl,wk y rfl rfl rfl rfl laid (by kernel_rfl) rfl mw x⟩
theorem ZT(a:Os){b:Type}(c:TypeId×Value->b): ∃places,DataW.whole c Tryz.prog ((Pb a).forCall (λ_ _=>0) ⟨#[],#[.slice none 0 0,.agg #[.int .i64 0,.string ⟨#[]⟩,.string ⟨#[]⟩,.string ⟨#[]⟩,.slice none 0 0,.int .i64 0,.slice none 0 0,.int .i64 0,.int .i64 0,.int .i64 0,.int .i64 0,.bool false]],[]⟩).memory Tryz.f7.params.toList Rows.engineRefusesSpec.vars false (#[.slice none 0 0,.agg #[.int .i64 0,.string ⟨#[]⟩,.string ⟨#[]⟩,.string ⟨#[]⟩,.slice none 0 0,.int .i64 0,.slice none 0 0,.int .i64 0,.int .i64 0,.int .i64 0,.int .i64 0,.bool false]]:Array Value).toList 8=some ([.nil,.agg [.lit (.int .i64 0),.lit (.string []),.lit (.string []),.lit (.string []),.agg [.nil,.lit (.int .i64 0)],.nil,.lit (.int .i64 0),.lit (.int .i64 0),.lit (.int .i64 0),.lit (.int .i64 0),.lit (.bool false)]],[],places):=
 ⟨[],by kernel_rfl⟩
noncomputable abbrev sU:=Rows.OpenSpec.upto Rows.engineRefusesSpec
theorem Xr(a:Os)(c:a.Started)(b:Type)(enc:TypeId×Value->b)(d:Stop.Interp):
  ReturnsInHanded {} Tryz.checked a 7 .any (sU.preRow enc Tryz.prog Tryz.f7 Rows.engineRefusesUptoRow.domain false Rows.engineRefusesUptoRow.laid) ((sU.at d).post enc Tryz.prog Tryz.f7 false true false false):=by
 obtain⟨places,e⟩:=ZT a enc;refine returnsInHanded_of_row (C:=Tryz.checked) (s:=sU) own c (by kernel_rfl) Tryz.func7
  (witness_row_at (enc:=enc) (C:=Tryz.checked) false (Pb a) #[.slice none 0 0,.agg #[.int .i64 0,.string ⟨#[]⟩,.string ⟨#[]⟩,.string ⟨#[]⟩,.slice none 0 0,.int .i64 0,.slice none 0 0,.int .i64 0,.int .i64 0,.int .i64 0,.int .i64 0,.bool false]] rfl (by kernel_rfl) (by kernel_rfl) (by kernel_rfl)
   (OpenSpec.preRow_of_cond 8 e (by kernel_rfl) (λn f=>by cases f;kernel_rfl) (by kernel_rfl) (Xv a _))) ?_
 intro g base args ds h i j k _ l _ m _ _;exact Vk b enc g base args ds h i j k (l _ rfl) m
noncomputable abbrev pr:=Tryz.pinned.checked.prog
theorem ADb:laidOutB pr=true:=by kernel_rfl
theorem ADK:mapsRowed pr=true:=by kernel_rfl
theorem ACh:(Rows.engineRefusesUptoRow.inPlace==pr.inPlace 7)=true:=by kernel_rfl
theorem AC9:(Rows.engineRefusesUptoRow.unfollowed==pr.unfollowed 7)=true:=by kernel_rfl
theorem ACf:(Rows.engineRefusesUptoRow.recurses==pr.recurses 7)=true:=by kernel_rfl
theorem ADN:(Rows.engineRefusesUptoRow.named==pr.varsNamed 7)=true:=by kernel_rfl
theorem ACs:(Rows.engineRefusesUptoRow.loops==(Tryz.f7.params.toList++sU.bare.plain.varTypes pr).any (pr.loopsFrom ·))=true:=by kernel_rfl
theorem ADP:(Rows.engineRefusesUptoRow.plainKeys==pr.plainKeys)=true:=by kernel_rfl
theorem ACo:pr.stopsHeard=true:=by kernel_rfl
theorem ACt:pr.mayEnter=true:=by kernel_rfl
theorem ABS:(Rows.engineRefusesUptoRow.lifted==pr.liftsFinal)=true:=by kernel_rfl
theorem ACF:(pr.make==some Rows.engineRefusesUptoRow.make)=true:=by kernel_rfl
theorem aB {a b:Bool}(c:a=true)(d:b=true):(a&&b)=true:=by rw[c,d];rfl
theorem ZK:joinedFacts pr 7 Tryz.f7 sU.bare Rows.engineRefusesUptoRow=true:=by
 unfold joinedFacts
 repeat' with_reducible first|refine aB ?_ ?_|exact ADb|exact ADK|exact ACh|exact AC9|exact ACf|exact ADN|exact ACs|exact ADP|exact ACo|exact ACt|exact ABS|exact ACF
 all_goals kernel_rfl
theorem AAT:Rows.EngineRefusesUptoSaid:=
 OpenClaim.holds_of_cond 7 Tryz.f7 rfl rfl rfl rfl rfl rfl rfl ⟨rfl,rfl,rfl,rfl,rfl⟩ rfl rfl rfl rfl rfl (by kernel_rfl) Tryz.func7 ZK
  (A5 (by kernel_rfl)) (by unfold Func.isWrapper;first|(rw[A1 (by decide +kernel)];kernel_rfl)|(rw[A0 (by decide +kernel)];exact⟨rfl,rfl⟩))
  (λos a b c _ d=>by rw[OpenClaim.pre_eq_preRow];exact Xr os a b c d)
theorem ZW(b:FuncId)(c:Func)(f:pr.funcNamed Rows.engineRefusesUptoRow.func=some b)(g:pr.funcs[b]? =some c):
  true=pr.looks []/\ ∀(d:Nat) t,c.params[d]? =some t->pr.wantsStandIn t=false:=by
 obtain rfl:b=7:=CC ((show Tryz.prog.funcNamed Rows.engineRefusesUptoRow.func=some 7 by kernel_rfl).symm.trans f) |>.symm;obtain rfl:c=Tryz.f7:=(CC (Tryz.func7.symm.trans g)).symm;refine⟨by kernel_rfl,λd t e=>?_⟩;rw[Tryz.params7] at e;have a:=ZS e;simp only[A00,AN,No,Nx] at a;rcases a with a|a<;>(subst a;show _=false;kernel_rfl)
theorem q1:Rows.engineRefusesUptoRow.wfByText sU=true:=by kernel_rfl
theorem q2 : pr.mainIs = some (true, "afbe726dd67a770dc31fd7a745dba06988b95f6ca1958192bd6e8a5f0c96bcea".toList) := by kernel_rfl
theorem q3:false=Rows.engineRefusesUptoRow.goesBy pr:=by kernel_rfl
theorem engineRefuses_proved:Rows.EngineRefusesUptoCardSaid:=
 Claim7.holds_tied_plain_at .later [] _ _ _ _ AAT (λ_ a=>by cases a) q1 (λ_ a=>by cases a) engineRefusesUpto_row_tie rfl ⟨rfl,rfl⟩ q2 rfl ZW q3
#print axioms engineRefuses_proved
end Go.Proofs.YtebeggcpmdegnaaGreatDoor
