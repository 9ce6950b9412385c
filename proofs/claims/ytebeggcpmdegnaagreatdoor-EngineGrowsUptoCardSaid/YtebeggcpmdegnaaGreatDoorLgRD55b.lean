/-
 The card of the law EngineGrows is proved: for every input that its row takes, the function returns true, and leaves what it was given.
-/
import Derived.Test.YtebeggcpmdegnaaGreatDoorLgD31ToO4
import Derived.Test.YtebeggcpmdegnaaGreatDoorLgQ55
set_option maxRecDepth 100000
set_option linter.unusedVariables false
set_option linter.unusedSimpArgs false
set_option linter.defProp false
set_option linter.unnecessarySimpa false
open Go.IntKind renaming i64→D,wrap→J8
open Go.Value renaming string→J7,int→J6,pointer→J5,slice→J4,bool→J3,tuple→J1
open Go.Obj renaming cells→J2
open Go renaming Value→J0,Addr→Q6,TypeId→Q7,FuncId→Q8,Program→Q1
open Go.Addr renaming add→Q9,mk→Q5
open Option renaming some→Z,none→V
open Bool renaming true→Y,false→U
open List renaming length→J
namespace Go.Proofs.YtebeggcpmdegnaaGreatDoor
open Go Go.Lf Go.ChangeShapes Go.WideShapes Go.ChangeAt Go.RowKit
theorem own:ownKnob Tryz.prog.godebug=none:=by kernel_rfl
theorem XT(d:Type)(e:TypeId×Value->d)(a:World)(q:Nat)(b:Array Value)(f g:List (DataW d))(r:List MemPlace)
  (i: ∀(j:Nat) t v,Tryz.f8.params[j]? =some t->b[j]? =some v->Value.okWide Tryz.prog a .any q t v)
  (k:DataW.Whole e Tryz.prog Tryz.f8.params.toList Rows.engineGrowsSpec.vars false a b.toList f g r) (s:Rows.uptoSmall d (f++g)=true) (u:laidMetH Tryz.prog listed a):
  Calls Tryz.prog 8 b a λl m=> ∃v,l= .returned v/\Rows.engineGrowsSpec.post e Tryz.prog Tryz.f8 false true false false a b v m:=by
 have w:=k;obtain⟨p,T,y,z,rfl,O,ae⟩:=k;have hA:DataW.TrodAll e Tryz.prog a 0 (λ_=>true) true Tryz.f8.params.toList b.toList f p:=y;rw[Tryz.params8] at hA i;obtain⟨n,af,B,ag,ah,ai,aj,rfl,rfl,C,F⟩:=trodAll_cons hA;obtain⟨rfl,rfl,rfl⟩:=trodAll_nil F;obtain rfl:b= #[n]:=by cases b;simp_all
 obtain⟨rfl,rfl⟩:=trodVars_none z;obtain⟨H,I,rfl,K,g0⟩:=AT5 (i 0 _ n rfl rfl) C;have o:Rows.uptoBulkAll ([B]++ []:List (DataW d))<=1048576:=A5 s;simp only[AK,Ds,DO,Rows.uptoBulkAll] at o;have hB:=o;have P:=AFs (A:=rh a) (h:=a.heap) (R:=λv h=>v= .bool true/\G a.heap h) (calls:=H) (cl:=I)
  (AXq u) K (λc S=>by obtain⟨p,cm,X,vc⟩:=g0 c S;exact⟨p,cm,X.at (by omega),vc⟩) (λW x=>⟨rfl,x⟩) a.drawn
 refine Calls.mono P ?_;rintro l m ⟨v,rfl,W,ak,rfl,rfl,x⟩;exact⟨_,rfl,ATB w rfl rfl rfl rfl laid (by kernel_rfl) rfl pb x⟩
theorem AAz(a:Os){b:Type}(c:TypeId×Value->b): ∃places,DataW.whole c Tryz.prog ((vT a).forCall (λ_ _=>0) ⟨#[],#[.slice none 0 0],[]⟩).memory Tryz.f8.params.toList Rows.engineGrowsSpec.vars false (#[.slice none 0 0]:Array Value).toList 8=some ([.nil],[],places):=
 ⟨[],by kernel_rfl⟩
noncomputable abbrev sU:=Rows.OpenSpec.upto Rows.engineGrowsSpec
theorem Zp(a:Os)(c:a.Started)(b:Type)(enc:TypeId×Value->b)(d:Stop.Interp):
  ReturnsInHanded {} Tryz.checked a 8 .any (sU.preRow enc Tryz.prog Tryz.f8 Rows.engineGrowsUptoRow.domain false Rows.engineGrowsUptoRow.laid) ((sU.at d).post enc Tryz.prog Tryz.f8 false true false false):=by
 obtain⟨places,e⟩:=AAz a enc;refine returnsInHanded_of_row (C:=Tryz.checked) (s:=sU) own c (by kernel_rfl) Tryz.func8
  (witness_row_at (enc:=enc) (C:=Tryz.checked) false (vT a) #[.slice none 0 0] rfl (by kernel_rfl) (by kernel_rfl) (by kernel_rfl)
   (OpenSpec.preRow_of_cond 8 e (by kernel_rfl) (λn f=>by cases f;kernel_rfl) (by kernel_rfl) (AMH a _))) ?_
 intro g base args ds h i j k _ l _ m _ _;exact XT b enc g base args ds h i j k (l _ rfl) m
noncomputable abbrev pr:=Tryz.pinned.checked.prog
theorem AGA:laidOutB pr=true:=by kernel_rfl
theorem AGM:mapsRowed pr=true:=by kernel_rfl
theorem AGJ:(Rows.engineGrowsUptoRow.inPlace==pr.inPlace 8)=true:=by kernel_rfl
theorem AEg:(Rows.engineGrowsUptoRow.unfollowed==pr.unfollowed 8)=true:=by kernel_rfl
theorem AFO:(Rows.engineGrowsUptoRow.recurses==pr.recurses 8)=true:=by kernel_rfl
theorem AGU:(Rows.engineGrowsUptoRow.named==pr.varsNamed 8)=true:=by kernel_rfl
theorem AFg:(Rows.engineGrowsUptoRow.loops==(Tryz.f8.params.toList++sU.bare.plain.varTypes pr).any (pr.loopsFrom ·))=true:=by kernel_rfl
theorem AGE:(Rows.engineGrowsUptoRow.plainKeys==pr.plainKeys)=true:=by kernel_rfl
theorem AFU:pr.stopsHeard=true:=by kernel_rfl
theorem AFd:pr.mayEnter=true:=by kernel_rfl
theorem ADp:(Rows.engineGrowsUptoRow.lifted==pr.liftsFinal)=true:=by kernel_rfl
theorem ADu:(pr.make==some Rows.engineGrowsUptoRow.make)=true:=by kernel_rfl
theorem aB {a b:Bool}(c:a=true)(d:b=true):(a&&b)=true:=by rw[c,d];rfl
theorem ABk:joinedFacts pr 8 Tryz.f8 sU.bare Rows.engineGrowsUptoRow=true:=by
 unfold joinedFacts
 repeat' with_reducible first|refine aB ?_ ?_|exact AGA|exact AGM|exact AGJ|exact AEg|exact AFO|exact AGU|exact AFg|exact AGE|exact AFU|exact AFd|exact ADp|exact ADu
 all_goals kernel_rfl
theorem ACU:Rows.EngineGrowsUptoSaid:=
 OpenClaim.holds_of_cond 8 Tryz.f8 rfl rfl rfl rfl rfl rfl rfl ⟨rfl,rfl,rfl,rfl,rfl⟩ rfl rfl rfl rfl rfl (by kernel_rfl) Tryz.func8 ABk
  (A5 (by kernel_rfl)) (by unfold Func.isWrapper;first|(rw[A1 (by decide +kernel)];kernel_rfl)|(rw[A0 (by decide +kernel)];exact⟨rfl,rfl⟩))
  (λos a b c _ d=>by rw[OpenClaim.pre_eq_preRow];exact Zp os a b c d)
theorem ABj(a:FuncId)(b:Func)(f:pr.funcNamed Rows.engineGrowsUptoRow.func=some a)(g:pr.funcs[a]? =some b):
  true=pr.looks []/\ ∀(c:Nat) t,b.params[c]? =some t->pr.wantsStandIn t=false:=by
 obtain rfl:a=8:=CD ((show Tryz.prog.funcNamed Rows.engineGrowsUptoRow.func=some 8 by kernel_rfl).symm.trans f) |>.symm;obtain rfl:b=Tryz.f8:=(CD (Tryz.func8.symm.trans g)).symm;refine⟨by kernel_rfl,λc t d=>?_⟩;rw[Tryz.params8] at d;have e:=Array.mem_of_getElem? d;simp only[List.mem_toArray,AT,List.not_mem_nil,or_false] at e;subst e;show _=false;kernel_rfl
theorem q1:Rows.engineGrowsUptoRow.wfByText sU=true:=by kernel_rfl
theorem q2 : pr.mainIs = some (true, "afbe726dd67a770dc31fd7a745dba06988b95f6ca1958192bd6e8a5f0c96bcea".toList) := by kernel_rfl
theorem q3:false=Rows.engineGrowsUptoRow.goesBy pr:=by kernel_rfl
theorem engineGrows_proved:Rows.EngineGrowsUptoCardSaid:=
 Claim7.holds_tied_plain_at .later [] _ _ _ _ ACU (λ_ a=>by cases a) q1 (λ_ a=>by cases a) engineGrowsUpto_row_tie rfl ⟨rfl,rfl⟩ q2 rfl ABj q3
#print axioms engineGrows_proved
end Go.Proofs.YtebeggcpmdegnaaGreatDoor
