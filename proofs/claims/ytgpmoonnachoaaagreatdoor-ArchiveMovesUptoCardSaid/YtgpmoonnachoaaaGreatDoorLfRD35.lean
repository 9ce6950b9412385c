/-
 The card of the law ArchiveMoves is proved: for every input that its row takes, the function returns true, and leaves what it was given.
-/
import Derived.Test.YtgpmoonnachoaaaGreatDoorLfZ11ToU32
import Derived.Test.YtgpmoonnachoaaaGreatDoorLfQ35
set_option maxRecDepth 100000
set_option linter.unusedVariables false
set_option linter.unusedSimpArgs false
open Go.IntKind renaming i64→J9,wrap→J8
open Go.Value renaming string→J7,int→J6,pointer→J5,slice→J4,bool→J3,tuple→J1
open Go.Obj renaming cells→J2
open Go renaming Value→J0,Addr→Q6,TypeId→Q7,FuncId→Q8,Program→Q1
open Go.Addr renaming add→Q9,mk→Q5
namespace Go.Proofs.YtgpmoonnachoaaaGreatDoor
open Go Go.Lf Go.Lf.G Go.ChangeShapes Go.WideShapes Go.ChangeAt Go.RowKit
theorem own:ownKnob Tryz.prog.godebug=none:=by kernel_rfl
theorem Tc(b:Type)(c:TypeId×Value->b)(a:World)(base:Nat)(args:Array Value)(ds d:List (DataW b))(l:List MemPlace)
  (e: ∀(f:Nat) t v,Tryz.f3.params[f]? =some t->args[f]? =some v->Value.okWide Tryz.prog a .any base t v)
  (g:DataW.Whole c Tryz.prog Tryz.f3.params.toList Rows.archiveMovesSpec.vars false a args.toList ds d l) (m:Rows.uptoSmall b (ds++d)=true) (n:laidMetH Tryz.prog listed a):
  Calls Tryz.prog 3 args a λi j=> ∃v,i= .returned v/\Rows.archiveMovesSpec.post c Tryz.prog Tryz.f3 false true false false a args v j:=by
 have o:=g;obtain⟨p,E,q,r,rfl,F,G⟩:=g;have hA:DataW.TrodAll c Tryz.prog a 0 (λ_=>true) true Tryz.f3.params.toList args.toList ds p:=q;rw[Tryz.params3] at hA e;obtain⟨k,H,I,J,K,L,M,rfl,rfl,s,u⟩:=trodAll_cons hA;obtain⟨rfl,rfl,rfl⟩:=trodAll_nil u;obtain rfl:args= #[k]:=by cases args;simp_all
 obtain⟨rfl,rfl⟩:=trodVars_none r;obtain⟨w,rfl,y,_,z⟩:=open_int AT5 (e 0 _ k rfl rfl) s;subst y;have C:=ABp (A:=mH a) (h:=a.heap) (R:=λv h=>v= .bool true/\Ext a.heap h) (signals:=w)
  (AS1 n)  (λD x => ⟨rfl, x⟩) a.drawn
 refine Calls.mono C ?_;rintro i j ⟨v,rfl,D,O,rfl,rfl,x⟩;exact⟨_,rfl,APJ o rfl rfl rfl rfl laid (by kernel_rfl) rfl ASg x⟩
theorem Xf(os:Os){a:Type}(b:TypeId×Value->a): ∃c,DataW.whole b Tryz.prog ((Zo os).forCall (λ_ _=>0) ⟨#[],#[.int .i64 0],[]⟩).memory Tryz.f3.params.toList Rows.archiveMovesSpec.vars false (#[.int .i64 0]:Array Value).toList 8=some ([.lit (.int .i64 0)],[],c):=
 ⟨[],by kernel_rfl⟩
noncomputable abbrev sU:=Rows.OpenSpec.upto Rows.archiveMovesSpec
theorem WE(os:Os)(b:os.Started)(a:Type)(enc:TypeId×Value->a)(c:Stop.Interp):
  ReturnsInHanded {} Tryz.checked os 3 .any (sU.preRow enc Tryz.prog Tryz.f3 Rows.archiveMovesUptoRow.domain false Rows.archiveMovesUptoRow.laid) ((sU.at c).post enc Tryz.prog Tryz.f3 false true false false):=by
 obtain⟨m,d⟩:=Xf os enc;refine returnsInHanded_of_row (C:=Tryz.checked) (s:=sU) own b (by kernel_rfl) Tryz.func3
  (witness_row_at (enc:=enc) (C:=Tryz.checked) false (Zo os) #[.int .i64 0] rfl (by kernel_rfl) (by kernel_rfl) (by kernel_rfl)
   (OpenSpec.preRow_of_cond 8 d (by kernel_rfl) (λn e=>by cases e;kernel_rfl) (by kernel_rfl) (AJI os _))) ?_
 intro f base args ds g h i j _ k _ l _ _;exact Tc a enc f base args ds g h i j (k _ rfl) l
noncomputable abbrev pr:=Tryz.pinned.checked.prog
theorem ABl:laidOutB pr=true:=by kernel_rfl
theorem ABr:mapsRowed pr=true:=by kernel_rfl
theorem ACC:(Rows.archiveMovesUptoRow.inPlace==pr.inPlace 3)=true:=by kernel_rfl
theorem ACD:(Rows.archiveMovesUptoRow.unfollowed==pr.unfollowed 3)=true:=by kernel_rfl
theorem AB3:(Rows.archiveMovesUptoRow.recurses==pr.recurses 3)=true:=by kernel_rfl
theorem ACA:(Rows.archiveMovesUptoRow.named==pr.varsNamed 3)=true:=by kernel_rfl
theorem ABh:(Rows.archiveMovesUptoRow.loops==(Tryz.f3.params.toList++sU.bare.plain.varTypes pr).any (pr.loopsFrom ·))=true:=by kernel_rfl
theorem AB4:(Rows.archiveMovesUptoRow.plainKeys==pr.plainKeys)=true:=by kernel_rfl
theorem ABn:pr.stopsHeard=true:=by kernel_rfl
theorem ACB:pr.mayEnter=true:=by kernel_rfl
theorem AAN:(Rows.archiveMovesUptoRow.lifted==pr.liftsFinal)=true:=by kernel_rfl
theorem Zq:(pr.make==some Rows.archiveMovesUptoRow.make)=true:=by kernel_rfl
theorem aB {a b:Bool}(c:a=true)(d:b=true):(a&&b)=true:=by rw[c,d];rfl
theorem XM:joinedFacts pr 3 Tryz.f3 sU.bare Rows.archiveMovesUptoRow=true:=by
 unfold joinedFacts
 repeat' with_reducible first|refine aB ?_ ?_|exact ABl|exact ABr|exact ACC|exact ACD|exact AB3|exact ACA|exact ABh|exact AB4|exact ABn|exact ACB|exact AAN|exact Zq
 all_goals kernel_rfl
theorem ZX:Rows.ArchiveMovesUptoSaid:=
 OpenClaim.holds_of_cond 3 Tryz.f3 rfl rfl rfl rfl rfl rfl rfl ⟨rfl,rfl,rfl,rfl,rfl⟩ rfl rfl rfl rfl rfl (by kernel_rfl) Tryz.func3 XM
  (of_decide_eq_true (by kernel_rfl)) (by unfold Func.isWrapper;first|(rw[if_pos (by decide +kernel)];kernel_rfl)|(rw[if_neg (by decide +kernel)];exact⟨rfl,rfl⟩))
  (λos a b c _ d=>by rw[OpenClaim.pre_eq_preRow];exact WE os a b c d)
theorem XL(f:FuncId)(fn:Func)(d:pr.funcNamed Rows.archiveMovesUptoRow.func=some f)(e:pr.funcs[f]? =some fn):
  true=pr.looks []/\ ∀(a:Nat) t,fn.params[a]? =some t->pr.wantsStandIn t=false:=by
 obtain rfl:f=3:=BE ((show Tryz.prog.funcNamed Rows.archiveMovesUptoRow.func=some 3 by kernel_rfl).symm.trans d) |>.symm;obtain rfl:fn=Tryz.f3:=(BE (Tryz.func3.symm.trans e)).symm;refine⟨by kernel_rfl,λa t b=>?_⟩;rw[Tryz.params3] at b;have c:=Wb b;simp only[List.mem_toArray,HS,P0,or_false] at c;subst c;show _=false;kernel_rfl
theorem archiveMoves_proved:Rows.ArchiveMovesUptoCardSaid:=
 Claim7.holds_tied_plain_at .later [] _ _ _ _ ZX (λ_ a=>by cases a) (by kernel_rfl) (λ_ a=>by cases a) archiveMovesUpto_row_tie rfl ⟨rfl,rfl⟩ (by kernel_rfl) rfl XL (by kernel_rfl)
#print axioms archiveMoves_proved
end Go.Proofs.YtgpmoonnachoaaaGreatDoor
