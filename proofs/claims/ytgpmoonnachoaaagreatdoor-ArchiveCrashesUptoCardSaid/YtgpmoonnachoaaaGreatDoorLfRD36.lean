/-
 The card of the law ArchiveCrashes is proved: for every input that its row takes, the function returns true, and leaves what it was given.
-/
import Derived.Test.YtgpmoonnachoaaaGreatDoorLfV11ToO5
set_option maxRecDepth 100000
set_option linter.unusedVariables false
set_option linter.unusedSimpArgs false
open Go.IntKind renaming i64→J9,wrap→J8
open Go.Value renaming string→J7,int→J6,pointer→J5,slice→J4,bool→J3,tuple→J1
open Go.Obj renaming cells→J2
open Go renaming Value→J0,Addr→Q6,TypeId→Q7,FuncId→Q8,Program→Q1
open Go.Addr renaming add→Q9,mk→Q5
namespace Go.Proofs.YtgpmoonnachoaaaGreatDoor
open Go Go.Lf Go.Lf.G Go.ChangeShapes Go.WideShapes Go.ChangeAt Go.RowKit
theorem own:ownKnob Tryz.prog.godebug=none:=by kernel_rfl
theorem Rf(b:Type)(c:TypeId×Value->b)(a:World)(base:Nat)(args:Array Value)(ds e:List (DataW b))(l:List MemPlace)
  (d: ∀(f:Nat) t v,Tryz.f7.params[f]? =some t->args[f]? =some v->Value.okWide Tryz.prog a .any base t v)
  (g:DataW.Whole c Tryz.prog Tryz.f7.params.toList Rows.archiveCrashesSpec.vars false a args.toList ds e l) (H:Rows.uptoSmall b (ds++e)=true) (m:laidMetH Tryz.prog listed a):
  Calls Tryz.prog 7 args a λi j=> ∃v,i= .returned v/\Rows.archiveCrashesSpec.post c Tryz.prog Tryz.f7 false true false false a args v j:=by
 have n:=g;obtain⟨p,I,o,q,rfl,J,K⟩:=g;have hA:DataW.TrodAll c Tryz.prog a 0 (λ_=>true) true Tryz.f7.params.toList args.toList ds p:=o;rw[Tryz.params7] at hA d;obtain⟨k,L,M,N,O,P,Q,rfl,rfl,r,s⟩:=trodAll_cons hA;obtain⟨v1,S,T,U,V,W,rfl,rfl,rfl,u,w⟩:=trodAll_cons s;obtain⟨rfl,rfl,rfl⟩:=trodAll_nil w;obtain rfl:args= #[k,v1]:=by cases args;simp_all
 obtain⟨rfl,rfl⟩:=trodVars_none q;obtain⟨y,rfl,z,_,X⟩:=open_int ry (d 0 _ k rfl rfl) r;subst z;obtain⟨B,C,rfl,D,E⟩:=APR (d 1 _ v1 rfl rfl) u;have F:=Zn (A:=mS a) (h:=a.heap) (R:=λv h=>v= .bool true/\Ext a.heap h) (signals:=y) (bK:=B) (cs:=C)
  (ASq m) D E (λG x=>⟨rfl,x⟩) a.drawn
 refine Calls.mono F ?_;rintro i j ⟨v,rfl,G,Y,rfl,rfl,x⟩;exact⟨_,rfl,APA n rfl rfl rfl rfl laid (by kernel_rfl) rfl AST x⟩
theorem VM(os:Os){a:Type}(b:TypeId×Value->a): ∃c,DataW.whole b Tryz.prog ((Zw os).forCall (λ_ _=>0) ⟨#[],#[.int .i64 0,.slice none 0 0],[]⟩).memory Tryz.f7.params.toList Rows.archiveCrashesSpec.vars false (#[.int .i64 0,.slice none 0 0]:Array Value).toList 8=some ([.lit (.int .i64 0),.nil],[],c):=
 ⟨[],by kernel_rfl⟩
noncomputable abbrev sU:=Rows.OpenSpec.upto Rows.archiveCrashesSpec
theorem Tu(os:Os)(b:os.Started)(a:Type)(enc:TypeId×Value->a)(c:Stop.Interp):
  ReturnsInHanded {} Tryz.checked os 7 .any (sU.preRow enc Tryz.prog Tryz.f7 Rows.archiveCrashesUptoRow.domain false Rows.archiveCrashesUptoRow.laid) ((sU.at c).post enc Tryz.prog Tryz.f7 false true false false):=by
 obtain⟨m,d⟩:=VM os enc;refine returnsInHanded_of_row (C:=Tryz.checked) (s:=sU) own b (by kernel_rfl) Tryz.func7
  (witness_row_at (enc:=enc) (C:=Tryz.checked) false (Zw os) #[.int .i64 0,.slice none 0 0] rfl (by kernel_rfl) (by kernel_rfl) (by kernel_rfl)
   (OpenSpec.preRow_of_cond 8 d (by kernel_rfl) (λn e=>by cases e;kernel_rfl) (by kernel_rfl) (AI0 os _))) ?_
 intro f base args ds g h i j _ k _ l _ _;exact Rf a enc f base args ds g h i j (k _ rfl) l
noncomputable abbrev pr:=Tryz.pinned.checked.prog
theorem Yv:laidOutB pr=true:=by kernel_rfl
theorem Zi:mapsRowed pr=true:=by kernel_rfl
theorem Yq:(Rows.archiveCrashesUptoRow.inPlace==pr.inPlace 7)=true:=by kernel_rfl
theorem ZT:(Rows.archiveCrashesUptoRow.unfollowed==pr.unfollowed 7)=true:=by kernel_rfl
theorem ZK:(Rows.archiveCrashesUptoRow.recurses==pr.recurses 7)=true:=by kernel_rfl
theorem ZW:(Rows.archiveCrashesUptoRow.named==pr.varsNamed 7)=true:=by kernel_rfl
theorem Yu:(Rows.archiveCrashesUptoRow.loops==(Tryz.f7.params.toList++sU.bare.plain.varTypes pr).any (pr.loopsFrom ·))=true:=by kernel_rfl
theorem YS:(Rows.archiveCrashesUptoRow.plainKeys==pr.plainKeys)=true:=by kernel_rfl
theorem Zr:pr.stopsHeard=true:=by kernel_rfl
theorem ZG:pr.mayEnter=true:=by kernel_rfl
theorem Xj:(Rows.archiveCrashesUptoRow.lifted==pr.liftsFinal)=true:=by kernel_rfl
theorem Xz:(pr.make==some Rows.archiveCrashesUptoRow.make)=true:=by kernel_rfl
theorem aB {a b:Bool}(c:a=true)(d:b=true):(a&&b)=true:=by rw[c,d];rfl
theorem VI:joinedFacts pr 7 Tryz.f7 sU.bare Rows.archiveCrashesUptoRow=true:=by
 unfold joinedFacts
 repeat' with_reducible first|refine aB ?_ ?_|exact Yv|exact Zi|exact Yq|exact ZT|exact ZK|exact ZW|exact Yu|exact YS|exact Zr|exact ZG|exact Xj|exact Xz
 all_goals kernel_rfl
theorem WA:Rows.ArchiveCrashesUptoSaid:=
 OpenClaim.holds_of_cond 7 Tryz.f7 rfl rfl rfl rfl rfl rfl rfl ⟨rfl,rfl,rfl,rfl,rfl⟩ rfl rfl rfl rfl rfl (by kernel_rfl) Tryz.func7 VI
  (of_decide_eq_true (by kernel_rfl)) (by unfold Func.isWrapper;first|(rw[if_pos (by decide +kernel)];kernel_rfl)|(rw[if_neg (by decide +kernel)];exact⟨rfl,rfl⟩))
  (λos a b c _ d=>by rw[OpenClaim.pre_eq_preRow];exact Tu os a b c d)
theorem Ui(f:FuncId)(fn:Func)(d:pr.funcNamed Rows.archiveCrashesUptoRow.func=some f)(e:pr.funcs[f]? =some fn):
  true=pr.looks []/\ ∀(b:Nat) t,fn.params[b]? =some t->pr.wantsStandIn t=false:=by
 obtain rfl:f=7:=Bm ((show Tryz.prog.funcNamed Rows.archiveCrashesUptoRow.func=some 7 by kernel_rfl).symm.trans d) |>.symm;obtain rfl:fn=Tryz.f7:=(Bm (Tryz.func7.symm.trans e)).symm;refine⟨by kernel_rfl,λb t c=>?_⟩;rw[Tryz.params7] at c;have a:=Vc c;simp only[List.mem_toArray,Hb,Lz,or_false] at a;rcases a with a|a<;>(subst a;show _=false;kernel_rfl)
theorem archiveCrashes_proved:Rows.ArchiveCrashesUptoCardSaid:=
 Claim7.holds_tied_plain_at .later [] _ _ _ _ WA (λ_ a=>by cases a) (by kernel_rfl) (λ_ a=>by cases a) archiveCrashesUpto_row_tie rfl ⟨rfl,rfl⟩ (by kernel_rfl) rfl Ui (by kernel_rfl)
#print axioms archiveCrashes_proved
end Go.Proofs.YtgpmoonnachoaaaGreatDoor
