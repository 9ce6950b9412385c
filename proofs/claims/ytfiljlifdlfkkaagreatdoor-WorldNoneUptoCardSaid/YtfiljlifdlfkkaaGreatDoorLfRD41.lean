/-
 The card of the law WorldNone is proved: for every input that its row takes, the function returns true, and leaves what it was given.
-/
import Derived.Test.YtfiljlifdlfkkaaGreatDoorLfP5ToO4
set_option maxRecDepth 100000
set_option linter.unusedVariables false
set_option linter.unusedSimpArgs false
open Go.IntKind renaming i64→J9,wrap→J8
open Go.Value renaming string→J7,int→J6,pointer→J5,slice→J4,bool→J3,tuple→J1
open Go.Obj renaming cells→J2
open Go renaming Value→J0,Addr→Q6,TypeId→Q7,FuncId→Q8,Program→Q1
open Go.Addr renaming add→Q9,mk→Q5
namespace Go.Proofs.YtfiljlifdlfkkaaGreatDoor
open Go Go.Lf Go.Lf.G Go.ChangeShapes Go.WideShapes Go.ChangeAt Go.RowKit
theorem own:ownKnob Tryz.prog.godebug=none:=by kernel_rfl
theorem Yb(c:Type)(d:TypeId×Value->c)(a:World)(base:Nat)(args:Array Value)(ds e:List (DataW c))(m:List MemPlace)
  (b: ∀(f:Nat) t v,Tryz.f4.params[f]? =some t->args[f]? =some v->Value.okWide Tryz.prog a .any base t v)
  (g:DataW.Whole d Tryz.prog Tryz.f4.params.toList Rows.worldNoneSpec.vars false a args.toList ds e m) (L:Rows.uptoSmall c (ds++e)=true) (n:laidMetH Tryz.prog listed a):
  Calls Tryz.prog 4 args a λj k=> ∃v,j= .returned v/\Rows.worldNoneSpec.post d Tryz.prog Tryz.f4 false true false false a args v k:=by
 have o:=g;obtain⟨p,q,r,s,rfl,M,N⟩:=g;have hA:DataW.TrodAll d Tryz.prog a 0 (λ_=>true) true Tryz.f4.params.toList args.toList ds p:=r;rw[Tryz.params4] at hA b;obtain⟨l,O,P,Q,S,T,U,rfl,rfl,u,w⟩:=trodAll_cons hA;obtain⟨v1,V,W,X,Y,Z,rfl,rfl,rfl,y,z⟩:=trodAll_cons w;obtain⟨v2,aa,ab,ac,ae,af,rfl,rfl,rfl,B,C⟩:=trodAll_cons z;obtain⟨rfl,rfl,rfl⟩:=trodAll_nil C;obtain rfl:args= #[l,v1,v2]:=by cases args;simp_all
 obtain⟨rfl,rfl⟩:=trodVars_none s;obtain⟨D,rfl,E,_,F⟩:=open_int iY (b 0 _ l rfl rfl) u;subst E;have G:=wf_i64 F;obtain⟨H,ag,rfl,ah,g1⟩:=AWc (b 1 _ v1 rfl rfl) y;obtain⟨I,ai,rfl,aj,ak⟩:=AR0 (b 2 _ v2 rfl rfl) B;have J:=AJe (A:=lJ a) (h:=a.heap) (R:=λv h=>v= .bool true/\Ext a.heap h) (i:=D) (q:=H) (aF:=I)
  (AVy n) G (λK x=>⟨rfl,x⟩) a.drawn
 refine Calls.mono J ?_;rintro j k ⟨v,rfl,K,al,rfl,rfl,x⟩;exact⟨_,rfl,ARq o rfl rfl rfl rfl laid (by kernel_rfl) rfl ya x⟩
theorem ADF(os:Os){a:Type}(b:TypeId×Value->a): ∃c,DataW.whole b Tryz.prog ((rr os).forCall (λ_ _=>0) ⟨#[],#[.int .i64 0,.agg #[.int .i64 0,.string ⟨#[]⟩,.string ⟨#[]⟩,.string ⟨#[]⟩,.slice none 0 0,.int .i64 0,.slice none 0 0,.int .i64 0,.int .i64 0,.int .i64 0,.int .i64 0,.bool false],.slice none 0 0],[]⟩).memory Tryz.f4.params.toList Rows.worldNoneSpec.vars false (#[.int .i64 0,.agg #[.int .i64 0,.string ⟨#[]⟩,.string ⟨#[]⟩,.string ⟨#[]⟩,.slice none 0 0,.int .i64 0,.slice none 0 0,.int .i64 0,.int .i64 0,.int .i64 0,.int .i64 0,.bool false],.slice none 0 0]:Array Value).toList 8=some ([.lit (.int .i64 0),.agg [.lit (.int .i64 0),.lit (.string []),.lit (.string []),.lit (.string []),.agg [.nil,.lit (.int .i64 0)],.nil,.lit (.int .i64 0),.lit (.int .i64 0),.lit (.int .i64 0),.lit (.int .i64 0),.lit (.bool false)],.nil],[],c):=
 ⟨[],by kernel_rfl⟩
noncomputable abbrev sU:=Rows.OpenSpec.upto Rows.worldNoneSpec
theorem AA7(os:Os)(b:os.Started)(a:Type)(enc:TypeId×Value->a)(c:Stop.Interp):
  ReturnsInHanded {} Tryz.checked os 4 .any (sU.preRow enc Tryz.prog Tryz.f4 Rows.worldNoneUptoRow.domain false Rows.worldNoneUptoRow.laid) ((sU.at c).post enc Tryz.prog Tryz.f4 false true false false):=by
 obtain⟨m,d⟩:=ADF os enc;refine returnsInHanded_of_row (C:=Tryz.checked) (s:=sU) own b (by kernel_rfl) Tryz.func4
  (witness_row_at (enc:=enc) (C:=Tryz.checked) false (rr os) #[.int .i64 0,.agg #[.int .i64 0,.string ⟨#[]⟩,.string ⟨#[]⟩,.string ⟨#[]⟩,.slice none 0 0,.int .i64 0,.slice none 0 0,.int .i64 0,.int .i64 0,.int .i64 0,.int .i64 0,.bool false],.slice none 0 0] rfl (by kernel_rfl) (by kernel_rfl) (by kernel_rfl)
   (OpenSpec.preRow_of_cond 8 d (by kernel_rfl) (λn e=>by cases e;kernel_rfl) (by kernel_rfl) (ALK os _))) ?_
 intro f base args ds g h i j _ k _ l _ _;exact Yb a enc f base args ds g h i j (k _ rfl) l
noncomputable abbrev pr:=Tryz.pinned.checked.prog
theorem AJH:laidOutB pr=true:=by kernel_rfl
theorem AJW:mapsRowed pr=true:=by kernel_rfl
theorem AI5:(Rows.worldNoneUptoRow.inPlace==pr.inPlace 4)=true:=by kernel_rfl
theorem AI4:(Rows.worldNoneUptoRow.unfollowed==pr.unfollowed 4)=true:=by kernel_rfl
theorem AJT:(Rows.worldNoneUptoRow.recurses==pr.recurses 4)=true:=by kernel_rfl
theorem AIa:(Rows.worldNoneUptoRow.named==pr.varsNamed 4)=true:=by kernel_rfl
theorem AJZ:(Rows.worldNoneUptoRow.loops==(Tryz.f4.params.toList++sU.bare.plain.varTypes pr).any (pr.loopsFrom ·))=true:=by kernel_rfl
theorem AIe:(Rows.worldNoneUptoRow.plainKeys==pr.plainKeys)=true:=by kernel_rfl
theorem AIf:pr.stopsHeard=true:=by kernel_rfl
theorem AIg:pr.mayEnter=true:=by kernel_rfl
theorem AGM:(Rows.worldNoneUptoRow.lifted==pr.liftsFinal)=true:=by kernel_rfl
theorem AGU:(pr.make==some Rows.worldNoneUptoRow.make)=true:=by kernel_rfl
theorem aB {a b:Bool}(c:a=true)(d:b=true):(a&&b)=true:=by rw[c,d];rfl
theorem AC6:joinedFacts pr 4 Tryz.f4 sU.bare Rows.worldNoneUptoRow=true:=by
 unfold joinedFacts
 repeat' with_reducible first|refine aB ?_ ?_|exact AJH|exact AJW|exact AI5|exact AI4|exact AJT|exact AIa|exact AJZ|exact AIe|exact AIf|exact AIg|exact AGM|exact AGU
 all_goals kernel_rfl
theorem AE6:Rows.WorldNoneUptoSaid:=
 OpenClaim.holds_of_cond 4 Tryz.f4 rfl rfl rfl rfl rfl rfl rfl ⟨rfl,rfl,rfl,rfl,rfl⟩ rfl rfl rfl rfl rfl (by kernel_rfl) Tryz.func4 AC6
  (of_decide_eq_true (by kernel_rfl)) (by unfold Func.isWrapper;first|(rw[if_pos (by decide +kernel)];kernel_rfl)|(rw[if_neg (by decide +kernel)];exact⟨rfl,rfl⟩))
  (λos a b c _ d=>by rw[OpenClaim.pre_eq_preRow];exact AA7 os a b c d)
theorem AC9(f:FuncId)(fn:Func)(d:pr.funcNamed Rows.worldNoneUptoRow.func=some f)(e:pr.funcs[f]? =some fn):
  true=pr.looks []/\ ∀(b:Nat) t,fn.params[b]? =some t->pr.wantsStandIn t=false:=by
 obtain rfl:f=4:=Bk ((show Tryz.prog.funcNamed Rows.worldNoneUptoRow.func=some 4 by kernel_rfl).symm.trans d) |>.symm;obtain rfl:fn=Tryz.f4:=(Bk (Tryz.func4.symm.trans e)).symm;refine⟨by kernel_rfl,λb t c=>?_⟩;rw[Tryz.params4] at c;have a:=Wg c;simp only[List.mem_toArray,G3,IN,or_false] at a;rcases a with a|a|a<;>(subst a;show _=false;kernel_rfl)
theorem worldNone_proved:Rows.WorldNoneUptoCardSaid:=
 Claim7.holds_tied_plain_at .later [] _ _ _ _ AE6 (λ_ a=>by cases a) (by kernel_rfl) (λ_ a=>by cases a) worldNoneUpto_row_tie rfl ⟨rfl,rfl⟩ (by kernel_rfl) rfl AC9 (by kernel_rfl)
#print axioms worldNone_proved
end Go.Proofs.YtfiljlifdlfkkaaGreatDoor
