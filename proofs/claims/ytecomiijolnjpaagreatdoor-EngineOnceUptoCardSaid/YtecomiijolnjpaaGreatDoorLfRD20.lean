/-
 The card of the law EngineOnce is proved: for every input that its row takes, the function returns true, and leaves what it was given.
-/
import Derived.Test.YtecomiijolnjpaaGreatDoorLfO4
import Derived.Test.YtecomiijolnjpaaGreatDoorLfE7ToQ20
set_option maxRecDepth 100000
set_option linter.unusedVariables false
set_option linter.unusedSimpArgs false
open Go.IntKind renaming i64→J9,wrap→J8
open Go.Value renaming string→J7,int→J6,pointer→J5,slice→J4,bool→J3,tuple→J1
open Go.Obj renaming cells→J2
open Go renaming Value→J0,Addr→Q6,TypeId→Q7,FuncId→Q8,Program→Q1
open Go.Addr renaming add→Q9,mk→Q5
namespace Go.Proofs.YtecomiijolnjpaaGreatDoor
open Go Go.Lf Go.Lf.G Go.ChangeShapes Go.WideShapes Go.ChangeAt Go.RowKit
theorem own:ownKnob Tryz.prog.godebug=none:=by kernel_rfl
theorem VF(b:Type)(d:TypeId×Value->b)(a:World)(base:Nat)(args:Array Value)(ds f:List (DataW b))(m:List MemPlace)
  (e: ∀(g:Nat) t v,Tryz.f3.params[g]? =some t->args[g]? =some v->Value.okWide Tryz.prog a .any base t v)
  (i:DataW.Whole d Tryz.prog Tryz.f3.params.toList Rows.engineOnceSpec.vars false a args.toList ds f m) (n:Rows.uptoSmall b (ds++f)=true) (o:laidMetH Tryz.prog listed a):
  Calls Tryz.prog 3 args a λj k=> ∃v,j= .returned v/\Rows.engineOnceSpec.post d Tryz.prog Tryz.f3 false true false false a args v k:=by
 have q:=i;obtain⟨p,O,r,s,rfl,P,Q⟩:=i;have hA:DataW.TrodAll d Tryz.prog a 0 (λ_=>true) true Tryz.f3.params.toList args.toList ds p:=r;rw[Tryz.params3] at hA e;obtain⟨l,S,u,T,U,V,W,rfl,rfl,w,y⟩:=trodAll_cons hA;obtain⟨v1,X,Y,Z,aa,ab,rfl,rfl,rfl,z,B⟩:=trodAll_cons y;obtain⟨rfl,rfl,rfl⟩:=trodAll_nil B;obtain rfl:args= #[l,v1]:=by cases args;simp_all
 obtain⟨rfl,rfl⟩:=trodVars_none s;obtain⟨C,D,rfl,E,F⟩:=APN (e 0 _ l rfl rfl) w;obtain⟨G,rfl,H,_,I⟩:=open_int QZ (e 1 _ v1 rfl rfl) z;subst H;have ac:=wf_i64 I;have J:Rows.uptoBulkAll ([u,_]++ []:List (DataW b))<=1048576:=of_decide_eq_true n;simp only[AN,CI,F0,Rows.uptoBulkAll] at J;have K:=AD1 (A:=iM a) (h:=a.heap) (R:=λv h=>v= .bool true/\Ext a.heap h) (calls:=C) (cl:=D) (again:=G)
  (ASU o) E (λc L=>by obtain⟨p,M⟩:=F c L;exact⟨p,M.at (by omega)⟩) (λN x=>⟨rfl,x⟩) a.drawn
 refine Calls.mono K ?_;rintro j k ⟨v,rfl,N,ad,rfl,rfl,x⟩;exact⟨_,rfl,uv q rfl rfl rfl rfl laid (by kernel_rfl) rfl lA x⟩
theorem ZE(os:Os){a:Type}(b:TypeId×Value->a): ∃c,DataW.whole b Tryz.prog ((Yv os).forCall (λ_ _=>0) ⟨#[],#[.slice none 0 0,.int .i64 0],[]⟩).memory Tryz.f3.params.toList Rows.engineOnceSpec.vars false (#[.slice none 0 0,.int .i64 0]:Array Value).toList 8=some ([.nil,.lit (.int .i64 0)],[],c):=
 ⟨[],by kernel_rfl⟩
theorem YI(os:Os)(b:os.Started)(a:Type)(enc:TypeId×Value->a)(c:Stop.Interp):
  ReturnsInHanded {} Tryz.checked os 3 .any ((Rows.OpenSpec.upto Rows.engineOnceSpec).preRow enc Tryz.prog Tryz.f3 Rows.engineOnceUptoRow.domain false Rows.engineOnceUptoRow.laid) (((Rows.OpenSpec.upto Rows.engineOnceSpec).at c).post enc Tryz.prog Tryz.f3 false true false false):=by
 obtain⟨m,d⟩:=ZE os enc;refine returnsInHanded_of_row (C:=Tryz.checked) (s:=Rows.OpenSpec.upto Rows.engineOnceSpec) own b (by kernel_rfl) Tryz.func3
  (witness_row_at (enc:=enc) (C:=Tryz.checked) false (Yv os) #[.slice none 0 0,.int .i64 0] rfl (by kernel_rfl) (by kernel_rfl) (by kernel_rfl)
   (OpenSpec.preRow_of_cond 8 d (by kernel_rfl) (λn e=>by cases e;kernel_rfl) (by kernel_rfl) (AIj os _))) ?_
 intro f base args ds g h i j _ k _ l _ _;exact VF a enc f base args ds g h i j (k _ rfl) l
theorem AEI:laidOutB Tryz.pinned.checked.prog=true:=by kernel_rfl
theorem AEG:mapsRowed Tryz.pinned.checked.prog=true:=by kernel_rfl
theorem AET:(Rows.engineOnceUptoRow.inPlace==Tryz.pinned.checked.prog.inPlace 3)=true:=by kernel_rfl
theorem AD3:(Rows.engineOnceUptoRow.unfollowed==Tryz.pinned.checked.prog.unfollowed 3)=true:=by kernel_rfl
theorem AEF:(Rows.engineOnceUptoRow.recurses==Tryz.pinned.checked.prog.recurses 3)=true:=by kernel_rfl
theorem AEV:(Rows.engineOnceUptoRow.named==Tryz.pinned.checked.prog.varsNamed 3)=true:=by kernel_rfl
theorem AEf:(Rows.engineOnceUptoRow.loops==(Tryz.f3.params.toList++(Rows.OpenSpec.upto Rows.engineOnceSpec).bare.plain.varTypes Tryz.pinned.checked.prog).any (Tryz.pinned.checked.prog.loopsFrom ·))=true:=by kernel_rfl
theorem AEZ:(Rows.engineOnceUptoRow.plainKeys==Tryz.pinned.checked.prog.plainKeys)=true:=by kernel_rfl
theorem AEL:Tryz.pinned.checked.prog.stopsHeard=true:=by kernel_rfl
theorem ADv:Tryz.pinned.checked.prog.mayEnter=true:=by kernel_rfl
theorem ADk:(Rows.engineOnceUptoRow.lifted==Tryz.pinned.checked.prog.liftsFinal)=true:=by kernel_rfl
theorem ACO:(Tryz.pinned.checked.prog.make==some Rows.engineOnceUptoRow.make)=true:=by kernel_rfl
theorem aB {a b:Bool}(c:a=true)(d:b=true):(a&&b)=true:=by rw[c,d];rfl
theorem ZV:joinedFacts Tryz.pinned.checked.prog 3 Tryz.f3 (Rows.OpenSpec.upto Rows.engineOnceSpec).bare Rows.engineOnceUptoRow=true:=by
 unfold joinedFacts
 repeat' first|(with_reducible refine aB ?_ ?_)|(with_reducible exact AEI)|(with_reducible exact AEG)|(with_reducible exact AET)|(with_reducible exact AD3)|(with_reducible exact AEF)|(with_reducible exact AEV)|(with_reducible exact AEf)|(with_reducible exact AEZ)|(with_reducible exact AEL)|(with_reducible exact ADv)|(with_reducible exact ADk)|(with_reducible exact ACO)
 all_goals kernel_rfl
theorem ABL:Rows.EngineOnceUptoSaid:=
 OpenClaim.holds_of_cond 3 Tryz.f3 rfl rfl rfl rfl rfl rfl rfl ⟨rfl,rfl,rfl,rfl,rfl⟩ rfl rfl rfl rfl rfl (by kernel_rfl) Tryz.func3 ZV
  (of_decide_eq_true (by kernel_rfl)) (by unfold Func.isWrapper;first|(rw[if_pos (by decide +kernel)];kernel_rfl)|(rw[if_neg (by decide +kernel)];exact⟨rfl,rfl⟩))
  (λos a b c _ d=>by rw[OpenClaim.pre_eq_preRow];exact YI os a b c d)
theorem ZX(f:FuncId)(fn:Func)(d:Tryz.pinned.checked.prog.funcNamed Rows.engineOnceUptoRow.func=some f)(e:Tryz.pinned.checked.prog.funcs[f]? =some fn):
  true=Tryz.pinned.checked.prog.looks []/\ ∀(b:Nat) t,fn.params[b]? =some t->Tryz.pinned.checked.prog.wantsStandIn t=false:=by
 obtain rfl:f=3:=Bs ((show Tryz.prog.funcNamed Rows.engineOnceUptoRow.func=some 3 by kernel_rfl).symm.trans d) |>.symm;obtain rfl:fn=Tryz.f3:=(Bs (Tryz.func3.symm.trans e)).symm;refine⟨by kernel_rfl,λb t c=>?_⟩;rw[Tryz.params3] at c;have a:=Iv c;simp only[List.mem_toArray,HD,List.not_mem_nil,or_false] at a;rcases a with a|a<;>(subst a;show _=false;kernel_rfl)
theorem engineOnce_proved:Rows.EngineOnceUptoCardSaid:=
 Claim7.holds_tied_plain_at .later [] _ _ _ _ ABL (λ_ a=>by cases a) (by kernel_rfl) (λ_ a=>by cases a) engineOnceUpto_row_tie rfl ⟨rfl,rfl⟩ (by kernel_rfl) rfl ZX (by kernel_rfl)
#print axioms engineOnce_proved
end Go.Proofs.YtecomiijolnjpaaGreatDoor
