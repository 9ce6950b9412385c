/-
 The law EngineRuns (chapter 19) over its formula.
-/
import Derived.Test.YtebeggcpmdegnaaGreatDoorLfGLEngineRuns
import Derived.Test.YtebeggcpmdegnaaGreatDoorLfD30ToO4
import Derived.Test.YtebeggcpmdegnaaGreatDoorLfD43
set_option maxRecDepth 100000
set_option linter.unusedVariables false
set_option linter.unusedSimpArgs false
set_option linter.defProp false
set_option linter.unnecessarySimpa false
open Go.IntKind renaming i64→D,wrap→J8
open Go.Value renaming string→J7,int→J6,pointer→J5,slice→J4,bool→J3,tuple→J1
open Go.Obj renaming cells→J2
open Go renaming Value→J0,Addr→Q6,TypeId→Q7,FuncId→Q8,Program→Q1
open Go.Addr renaming add→Q9,mk→Q5
open Option renaming some→Z,none→V
open Bool renaming true→Y,false→U
open List renaming length→J
namespace Go.Lf
open Go
theorem AH2{A:ai}{h:W}{R:A41}{calls:Sl}{cl:List dY}(w:cz h)(F:View my h calls cl)(ar:∀c∈cl,rG h c)(H:∀d,G h d->R Y d):AJ A P NE #[calls] h R:=by
 refine Sz ?_;dsimp only[jN,N,iX,nW,sA,cB,pg,lI,jJ,aO];have aR:=F.len;refine uv w L.refl λau I aS=>⟨_,rfl,AQ rfl (AB (λb=>H au I) λb=>?_)⟩;have aU:J cl<=80:=by have:=AE b;omega
 refine TW w I λS s y z av aw aV aW=>⟨_,_,_,rfl,AU λaX _ ax ay az=>AQ rfl ?_⟩;refine AX (λm aA X=>∃(i:Nat)(M:Hs)(Q:List Pr)(ae:bg)(af:bL)(ag ah:Nat->Prop)(f a:Sl)(aj:List bB)(ak:List da)(now:Int),aA=((i:Int),())/\m=J cl-i/\i<=J cl/\cq h X s (4+2*i) i (y,[]) M z Q ae af ag ah S.size f a aj ak now) ?_ ⟨0,y,z,_,_,_,_,_,_,_,_,_,rfl,rfl,Ax _,cq.new av aw ay az ax⟩;rintro aY m _ X⟨i,M,Q,ae,af,ag,ah,f,a,aj,ak,now,rfl,rfl,hi,K⟩aB;dsimp only;refine AB (λb=>?_) λb=>AT6 K λd aC=>⟨_,rfl,H d (K.w.w.ext.trans aC)⟩;have B:i<J cl:=by have:=A5 b;omega
 refine AR λaD aE=>?_;have next:∀{e:W}{g:Hs}{j:List Pr}{k:bg}{l:bL}{O' o:Nat->Prop}{q r:Sl}{t:List bB}{u:List da}{C:Int},cq h e s (4+2*i+2) (i+1) (y,[]) g z j k l O' o S.size q r t u C->aD () e:=λ{e g j k l O' o q r t u C}aF=>aE _ _ (by rw[Aa (by omega)];exact aB (J cl-(i+1)) _ _ (by omega) ⟨i+1,g,j,k,l,O',o,q,r,t,u,C,rfl,rfl,B,by rw[show 4+2*(i+1)=4+2*i+2 by omega];exact aF⟩);have al:=A3 B;have O:=CD B;generalize cl[i]=x at al O;refine(F.ext K.w.w.ext).idx al λaZ _ aG=>La x aG (AU λa0 _ aH aI a1=>Aq aH (A2 15) λaJ v aK a2=>AR λaL an=>?_);rw[pF]at v;have ao:=K.ext (aI.akF aK λc aM=>by subst aM;exact A2 _);have skip:aL (Y,()) aJ:=an _ _ (AV rfl (next ((ao.up (by omega) (by omega)).later (by omega) (by omega))));refine AC (n:=x.akQ) (AL v rfl) (AB (λ_=>skip) λap=>AC (n:=x.akQ) (AL v rfl) ?_);by_cases T:x.akQ>1073741824;{rw[Bs T];exact skip};rw[An T];have ap:=AE ap;obtain⟨p,cm,b,aP⟩:=ar x O;refine an _ _ (AQ rfl (La x (DY v rfl) (ux (c:=i) w ao b aP (by omega) (by omega) (by omega) λe g j k l q r t u O' o aQ _ _ _ _=>⟨_,rfl,AQ rfl (next aQ)⟩)))
end Go.Lf
