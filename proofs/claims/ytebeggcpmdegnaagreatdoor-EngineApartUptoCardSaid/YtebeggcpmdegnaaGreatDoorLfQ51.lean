/-
 The law EngineApart (chapter 19) over its formula.
-/
import Derived.Test.YtebeggcpmdegnaaGreatDoorLfGLEngineApart
import Derived.Test.YtebeggcpmdegnaaGreatDoorLfD29ToO4
set_option maxRecDepth 100000
set_option linter.unusedVariables false
set_option linter.unusedSimpArgs false
set_option linter.defProp false
open Go.IntKind renaming i64→D,wrap→J8
open Go.Value renaming string→J7,int→J6,pointer→J5,slice→J4,bool→J3,tuple→J1
open Go.Obj renaming cells→J2
open Go renaming Value→J0,Addr→Q6,TypeId→Q7,FuncId→Q8,Program→Q1
open Go.Addr renaming add→Q9,mk→Q5
open Option renaming some→Z,none→V
open Bool renaming true→Y,false→U
open List renaming length→J
namespace Go.Lf
open Go
def ra(b:ba)(a:E):Int:=if Aq a=U then 1 else match b a with|none=>180|some _=>0
variable{d:ai}{a k:Q}{f n w aw b:Nat}{aq bv:Hs}{m bk:List Pr}{ar:ba}{a0:bO}{o bh:Nat->Prop}{j N:Sl}{a3:List bE}{bt:List da}{ap i:Int}{e:A3U}{h:E}{r:Value}
theorem AKw{y:Hs}(t:cz a k f n w aq y m bk ar a0 o bh aw j N a3 bt ap)(u:∀p(x:cJ),L k p->W bG p x.aH ((ar h).getD [])->(∀b,x.aH.ae=Z b->k.size<=b)->e (J1 #[x.v,D (ra ar h)]) p):AJ d P Ed #[BO y.p,r,h] k e:=by cases q:ar h with|none=>refine tW (i:=0) (y:=y) t.w rfl (.inr q) λp x=>?_;have:=u p Cu x (by rw[q];exact W.nil) λb z=>by{cases z};unfold ra at this;rw[q]at this;exact this|some l=>have v:=(t.iv h l q).2;refine qw (i:=0) (y:=y) t.w.w rfl t.w.m v q λp B C F H x V S K I=>?_;have:=u p (⟨h,(Ar h 4:Int),⟨(Aa l).status,(Aa l).next,U⟩,B,(Aa l).V C F H⟩:cJ) x (by rw[q];exact V) I;unfold ra at this;rw[q,A0 (by simp[v])]at this;exact this
theorem cz.short(e:cz a k b f n aq bv m bk ar a0 o bh w j N a3 bt i)(d:E):J ((ar d).getD [])<=1000:=by cases p:ar d with|none=>simp|some l=>have:=(e.bR _ _ p).len;simp only[Hh];omega
theorem AEb{A:ai}{h:Q}{R:A3U}{wid:E}{calls:Sl}{cl:List eg}(C:cC h)(al:W mF h calls cl)(aR:∀c∈cl,AZA h c)(O:∀an,L h an->R Y an):AJ A P MK #[calls,wid] h R:=by
 refine RN ?_;dsimp only[jN,T,iX,nW,sA,cB,mP,HY,lI,lS,lL,mQ,aA];have bo:=al.len;refine yW C G.refl λaS ao bp=>⟨_,rfl,AQ rfl (AA (λd=>O aS ao) λd=>?_)⟩;have bq:J cl<=60:=by have:=AG d;omega
 refine XO C ao λF s H I aU aV br bs=>⟨_,_,_,rfl,AU λbt _ aW aX aY=>AQ rfl ?_⟩;refine AY (λm aZ e=>∃(i:Nat)(ap:Hs)(aq:List Pr)(ar:ba)(au:bO)(S av:Nat->Prop)(f a:Sl)(aw:List bE)(ax:List da)(now:Int),aZ=((i:Int),())/\m=J cl-i/\i<=J cl/\cz h e s (4+2*i) i H ap I aq ar au S av F.size f a aw ax now) ?_ ⟨0,H,I,_,_,_,_,_,_,_,_,_,rfl,rfl,AF _,cz.new aU aV aX aY aW⟩;rintro bu m _ e⟨i,ap,aq,ar,au,S,av,f,a,aw,ax,now,rfl,rfl,hi,K⟩a0;dsimp only;refine AA (λd=>?_) λd=>O e K.w.w.ext;have X:i<J cl:=by have:=A5 d;omega
 refine AR λJ1 a1=>?_;have next:∀{g:Q}{k:Hs}{l:List Pr}{o:ba}{q:bO}{O' r:Nat->Prop}{t u:Sl}{v:List bE}{w:List da}{N:Int},cz h g s (4+2*i+2) (i+1) H k I l o q O' r F.size t u v w N->J1 () g:=λ{g k l o q O' r t u v w N}a2=>a1 _ _ (by rw[Ab (by omega)];exact a0 (J cl-(i+1)) _ _ (by omega) ⟨i+1,k,l,o,q,O',r,t,u,v,w,N,rfl,rfl,X,by rw[show 4+2*(i+1)=4+2*i+2 by omega];exact a2⟩);have M:=A3 X;have az:=CD X;generalize cl[i]=x at M az;refine(al.ext K.w.w.ext).idx M λbv _ a3=>Uv x a3 (AU λbw _ a4 a5 bx=>Ap a4 (A2 15) λaB y a6 bz=>AR λJ2 aC=>?_);rw[zj]at y;have ac:L e aB:=a5.more a6 λc j=>by subst j;exact A2 _
 have aD:=K.ext ac;have skip:J2 (Y,()) aB:=aC _ _ (AV rfl (next ((aD.up (by omega) (by omega)).later (by omega) (by omega))));refine AC (n:=x.wait) (AL y rfl) (AA (λ_=>skip) λaE=>AC (n:=x.wait) (AL y rfl) ?_);by_cases aF:x.wait>1073741824;{rw[B9 aF];exact skip};rw[An aF];have aE:=AG aE;obtain⟨p,cm,d,a7⟩:=aR x az;refine aC _ _ (AQ rfl ?_);have np:=K.nr.1;rw[<-np];refine AKw aD λg aG aH aI a8=>DF aG ⟨_,rfl,AU λbA _ a9 bb bB=>Ap a9 (A2 18) λae af bc bC=>?_⟩;rw[NL]at af;have ag:L g ae:=bb.more bc λc j=>by subst j;exact A2 _
 have aJ:=aH.trans ag;have ah:=aJ.ae y λh=>h;have bD:=ac.size;have bF:=aH.size;refine Uv x (Dk ah rfl) (zi (c:=i) C (K.grow (ac.trans aJ)) d a7 (by omega) (by omega) (by omega) λbG k l o q t u v w O' r aj up lo ak bd=>⟨_,rfl,AQ rfl ?_⟩);have bH:=K.lt K.bo;have own:∀b,e.size<=b->b<ae.size->¬(¬QU S e ae b\/b=F.size):=λb q1 q2 z=>z.elim (λz=>z (.inr ⟨q1,q2⟩)) λz=>by omega
 rw[np.trans aj.nr.1.symm];refine AKw aj λbe aK bf bg bI=>DF aK ⟨_,rfl,AU λbJ _ bh bi bK=>Ap bh (A2 18) λaL aM bj bL=>AR λJ3 bk=>?_⟩;rw[NL]at aM;have aO:L be aL:=bi.more bj λc j=>by subst j;exact A2 _
 have B:=bf.trans aO;have done:J3 (U,()) aL:=bk _ _ (AQ rfl (next (aj.ext B)));refine AO (n:=x.q.wid) (AL (B.ae (ak.ae ah (own _ (A2 _) (Ao ah))) λh=>h) rfl) (AA (λbm=>?_) λ_=>done);have ne:x.q.wid≠wid:=by simpa[CF]using bm
 have aP:=bd.1 wid (Ne.symm ne);refine AQ (by unfold ra;rw[aP];simp) (AP (s:=aG.aH) (AL (B.ae (ak.ae af (own g.size (by omega) (Ao af))) λh=>h) rfl) (AP (s:=aK.aH) (AL aM rfl) (AEY (((aI.ext ag).cq ak λbn b aQ=>own b (by have:=a8 b aQ;omega) (W.lt (aI.ext ag) bn aQ)).ext B) (bg.ext aO) (by have:=K.short wid;omega) ⟨_,rfl,?_⟩)));rw[aP,B9 rfl];exact done
end Go.Lf
