/-
 Contracts: a state and itself are the same (chapter 14, the document's side).
-/
import Derived.Test.YtebeggcpmdegnaaGreatDoorLfE17ToD29
set_option maxRecDepth 100000
set_option linter.unusedVariables false
set_option linter.unusedSimpArgs false
set_option linter.defProp false
set_option linter.unnecessarySimpa false
open Go.IntKind renaming i64→D,wrap→J8
open Go.Value renaming string→J7,int→J6,pointer→J5,slice→J4,bool→J3,tuple→J1
open Go.Obj renaming cells→J2
open Go renaming Value→J0,Addr→Q6,TypeId→Q7,FuncId→Q8,Program→Q1
open Go.Addr renaming add→Q9,mk→Q5
open Option renaming some→Z,none→V
open Bool renaming true→Y,false→U
open List renaming length→J
namespace Go.Lf
open Go
def AaN:P.underlying EL=Z (.struct (P.fieldsOf EL)):=by kernel_rfl
def AYF(x:Jb):jk P EL [.i x.id,.i x.akI,.b x.az,.i x.akG]=true:=by kernel_rfl
def AaJ:P.underlying EB=Z (.struct (P.fieldsOf EB)):=by kernel_rfl
def AYT(x:Ck):jk P EB [.i x.id,.i x.akI,.i x.akO]=true:=by kernel_rfl
variable{d:ai}{a:W}{j ak bi cd:Sl}{e:A41}
theorem AOv{p:aX}(f:View Gz a j p.akC)(g:View Gz a ak p.akC)(al:J p.akC<=1099511627776)(u:∀q,G a q->e Y q):AJ d P Np #[.agg #[j,p.aw],.agg #[ak,p.aw]] a e:=by
 refine ZQ ?_;dsimp only[jN,N,iX,nW,lI,lL,lS,rB,aO];refine AU λO _ c v _=>AU λw _ k r _=>AR λK y=>?_;have l:=v.trans r;have c:=r.ae c λa=>a;have f:=f.ext l;have g:=g.ext l;have z:=f.len;have B:=g.len;refine AC (n:=p.aw) (AA c rfl) (AC (n:=p.aw) (AA k rfl) (AQ (by simp) (AP (s:=j) (AL c rfl) (AP (s:=ak) (AL k rfl) ?_))));have C:((j.len:Int)!=(ak.len:Int))=false:=by rw[z,B];simp
 rw[C];refine y _ _ (AQ rfl ?_);refine AX (λm F H=>∃i:Nat,F=((i:Int),())/\H=w/\m=J p.akC-i/\i<=J p.akC) ?_ ⟨0,rfl,rfl,rfl,by omega⟩;rintro an m _ _⟨i,rfl,rfl,rfl,hi⟩I;refine AP (s:=j) (AL c rfl) (AB (λt=>?_) λt=>u _ l);have o:i<J p.akC:=by have:=A5 t;omega
 refine AP (s:=j) (AL c rfl) (f.idx (A3 o) λao _ S=>?_);obtain⟨X,W,M,Q,ae,af⟩:=nP S;refine AC X (AO W (AO M (AC Q (AC ae (AC af ?_)))));refine AP (s:=ak) (AL k rfl) (g.idx (A3 o) λap _ ag=>?_);obtain⟨ah,q1,q2,q3,ai,aj⟩:=nP ag;refine AC ah (AO q1 (AO q2 (AC q3 (AC ai (AC aj ?_)))));generalize p.akC[i]=x;refine Yq (xs:=[.i x.akB,.s x.name,.s x.az,.i x.akP,.i x.aC,.i x.akQ]) (ys:=[.i x.akB,.s x.name,.s x.az,.i x.akP,.i x.aC,.i x.akQ]) xP (xQ x) rfl rfl rfl ⟨_,rfl,AQ (by simp) ?_⟩;rw[Aa (by omega)];exact I (J p.akC-(i+1)) _ _ (by omega) ⟨i+1,rfl,rfl,rfl,o⟩
theorem ARl{t o:Sl}{s:aJ}(p:Jh a s j ak bi)(S':Jh a s cd t o)(S:J s.prog.akC<=1099511627776)(an:J s.au<=1099511627776)(ao:J s.af<=1099511627776)(X:∀H,G a H->e Y H):AJ d P Nf #[(s.V j ak bi).v,(s.V cd t o).v] a e:=by
 refine Ze ?_;dsimp only[jN,N,iX,nW,cB,lB,lI,lL,rj,jK,rB,aO];refine AU λap _ q W _=>AU λT _ u I _=>AR λK M=>?_;have v:=W.trans I;have q:=I.ae q λa=>a;refine AP (s:=j) (AL q rfl) (AC (n:=s.prog.aw) (AA q rfl) (AP (s:=cd) (AL u rfl) (AC (n:=s.prog.aw) (AA u rfl) ?_)));refine AOv (p.akC.ext v) (S'.akC.ext v) S λw y=>⟨_,rfl,AQ rfl ?_⟩;have k:=v.trans y;have f:=y.ae q λa=>a;have g:=y.ae u λa=>a;have Q:=(p.au.ext k).len;have ae:=(S'.au.ext k).len;have af:=(p.af.ext k).len;have ag:=(S'.af.ext k).len;refine AP (s:=ak) (AA f rfl) (AP (s:=t) (AA g rfl) (AQ (by rw[Q,ae];simp) (AP (s:=bi) (AA f rfl) (AP (s:=o) (AA g rfl) ?_))));have ah:((bi.len:Int)!=(o.len:Int))=false:=by rw[af,ag];simp
 rw[ah];refine M _ _ (AQ rfl ?_);refine AX (λm z B=>∃i:Nat,z=((i:Int),())/\B=w/\m=J s.au-i/\i<=J s.au) ?_ ⟨0,rfl,rfl,rfl,by omega⟩;rintro ar m _ w⟨i,rfl,rfl,rfl,hi⟩ai;refine AP (s:=ak) (AA f rfl) (AB (λr=>?_) λr=>?_);{have l:i<J s.au:=by{have:=A5 r;omega};refine AP (s:=ak) (AA f rfl) ((p.au.ext k).idx (A3 l) λaj _ C=>Pk s.au[i] C ?_);refine AP (s:=t) (AA g rfl) ((S'.au.ext k).idx (A3 l) λal _ F=>Pk s.au[i] F ?_);generalize s.au[i]=x;refine Yq (xs:=[.i x.id,.i x.akI,.b x.az,.i x.akG]) (ys:=[.i x.id,.i x.akI,.b x.az,.i x.akG]) AaN (AYF x) rfl rfl rfl ⟨_,rfl,AQ (by simp) ?_⟩;rw[Aa (by omega)];exact ai (J s.au-(i+1)) _ _ (by omega) ⟨i+1,rfl,rfl,rfl,l⟩};refine AX (λm z B=>∃i:Nat,z=((i:Int),())/\B=w/\m=J s.af-i/\i<=J s.af) ?_ ⟨0,rfl,rfl,rfl,by omega⟩;rintro au m _ _⟨i,rfl,rfl,rfl,hi⟩O;refine AP (s:=bi) (AA f rfl) (AB (λr=>?_) λr=>?_);{have l:i<J s.af:=by{have:=A5 r;omega};refine AP (s:=bi) (AA f rfl) ((p.af.ext k).idx (A3 l) λaj _ C=>xA s.af[i] C ?_);refine AP (s:=o) (AA g rfl) ((S'.af.ext k).idx (A3 l) λal _ F=>xA s.af[i] F ?_);generalize s.af[i]=x;refine Yq (xs:=[.i x.id,.i x.akI,.i x.akO]) (ys:=[.i x.id,.i x.akI,.i x.akO]) AaJ (AYT x) rfl rfl rfl ⟨_,rfl,AQ (by simp) ?_⟩;rw[Aa (by omega)];exact O (J s.af-(i+1)) _ _ (by omega) ⟨i+1,rfl,rfl,rfl,l⟩};refine AC (n:=s.akE) (AA f rfl) (AC (n:=s.akE) (AA g rfl) (AV (by simp) ?_));refine AC (n:=s.next) (AA f rfl) (AC (n:=s.next) (AA g rfl) (AV (by simp) ?_));refine AC (n:=s.aZ) (AA f rfl) (AC (n:=s.aZ) (AA g rfl) (AV (by simp) ?_));refine AC (n:=s.akN) (AA f rfl) (AC (n:=s.akN) (AA g rfl) (AV (by simp) ?_));refine AC (n:=s.akM) (AA f rfl) (AC (n:=s.akM) (AA g rfl) (AV (by simp) ?_));refine AZ (n:=s.akH) (AA f rfl) (AZ (n:=s.akH) (AA g rfl) (AV (by simp) ?_));refine AZ (n:=s.akL) (AA f rfl) (AZ (n:=s.akL) (AA g rfl) (AV (by simp) ?_));refine AZ (n:=s.aD) (AA f rfl) (AZ (n:=s.aD) (AA g rfl) ?_);have:=X _ k;rw[beq_self_eq_true];exact this
end Go.Lf
