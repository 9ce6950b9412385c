/-
 Arguments of the engine's statements, opened: calls.
-/
import Derived.Test.YtecomiijolnjpaaGreatDoorLfZ16ToV5
import Derived.Test.YtecomiijolnjpaaGreatDoorLfE7ToQ20
set_option maxRecDepth 100000
set_option linter.unusedVariables false
set_option linter.unusedSimpArgs false
open Go.IntKind renaming i64→J9,wrap→J8
open Go.Value renaming string→J7,int→J6,pointer→J5,slice→J4,bool→J3,tuple→J1
open Go.Obj renaming cells→J2
open Go renaming Value→J0,Addr→Q6,TypeId→Q7,FuncId→Q8,Program→Q1
open Go.Addr renaming add→Q9,mk→Q5
namespace Go.Lf.G
open Go Go.ChangeShapes Go.WideShapes Go.ChangeAt Go.RowKit Go.Proofs.YtecomiijolnjpaaGreatDoor
theorem ASu:fieldsOf P BL=some [(BN,0),(Ar,1),(Ar,2),(BN,3),(BN,4),(BN,5)]:=by kernel_rfl
theorem AR4:fieldsOf P Cm=some [(Dv,0),(BN,1)]:=by kernel_rfl
theorem ATW:fieldsOf P Cj=some [(BN,0),(Ar,1),(Ar,2),(Ar,3),(Cm,4),(MF,6),(BN,7),(BN,8),(BN,9),(BN,10),(Tu,11)]:=by kernel_rfl
theorem ATk:fieldsOf P EC=some [(BN,0),(Cj,1),(Tu,13),(Tu,14)]:=by kernel_rfl
theorem uF:P.cellsOf BL=Lr.w:=by kernel_rfl
theorem ASP:P.cellsOf Cm=2:=by kernel_rfl
theorem uG:P.cellsOf Cj=12:=by kernel_rfl
theorem uH:P.cellsOf EC=lD.w:=by kernel_rfl
theorem uI:P.cellsOf Tu=1:=by kernel_rfl
theorem AQF:P.cellsOf Dv=1:=by kernel_rfl
theorem AQM:P.cellsOf MF=1:=by kernel_rfl
theorem uJ:P.underlying Dv=some (.slice BL):=by kernel_rfl
theorem ASZ:P.underlying MF=some (.slice AD4):=by kernel_rfl
theorem uK:P.underlying IU=some (.slice EC):=by kernel_rfl
structure iq (n:Nat) (h:aa) (x:bO) (p:cj):Prop where
 V:View Lr h x.steps p.steps
 lim:x.ar=p.ar
 len:p.steps.length<=n
 sz: ∀y∈p.steps,y.name.size<=n/\y.aE.size<=n
 name:x.name.size<=n
 wid:x.wid.size<=n
 aW:x.aW.size<=n
theorem iq.at {b:Nat}{c:aa}{x:bO}{p:cj}(H:iq b c x p)(a:b<=1099511627776):jP c x p:=
 ⟨H.V,H.lim,A5 H.len a,λd e=>⟨A5 (H.sz d e).1 a,A5 (H.sz d e).2 a⟩,A5 H.name a,A5 H.wid a,A5 H.aW a⟩
theorem iq.up {b m:Nat}{c:aa}{x:bO}{p:cj}(H:iq b c x p)(a:b<=m):iq m c x p:=
 ⟨H.V,H.lim,A5 H.len a,λd e=>⟨A5 (H.sz d e).1 a,A5 (H.sz d e).2 a⟩,A5 H.name a,A5 H.wid a,A5 H.aW a⟩
section
variable {H : Type} {enc : Q7 × J0 -> H} {w : World} {base : Nat} {spare : Nat -> Bool} {held : Bool}
theorem UT {x:DataW H}{s:A2P}(a:x= .lit (.string s.data.toList)):s.size<=Rows.uptoBulk x:=by
 have b:s.data.toList.length=s.size:=by rw[DQ];rfl
 subst a;simp only[Rows.uptoBulk];omega
theorem KV {x:DataW H×List MemPlace}{a:List (DataW H×List MemPlace)}(c:x=(.agg (a.map (·.1)),a.flatMap (·.2))){b:DataW H×List MemPlace}{i:Nat}(d:a[i]? =some b):Rows.uptoBulk b.1<=Rows.uptoBulk x.1:=by have:b.1∈a.map (·.1):=List.mem_map.2 ⟨b,AF d,rfl⟩;have e:=X6 this;subst c;simp only[Rows.uptoBulk];omega
theorem AOl {t:Nat}{b:List J0}{x:DataW H×List MemPlace}(u:DataW.trod enc P w base spare held t BL b=some x):
  ∃c:bP,b=Lr.enc c/\c.name.size<=Rows.uptoBulk x.1/\c.aE.size<=Rows.uptoBulk x.1:=by
 obtain⟨v,m,d,e,y,a⟩:=Pg ASu u;rw[uF] at e
 match b,e with
 | [M,N,O,Q,R,S],_=>
  match v,y with
  | [T,U,V,W,X,Y],_=>
   have f:=a 0 _ rfl;have g:=a 1 _ rfl;have h:=a 2 _ rfl;have j:=a 3 _ rfl;have k:=a 4 _ rfl;have l:=a 5 _ rfl;simp only[nq,nw] at f g h j k l;obtain⟨z,n,_,_⟩:=DataW.trod_int QZ f;obtain⟨A,o,B,_⟩:=DataW.trod_string Zg g;obtain⟨C,p,D,_⟩:=DataW.trod_string Zg h;obtain⟨E,q,_,_⟩:=DataW.trod_int QZ j;obtain⟨F,r,_,_⟩:=DataW.trod_int QZ k;obtain⟨G,s,_,_⟩:=DataW.trod_int QZ l;simp at n o p q r s;subst n o p q r s;have I:=KV d (i:=1) rfl;have J:=KV d (i:=2) rfl;have K:=UT (congrArg Prod.fst B);have L:=UT (congrArg Prod.fst D);exact⟨⟨z,A,C,E,F,G⟩,rfl,A5 K I,A5 L J⟩
theorem AMK {c:Nat}{p:Q2}{len cap:Nat}{x:DataW H×List MemPlace}(d:DataW.trod enc P w base spare held c Dv [.slice p len cap]=some x):
  ∃l:List bP,View Lr w.heap ⟨p,len,cap⟩ l/\l.length<=Rows.uptoBulk x.1/\ ∀a∈l,a.name.size<=Rows.uptoBulk x.1/\a.aE.size<=Rows.uptoBulk x.1:=by
 obtain⟨l,ds,V,e,f,i⟩:=uz (E:=Lr) (Q:=λa b=>a.name.size<=Rows.uptoBulk b/\a.aE.size<=Rows.uptoBulk b) uJ uF (λc j x g=>AOl g) d;refine⟨l,V,?_,λa h=>?_⟩
 ·have:=uu ds;omega
 ·obtain⟨b,hd,k,m⟩:=uA e f h;have n:=X6 hd;omega
theorem AQm {V:Nat}{e:List J0}{x:DataW H×List MemPlace}(W:DataW.trod enc P w base spare held V Cj e=some x):
  ∃(h:bO) (p:cj),e=h.l/\iq (Rows.uptoBulk x.1) w.heap h p:=by
 obtain⟨X,m,c,j,Y,a⟩:=Pg ATW W;rw[uG] at j
 match e,j with
 | [av,aw,ax,ay,Z,aa,ab,az,aA,aC,aD,aE],_=>
  match X,Y with
  | [aF,aG,aH,aI,aJ,aK,aL,aM,aN,aO,aP],_=>
   have k:=a 0 _ rfl;have n:=a 1 _ rfl;have o:=a 2 _ rfl;have q:=a 3 _ rfl;have r:=a 4 _ rfl;have s:=a 5 _ rfl;have t:=a 6 _ rfl;have u:=a 7 _ rfl;have y:=a 8 _ rfl;have A:=a 9 _ rfl;have B:=a 10 _ rfl;simp only[nq,nw,uI,AQM,ASP] at k n o q r s t u y A B;obtain⟨ac,C,_,_⟩:=DataW.trod_int QZ k;obtain⟨D,E,ad,_⟩:=DataW.trod_string Zg n;obtain⟨F,G,ae,_⟩:=DataW.trod_string Zg o;obtain⟨I,J,af,_⟩:=DataW.trod_string Zg q;obtain⟨ag,aQ,ah,_,ai,K⟩:=Pg AR4 r;obtain⟨d,aj⟩:=uE ASZ s;obtain⟨ak,L,_,_⟩:=DataW.trod_int QZ t;obtain⟨al,M,_,_⟩:=DataW.trod_int QZ u;obtain⟨am,N,_,_⟩:=DataW.trod_int QZ y;obtain⟨an,O,_,_⟩:=DataW.trod_int QZ A;obtain⟨ao,Q,_⟩:=DataW.trod_bool lA B
   match ag,ai with
   | [aR,aS],_=>
    have f:=K 0 _ rfl;have R:=K 1 _ rfl;simp only[AQF,nw] at f R;obtain⟨b,ap⟩:=uE uJ f;obtain⟨g,aq,_,_⟩:=DataW.trod_int QZ R;have S: [Z]= [.slice b.p b.len b.cap]:=ap;have T: [aa]= [.int J9 g]:=aq;have U: [ab]= [.slice d.p d.len d.cap]:=aj;simp at C E G J S T U L M N O Q;subst C E G J S T U L M N O Q;obtain⟨l,v,aT,ar⟩:=AMK (p:=b.p) (len:=b.len) (cap:=b.cap) f;have aU:=KV c (i:=1) rfl;have aV:=KV c (i:=2) rfl;have aW:=KV c (i:=3) rfl;have aX:=KV c (i:=4) rfl;have aY:=KV ah (i:=0) rfl;have aZ:=UT (congrArg Prod.fst ad);have a0:=UT (congrArg Prod.fst ae);have a1:=UT (congrArg Prod.fst af);exact⟨⟨ac,D,F,I,b,g,d,ak,al,am,an,ao⟩,⟨l,g⟩,rfl,v,rfl,by show l.length<=_;omega,λz au=>by have:=ar z au;omega,by show I.size<=_;omega,by show F.size<=_;omega,by show D.size<=_;omega⟩
theorem ARG {D:Nat}{c:List J0}{x:DataW H×List MemPlace}(E:DataW.trod enc P w base spare held D EC c=some x):
  ∃a:dD,c=lD.enc a/\ ∃p,iq (Rows.uptoBulk x.1) w.heap a.q p:=by
 obtain⟨F,m,G,e,I,b⟩:=Pg ATk E;rw[uH] at e
 match c,e with
 | [N,f,g,h,j,k,l,n,o,q,r,s,t,O,Q],_=>
  match F,I with
  | [R,S,T,U],_=>
   have u:=b 0 _ rfl;have v:=b 1 _ rfl;have y:=b 2 _ rfl;have z:=b 3 _ rfl;simp only[nw,uG,uI] at u v y z;obtain⟨J,A,_,_⟩:=DataW.trod_int QZ u;obtain⟨a,p,d,K⟩:=AQm v;obtain⟨L,B,_⟩:=DataW.trod_bool lA y;obtain⟨M,C,_⟩:=DataW.trod_bool lA z;have d: [f,g,h,j,k,l,n,o,q,r,s,t]=a.l:=d;simp at A B C;obtain⟨rfl,rfl,rfl,rfl,rfl,rfl,rfl,rfl,rfl,rfl,rfl,rfl⟩:f= .int J9 a.kind/\g= .string a.aW/\h= .string a.wid/\j= .string a.name/\k= .slice a.steps.p a.steps.len a.steps.cap/\l= .int J9 a.ar/\n= .slice a.bV.p a.bV.len a.bV.cap/\o= .int J9 a.ref/\q= .int J9 a.turn/\r= .int J9 a.aU/\s= .int J9 a.ao/\t= .bool a.aO:=by simpa using d
   subst A B C;exact⟨⟨J,a,L,M⟩,rfl,p,K.up (KV G (i:=1) rfl)⟩
end
theorem APN {H:Type}{enc:Q7×J0->H}{a:World}{base:Nat}{v:J0}{b:DataW H}{ps:List MemPlace}(d:Value.okWide P a .any base IU v)(e:DataW.Trod enc P a 0 (λ_=>true) true IU v b ps):
  ∃(s:Sl) (l:List dD),v= .slice s.p s.len s.cap/\View lD a.heap s l/\ ∀x∈l,∃p,iq (Rows.uptoBulk b) a.heap x.q p:=by
 obtain⟨p,len,f,rfl⟩:=okWide_slice uK d;obtain⟨g,h⟩:=e;obtain⟨l,ds,V,i,j,k⟩:=uz (E:=lD) (Q:=λm b=> ∃p,iq (Rows.uptoBulk b) a.heap m.q p) uK uH (λg q x c=>ARG c) h;refine⟨⟨p,len,f⟩,l,rfl,V,λx c=>?_⟩;obtain⟨n,hd,o,Q⟩:=uA i j c;have r:Rows.uptoBulk n<=Rows.uptoBulkAll ds:=X6 hd;exact⟨o,Q.up (by dsimp only at k;omega)⟩
end Go.Lf.G
