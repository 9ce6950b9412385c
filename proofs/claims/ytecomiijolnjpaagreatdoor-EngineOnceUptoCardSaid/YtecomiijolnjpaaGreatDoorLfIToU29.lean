/-
 LIFT, part I: a function's formula gives its contract.
-/
import Derived.Test.YtecomiijolnjpaaGreatDoorLfAToH
import Derived.RangeFuncRecord
import Derived.Test.YtecomiijolnjpaaGreatDoorProg
import Derived.Laws.FloatArith
import Derived.MapKept
import Derived.Maps.Own
import Derived.Lib.Bytealg
import Derived.Sort.KeysCollected
import Derived.StringKeys
import Derived.Laws.BytesString
import Derived.Laws.BytesArg
import Derived.Laws.StructEq
import Derived.ChangeKeysEq
set_option maxRecDepth 100000
set_option linter.unusedVariables false
set_option linter.unusedSimpArgs false
open Go.IntKind renaming i64→J9,wrap→J8
open Go.Value renaming string→J7,int→J6,pointer→J5,slice→J4,bool→J3,tuple→J1
open Go.Obj renaming cells→J2
open Go renaming Value→J0,Addr→Q6,TypeId→Q7,FuncId→Q8,Program→Q1
open Go.Addr renaming add→Q9,mk→Q5
namespace Go.Lf
section
variable {F : Fence} {n : Nat} {P : Q1} {c : Code} {Q : Exit -> Act -> World -> Prop} {a : Act} {w : World}
def ly(F:Fence)(n:Nat)(P:Q1)(c:Code)(Q:Exit->Act->World->Prop)(a:Act)(w:World):Prop:=
 ∀(b:Frame) (e:List Item) (d:List Frame),b.roundOf=F.round->F.fn b.fn->F.room (d.length+1+n)->
  ∃f g h,Q f g h/\ArrivesIn (Machine.fenced P F) P (lone (b.atR a (.inLoop c::e)) d w) b e d f g h
theorem u7(r:c.wpIn F n P (Exit.then (ly F n P c Q) Q) a w)(b:Frame)(i:List Item)(f:List Frame)(k:b.roundOf=F.round)(m:F.fn b.fn)(o:F.room (f.length+1+n)):
  ∃j p q,Q j p q/\ArrivesIn (Machine.fenced P F) P (lone (b.atR a (.code c:: .inLoop c::i)) f w) b i f j p q:=by
 obtain⟨j,g,h,d,e⟩:=r b (.inLoop c::i) f k m o;cases j with
 |normal=>
  obtain⟨s,t,u,v,y⟩:=d b i f k m o;exact⟨s,t,u,v,.of_steps e y⟩
 |exit id=>exact⟨_,g,h,d,.pass (x:= .inLoop c) rfl (λ_ _=> .inl (by simp)) e⟩
 |goto l=>exact⟨_,g,h,d,.pass (x:= .inLoop c) rfl (λ_ _=> .inl (by simp)) e⟩
 |ret=>exact⟨_,g,h,d,.pass (x:= .inLoop c) rfl (λ_ _=> .inl (by simp)) e⟩
 |panic z=>exact⟨_,g,h,d,.pass (x:= .inLoop c) rfl (λ_ _=> .inl (by simp)) e⟩
 |outgrown=>exact⟨_,g,h,d,.pass (x:= .inLoop c) rfl (λ_ _=> .inl (by simp)) e⟩
theorem AHZ(f:c.wpIn F n P (Exit.then (ly F n P c Q) Q) a w):ly F n P c Q a w:=λb g h i d e=>
 let ⟨j,k,l,m,o⟩:=u7 f b g h i d e
 ⟨j,k,l,m,.of_steps (.one (fenced_calm d e rfl) stepR_inLoop) o⟩
theorem AFw(f:c.wpIn F n P (Exit.then (ly F n P c Q) Q) a w):(Code.loop c).wpIn F n P Q a w:=λb g h i d e=>
 let ⟨j,k,l,m,o⟩:=u7 f b g h i d e
 ⟨j,k,l,m,.of_steps (.one (fenced_calm d e rfl) stepR_loop) o⟩
end
def Xb(F:Fence)(n:Nat)(P:Q1)(c rest:Code)(Q:Exit->Act->World->Prop)(a:Act)(w:World):Prop:=
 ∀(b:Frame) (e:List Item) (d:List Frame),b.roundOf=F.round->F.fn b.fn->F.room (d.length+1+n)->
  ∃f g h,Q f g h/\ArrivesIn (Machine.fenced P F) P (lone (b.atR a (.code rest:: .inScope c::e)) d w) b e d f g h
def nf(l:Nat)(b:Act->World->Prop)(Q:Exit->Act->World->Prop):Exit->Act->World->Prop
 | .goto d,a,w=>d=l/\b a w
 |e,a,w=>Q e a w
section
variable {F : Fence} {n : Nat} {P : Q1} {Q : Exit -> Act -> World -> Prop} {a : Act} {w : World}
theorem ADw {P:Q1}{b:Frame}{a:Act}{d:List Item}{e:List Frame}{w:World}{c:Code}:step P (lone (b.atR a (.inScope c::d)) e w)= .next (lone (b.atR a d) e w):=
 step_lone_go (by simp[stepG,stepG.exec,Frame.atR])
theorem AHT {P:Q1}{b:Frame}{a:Act}{d:List Item}{e:List Frame}{w:World}{c:Code}:step P (lone (b.atR a (.code (.scope c)::d)) e w)= .next (lone (b.atR a (.code c:: .inScope c::d)) e w):=
 step_lone_go (by simp[stepG,stepG.exec,Frame.atR])
theorem u9 {c rest x:Code}{l:Nat}(q:findLabel c l=some rest)(r:x.wpIn F n P (nf l (Xb F n P c rest Q) Q) a w):Xb F n P c x Q a w:=by
 intro b e m o i j;have s:gotoIn l (.inScope c::e)=some (.code rest:: .inScope c::e):=by simp[gotoIn,q]
 obtain⟨t,g,h,f,d⟩:=r b (.inScope c::e) m o i j;cases t with
 |normal=>exact⟨.normal,g,h,f,StepsIn.trans d (.one (fenced_calm i j rfl) ADw)⟩
 |exit id=>
  have p:exitTo id (.inScope c::e)=exitTo id e:=by simp[exitTo]
  exact⟨.exit id,g,h,f,λu k=>d.1 u (by rw[p];exact k),λv k=>d.2 v (by rw[p];exact k)⟩
 |goto E=>
  obtain⟨rfl,y⟩:=f;obtain⟨z,A,B,C,D⟩:=y b e m o i j;exact⟨z,A,B,C,.of_steps (d.1 _ s) D⟩
 |ret=>exact⟨_,g,h,f,d⟩
 |panic G=>exact⟨_,g,h,f,d⟩
 |outgrown=>exact⟨_,g,h,f,d⟩
theorem AD6 {c rest:Code}{l:Nat}(f:findLabel c l=some rest)(g:c.wpIn F n P (nf l (Xb F n P c rest Q) Q) a w):(Code.scope c).wpIn F n P Q a w:=λb h i j d e=>
 let ⟨k,m,o,p,q⟩:=u9 f g b h i j d e
 ⟨k,m,o,p,.of_steps (.one (fenced_calm d e rfl) AHT) q⟩
end
theorem L6.g {b:List Nat}{nd:Bool}{a d:Act}(e:L6 b a d):FR b nd a d:=⟨e.get,λ_=>e.ds⟩
theorem ARU(d:ak)(b:aa)(n:Nat):(d.at b n).heap=b:=rfl
theorem run_getLoop {P:Q1}{d:ak}{b:aa}{n l:Nat}{rec:Go.Loop}(e:b[l]? =some (.loop rec)):(Instr.getLoop l).run P (d.at b n)= .ok rec (d.at b n):=by simp[Instr.getLoop,Sem.run_bind,getObj,Sem.run,ARU,e]
theorem Wl {P:Q1}{d:ak}{b:aa}{n l:Nat}{rec:Go.Loop}{e:Obj}(f:b[l]? =some (.loop rec)):(setObj l e).run P (d.at b n)= .ok () (d.at (b.setIfInBounds l e) n):=by simp[setObj,Sem.run,f,ak.at]
theorem run_beginRound {P:Q1}{d:ak}{b:aa}{n l:Nat}{rec:Go.Loop}(e:b[l]? =some (.loop rec))(f:rec.state= .ready):
  (Instr.beginRound l).run P (d.at b n)= .ok () (d.at (b.setIfInBounds l (.loop {rec with state:= .busy})) n):=by
 simp[Instr.beginRound,Sem.run_bind,run_getLoop e,Wl e,f]
theorem run_endRound {P:Q1}{e:ak}{d:aa}{n l:Nat}{rec:Go.Loop}{b:Option Code}(f:d[l]? =some (.loop rec)):
  (Instr.endRound l b).run P (e.at d n)= .ok (.bool b.isNone) (e.at (d.setIfInBounds l (.loop {rec with state:=if b.isNone then .ready else .done,pending:=b})) n):=by
 simp[Instr.endRound,Sem.run_bind,run_getLoop f,Wl f]
theorem run_endLoop {P:Q1}{d:ak}{b:aa}{n l:Nat}{rec:Go.Loop}(e:b[l]? =some (.loop rec))(f:rec.state≠ .busy):
  (Instr.endLoop l).run P (d.at b n)= .ok rec.pending (d.at (b.setIfInBounds l (.loop {rec with state:= .exhausted})) n):=by
 simp[Instr.endLoop,Sem.run_bind,run_getLoop e,Wl e];intro b;exact absurd b f
theorem AEj {P:Q1}{d:ak}{b:aa}{n:Nat}{fn:Q8}{tmps:Array J0}{ps:Array Tmp}{e body:Code}:
  (Instr.enterLoop fn tmps ps e body none).run P (d.at b n)=
   .ok (b.size+1,[jL b.size]) (d.at ((b.push (.deferred (some []))).push (.loop {state:= .ready,pending:=none,fn,tmps,params:=ps,assign:=e,body,defers:=b.size})) n):=by
 simp[Instr.enterLoop,Sem.run_bind,newObj,Sem.run,ak.at,jL];rfl
theorem ua {N:Nat}: ∀(ps:List Tmp) (d:List J0) (e:Env) (tmps:Array J0),(∀ p∈ps,p<N)->Fits N {tmps:=tmps,defers:= []} e->
  Fits N {tmps:=(ps.zip d).foldl (λtmps (t,a)=>tmps.setIfInBounds t a) tmps,defers:= []} (jv e ps d)
 | [],_,_,_,_,b=>by simpa [jv] using b
 |_::_,[],_,_,_,b=>by simpa [jv] using b
 |p::ps,v::d,e,tmps,f,b=>by
  have g:=b.set (v:=v) (f p AM);exact ua ps d (e.set p v) (tmps.setIfInBounds p v) (λh i=>f h (An _ i)) g
def Xo(P:Q1)(b:ak)(N:Nat)(c:Code):Prop:= ∀(m:Nat) (d:Bool) (e:Option Nat) (j:bY) (f:Env) (g:aa) (h:Env->aa->Prop) (kb:ik->Env->aa->Prop) (i:Env->aa->Prop) (a:Act) (n:Nat),
  (d=false->e=none)->FZ b P N d c j f g h kb i->Fits N a f->c.wpIn (Fw e) m P (dh b N (writes c) (F5 c) a h kb i) a (b.at g n)
theorem AJB {P:Q1}{h:ak}{N:Nat}{c b body:Code}{l:Nat}(al:Xo P h N c)(am:Xo P h N b){m:Nat}{q:Bool}{j:Option Nat}{L:Live}{z:List Nat}{U V:bY}{r:Env}{d:aa}{W:Env->aa->Prop}{kb:ik->Env->aa->Prop}{s:Env->aa->Prop}{X a:Act}{n:Nat}{Y:List Nat}{nd:Bool}{Q:Exit->Act->World->Prop}{A:Act->World->Prop}
  (Z:q=false->j=none) (an:findLabel body l=some (.seq .skip b)) (ab:NA z (writes c++writes b)=true) (ao:F5 c=true) (ap:F5 b=true)
  (aq:FZ h P N q c U r d
     (λk o=>Mo L k λe=>Loop (λK e d=>FZ h P N q b V (GJ L z r e) d W
      (λB k o=>match B with| .af i=>kb (.af i) k o| .eJ C=>match Nat.beq C l with|true=>Mo L k λe=>K e o|false=>False) s) e o)
     (λB k o=>match B with| .af i=>kb (.af i) k o| .eJ _=>False) s)
  (ac:Fits N a r) (ad: ∀f,FR (writes c++writes b) true a f->FR Y nd X f) (u:dh h N Y nd X W kb s=Q) (ar:A=Xb (Fw j) m P body (.seq .skip b) Q):(Code.seq c (.seq (.label l) b)).wpIn (Fw j) m P (nf l A Q) a (h.at d n):=by
 have au: ∀t∈writes c,t∈writes c++writes b:=λt D=>List.mem_append.2 (.inl D)
 have av: ∀t∈writes b,t∈writes c++writes b:=λt D=>List.mem_append.2 (.inr D)
 let aw:gy L->aa->Prop:=λe E=> ∀f G,Fits N f (GJ L z r e)->FR (writes c++writes b) true a f->b.wpIn (Fw j) m P (nf l A Q) f (h.at E G)
 refine wpIn_seq (wpIn_mono (al m q j U r d _ _ s a n Z aq ac) ?_);rintro H I aK ⟨ae,af,J,rfl,M,ax,p⟩;have O:FR (writes c++writes b) true a I:=ax.ai au (λ_=>ao);have ag:=ad I O;cases H with
 |normal=>
  obtain⟨e,ay,az⟩:=JC p;refine wpIn_seq (wpIn_label ?_);have aA:=az aw ?_
  ·exact aA I J (ac.join M rfl O ab ay) O
  ·intro e E aC f G ah aD;refine wpIn_mono (am m q j V _ E _ _ s f G Z aC ah) ?_;rintro H v aL ⟨R,S,x,rfl,y,aE,g⟩;have ai:FR (writes c++writes b) true f v:=aE.ai av (λ_=>ap);have aj:FR (writes c++writes b) true a v:=aD.trans ai (λ_ d=>d) (λ_ d=>d) (λ_=>⟨rfl,rfl⟩);have T:=ad v aj;cases H with
   |normal=>rw[<- u];exact⟨R,S,x,rfl,y,T,g⟩
   |exit i=>rw[<- u];exact⟨R,S,x,rfl,y,T,g⟩
   |goto C=>
    simp only at g;split at g
    ·rename_i aF;have aG:=IH aF;subst aG;obtain⟨aM,aH,aI⟩:=JC g;refine⟨rfl,?_⟩;have hd:=aI v x (ah.again y rfl ai ab aH) aj;rw[ar] at hd ⊢;exact u9 an (wpIn_seq (wpIn_skip hd))
    ·exact g.elim
   |ret=>rw[<- u];exact⟨R,S,x,rfl,y,T,g⟩
   |panic aJ=>exact g.elim
   |outgrown=>exact g.elim
 |exit i=>rw[<- u];exact⟨ae,af,J,rfl,M,ag,p⟩
 |goto C=>exact p.elim
 |ret=>rw[<- u];exact⟨ae,af,J,rfl,M,ag,p⟩
 |panic aJ=>exact p.elim
 |outgrown=>exact p.elim
theorem AI4 {P:Q1}{f:ak}{N:Nat}{b c d:Code}{l:Nat}(W:Xo P f N b)(X:Xo P f N c)(Y:Xo P f N d){m:Nat}{p:Bool}{s:Option Nat}{L:Live}{A:List Nat}{B Z ab:bY}{j:Env}{e:aa}{u:Env->aa->Prop}{kb:ik->Env->aa->Prop}{k:Env->aa->Prop}{a:Act}{n:Nat}
  (C:p=false->s=none) (ac:(findLabel b l).isNone=true) (ad:(findLabel c l).isNone=true) (ae:NA A (writes c++writes d)=true) (D:F5 b=true) (E:F5 c=true) (G:F5 d=true)
  (af:FZ f P N p b B j e (λj e=>FZ f P N p c Z j e
     (λg h=>Mo L g λq=>Loop (λK q e=>FZ f P N p d ab (GJ L A j q) e u
      (λr g h=>match r with| .af i=>kb (.af i) g h| .eJ H=>match Nat.beq H l with|true=>Mo L g λq=>K q h|false=>False) k) q h)
     (λr g h=>match r with| .af i=>kb (.af i) g h| .eJ _=>False) k) (λr g h=>match r with| .af i=>kb (.af i) g h| .eJ _=>False) k)
  (ag:Fits N a j):(Code.scope (.seq b (.seq c (.seq (.label l) d)))).wpIn (Fw s) m P (dh f N (writes (.scope (.seq b (.seq c (.seq (.label l) d))))) (F5 (.scope (.seq b (.seq c (.seq (.label l) d))))) a u kb k) a (f.at e n):=by
 have ah:findLabel b l=none:=by simpa using ac
 have ai:findLabel c l=none:=by simpa using ad
 have I:findLabel (.seq b (.seq c (.seq (.label l) d))) l=some (.seq .skip d):=by simp[findLabel,ah,ai]
 have aj:F5 (.scope (.seq b (.seq c (.seq (.label l) d))))=true:=by simp[F5,D,E,G]
 have J: ∀t∈writes b,t∈writes (.scope (.seq b (.seq c (.seq (.label l) d)))):=λt v=>by simp only[writes,Fl];exact .inl v
 have M: ∀t∈writes c++writes d,t∈writes (.scope (.seq b (.seq c (.seq (.label l) d)))):=λt v=>by
  rcases List.mem_append.1 v with e|e
  ·simp only[writes,Fl];exact .inr (.inl e)
  ·simp only[writes,Fl];exact .inr (.inr (.inr e))
 generalize ap:writes (.scope (.seq b (.seq c (.seq (.label l) d))))=O at J M ⊢;rw[aj];generalize x:dh f N O true a u kb k=Q;obtain⟨R,S⟩: ∃R:Act->World->Prop,R=Xb (Fw s) m P (.seq b (.seq c (.seq (.label l) d))) (.seq .skip d) Q:=⟨_,rfl⟩;refine AD6 I ?_;rw[<- S];refine wpIn_seq (wpIn_mono (W m p s B j e _ _ k a n C af ag) ?_);rintro al am aq ⟨T,U,V,rfl,y,an,o⟩;have z:FR O true a am:=an.ai J λ_=>D
 cases al with
 |normal=>exact AJB X Y C I ae E G o y (λar ao=>z.trans ao (λ_ e=>e) M λ_=>⟨rfl,rfl⟩) x S
 |exit i=>rw[<- x];exact⟨T,U,V,rfl,y,z,o⟩
 |goto H=>exact o.elim
 |ret=>rw[<- x];exact⟨T,U,V,rfl,y,z,o⟩
 |panic au=>exact o.elim
 |outgrown=>exact o.elim
theorem AIZ {P:Q1}{y:ak}{N:Nat}(a7:P.follows .mixedOrders=true): ∀(aF:Nat) (c:Code),SizeOf.sizeOf c<aF-> ∀(m:Nat) (D:Bool) (A:Option Nat) (H:bY) (k:Env) (d:aa) (q:Env->aa->Prop) (kb:ik->Env->aa->Prop) (r:Env->aa->Prop) (a:Act) (n:Nat),
  (D=false->A=none)->FZ y P N D c H k d q kb r->Fits N a k->c.wpIn (Fw A) m P (dh y N (writes c) (F5 c) a q kb r) a (y.at d n):=by
 intro aF
 induction aF with
 |zero=>intro c Z;omega
 |succ aF T=>
  intro c Z;cases c with
  |skip=>intro m D A H k d q kb r a n _ e o;exact wpIn_skip ⟨k,d,n,rfl,o,FR.refl,e⟩
  |exit id=>intro m D A H k d q kb r a n _ e o;exact wpIn_exit ⟨k,d,n,rfl,o,FR.refl,e⟩
  |ret=>intro m D A H k d q kb r a n _ e o;exact wpIn_ret ⟨k,d,n,rfl,o,FR.refl,e⟩
  |label l=>intro m D A H k d q kb r a n _ e o;exact wpIn_label ⟨k,d,n,rfl,o,FR.refl,e⟩
  |goto l=>intro m D A H k d q kb r a n _ e o;exact wpIn_goto ⟨k,d,n,rfl,o,FR.refl,e⟩
  |refuse S=>intro m D A H k d q kb r a n _ e o;simp only[FZ] at e
  |region id ai V=>
   intro m D A H k d q kb r a n _ e o;have plain: ∀X,(∀ aw aj af ax,Fits N aw aj->L6 (dstsOf ai.toList) a aw->X aj af->dh y N (writes (.region id ai V)) (F5 (.region id ai V)) a q kb r .normal aw (y.at af ax))->
     ll y P N ai V k d X->(Code.region id ai V).wpIn (Fw A) m P (dh y N (writes (.region id ai V)) (F5 (.region id ai V)) a q kb r) a (y.at d n):=
    λX a8 a9=>AFv a7 a9 o a8
   cases H with
   |br L al=>
    simp only[FZ] at e;split at e
    ·rename_i I;have e:=e _ (λ_ _ d=>d);refine plain _ ?_ e;intro aw aj af ax aN aq B;obtain⟨ag,u,O⟩:=JC B;exact⟨_,af,ax,rfl,o.join aN rfl (aq.g (nd:=true)) I u,aq.g,O⟩
    ·exact e.elim
   |_=>exact plain q (λaw aj af ax aN aq B=>⟨aj,af,ax,rfl,aN,aq.g,B⟩) e
  |seq x S=>
   have ay:=T x (by simp at Z;omega);have aO:=T S (by simp at Z;omega);intro m D A H k d q kb r a n Y e o;have tail: ∀(X:Env->aa->Prop) (aP aQ:bY),FZ y P N D x aP k d X kb r->
     (∀ h g j,Fits N h g->FR (writes x) (F5 x) a h->X g j-> ∃E,Fits N h E/\FZ y P N D S aQ E j q kb r)->
     (Code.seq x S).wpIn (Fw A) m P (dh y N (writes (.seq x S)) (F5 (.seq x S)) a q kb r) a (y.at d n):=by
    intro X aP aQ B am;refine wpIn_seq (wpIn_mono (ay m D A aP k d X kb r a n Y B o) ?_);intro an h aG G;have ar: ∀t∈writes x,t∈writes (.seq x S):=λt ao=>by simp only[writes,Fl];exact .inl ao
    have ba: ∀t∈writes S,t∈writes (.seq x S):=λt ao=>by simp only[writes,Fl];exact .inr ao
    have au:F5 (.seq x S)=true->F5 x=true/\F5 S=true:=λd=>by simpa [F5] using d
    cases an with
    |normal=>
     obtain⟨g,j,U,rfl,s,C,u⟩:=G;obtain⟨E,ab,aR⟩:=am h g j s C u;refine wpIn_mono (aO m D A aQ E j q kb r h U Y aR ab) ?_;rintro aY aH aZ ⟨bb,aS,bc,rfl,bd,be,bf⟩;exact⟨bb,aS,bc,rfl,bd,C.trans be ar ba au,bf⟩
    |exit id=>obtain⟨g,j,U,rfl,s,C,u⟩:=G;exact⟨g,j,U,rfl,s,C.ai ar (λd=>(au d).1),u⟩
    |ret=>obtain⟨g,j,U,rfl,s,C,u⟩:=G;exact⟨g,j,U,rfl,s,C.ai ar (λd=>(au d).1),u⟩
    |goto l=>obtain⟨g,j,U,rfl,s,C,u⟩:=G;exact⟨g,j,U,rfl,s,C.ai ar (λd=>(au d).1),u⟩
    |panic a0=>obtain⟨_,_,_,_,_,_,u⟩:=G;exact u.elim
    |outgrown=>obtain⟨_,_,_,_,_,_,u⟩:=G;exact u.elim
   cases H with
   |seq J ah=>
    simp only[FZ] at e;exact tail _ J ah e (λh g j s _ B=>⟨g,s,B⟩)
   |bz L al J ah=>
    simp only[FZ] at e;split at e
    ·rename_i I;simp only[A3] at I;have e:=e _ (λ_ _ d=>d);refine tail _ J ah e ?_;intro h g j s C B;obtain⟨ag,u,O⟩:=JC B;exact⟨_,o.join s I.2 C I.1 u,O⟩
    ·exact e.elim
   |_=>simp only[FZ] at e
  |cond v x S=>
   have ay:=T x (by simp at Z;omega);have aO:=T S (by simp at Z;omega);intro m D A H k d q kb r a n Y e o;cases H with
   |cond J ah=>
    simp only[FZ] at e;have e:=BQ o e;cases aI:a.eval v<;>rw[aI] at e<;>simp only[] at e
    rename_i b;obtain⟨j,M⟩:=ae.mk e;refine wpIn_cond aI ?_;cases b with
    |true=>exact wpIn_mono (ay m D A J k d q kb r a n Y (j rfl) o) (λ_ _ _ G=>G.mono (λt ao=>by simp only[writes,Fl];exact .inl ao) (λd=>by simp[F5] at d;exact d.1) (λ_ _ d=>d) (λ_ _ _ d=>d) (λ_ _ d=>d))
    |false=>exact wpIn_mono (aO m D A ah k d q kb r a n Y (M rfl) o) (λ_ _ _ G=>G.mono (λt ao=>by simp only[writes,Fl];exact .inr ao) (λd=>by simp[F5] at d;exact d.2) (λ_ _ d=>d) (λ_ _ _ d=>d) (λ_ _ d=>d))
   |_=>simp only[FZ] at e
  |block id x=>
   have T:=T x (by simp at Z;omega);intro m D A H k d q kb r a n Y e o;have tail: ∀(X:Env->aa->Prop) (az:ik->Env->aa->Prop) (J:bY),FZ y P N D x J k d X az r->
     (∀ h g j,Fits N h g->FR (writes x) (F5 x) a h->X g j-> ∃E,Fits N h E/\q E j)->
     (∀ i h g j,Fits N h g->FR (writes x) (F5 x) a h->az (.af i) g j->(i=id/\ ∃E,Fits N h E/\q E j)\/(i≠id/\kb (.af i) g j))->(∀ l g j,az (.eJ l) g j->kb (.eJ l) g j)->
     (Code.block id x).wpIn (Fw A) m P (dh y N (writes (.block id x)) (F5 (.block id x)) a q kb r) a (y.at d n):=by
    intro X az J B j M aS;refine wpIn_block (wpIn_mono (T m D A J k d X az r a n Y B o) ?_);intro an h aG G;obtain⟨g,R,U,rfl,s,C,u⟩:=G;cases an with
    |normal=>obtain⟨E,ab,am⟩:=j h g R s C u;exact⟨E,R,U,rfl,ab,C,am⟩
    |exit i=>
     simp only[Exit.inBlock];rcases M i h g R s C u with⟨ac,E,ab,am⟩|⟨ac,am⟩
     ·rw[if_pos ac];exact⟨E,R,U,rfl,ab,C,am⟩
     ·rw[if_neg ac];exact⟨g,R,U,rfl,s,C,am⟩
    |ret=>exact⟨g,R,U,rfl,s,C,u⟩
    |goto l=>exact⟨g,R,U,rfl,s,C,aS l _ _ u⟩
    |panic a0=>exact u.elim
    |outgrown=>exact u.elim
   cases H with
   |block J=>
    simp only[FZ] at e;refine tail _ _ J e (λh g j s _ B=>⟨g,s,B⟩) ?_ (λ_ _ _ d=>d);intro i h g j s _ B;by_cases ac:i=id
    ·subst ac;simp only[Nat.beq_refl] at B;exact .inl ⟨rfl,g,s,B⟩
    ·simp only[Td ac] at B;exact .inr ⟨ac,B⟩
   |bI L al J=>
    simp only[FZ] at e;split at e
    ·rename_i I;simp only[A3] at I;have e:=e _ (λ_ _ d=>d);have a1: ∀h g j,Fits N h g->FR (writes x) (F5 x) a h->Mo L g (λag=>q (GJ L al k ag) j)-> ∃E,Fits N h E/\q E j:=by intro h g j s C B;obtain⟨ag,u,O⟩:=JC B;exact⟨_,o.join s I.2 C I.1 u,O⟩
     refine tail _ _ J e a1 ?_ (λ_ _ _ d=>d);intro i h g j s C B;by_cases ac:i=id
     ·subst ac;simp only[Nat.beq_refl] at B;exact .inl ⟨rfl,a1 h g j s C B⟩
     ·simp only[Td ac] at B;exact .inr ⟨ac,B⟩
    ·exact e.elim
   |_=>simp only[FZ] at e
  |loop x=>
   have T:=T x (by simp at Z;omega);intro m D A H k d q kb r a n Y e o;cases H with
   |loop L al J=>
    simp only[FZ] at e;split at e
    ·rename_i I;simp only[A3] at I;obtain⟨ag,u,e⟩:=JC e;have bg:Fits N a (GJ L al k ag):=o.join o I.2 (FR.refl (W:=writes x)) I.1 u
     let K:gy L->aa->Prop:=λag d=> ∀h n,Fits N h (GJ L al k ag)->FR (writes x) (F5 x) a h->
      x.wpIn (Fw A) m P (Exit.then (ly (Fw A) m P x (dh y N (writes x) (F5 x) a q kb r)) (dh y N (writes x) (F5 x) a q kb r)) h (y.at d n)
     have aq:=e K ?_
     ·exact AFw (aq a n bg FR.refl)
     ·intro ag d bh h n s C;refine wpIn_mono (T m D A J _ d _ kb r h n Y bh s) ?_;intro an aH aZ G;obtain⟨E,M,av,rfl,ab,aT,O⟩:=G;have aJ:FR (writes x) (F5 x) a aH:=C.trans aT (λ_ d=>d) (λ_ d=>d) (λd=>⟨d,d⟩);cases an with
      |normal=>
       obtain⟨bV,bi,aR⟩:=JC O;exact AHZ (aR aH av (s.again ab I.2 aT I.1 bi) aJ)
      |exit i=>exact⟨E,M,av,rfl,ab,aJ,O⟩
      |ret=>exact⟨E,M,av,rfl,ab,aJ,O⟩
      |goto l=>exact⟨E,M,av,rfl,ab,aJ,O⟩
      |panic a0=>exact O.elim
      |outgrown=>exact O.elim
    ·exact e.elim
   |_=>simp only[FZ] at e
  |rangeFunc f ps aK x=>
   have bj:=T aK (by simp at Z;omega);have ay:=T x (by simp at Z;omega);intro m D A H k d q kb r a n Y e o;cases H with
   |range a2 J ah=>
    simp only[FZ] at e;split at e
    ·rename_i a3;simp only[A3,CA,CC] at a3;obtain⟨⟨bk,aL⟩,bm⟩:=a3;have aL:=IH aL;have bn:=Y bk;subst bn;have e:=BQ o e;refine wpIn_rangeFunc λfn _=>?_
     let aA:Go.Loop:= {state:= .ready,pending:=none,fn,tmps:=a.tmps,params:=ps,assign:=aK,body:=x,defers:=d.size}
     have bo: ∀args:List J0,args.length=ps.size-> ∀(R:aa) (ap:A2O),R[d.size+1]? =some (.loop aA)->
       FZ y P N true aK J (jv {get:=k.get,ds:= []} ps.toList args) R
        (λaj af=> ∃aM,af[d.size+1]? =some (.loop aM)/\aM.state= .ready/\
         FZ y P N true x ah aj (af.setIfInBounds (d.size+1) (.loop {aM with state:= .busy}))
          (λ_ M=> ∃ad,M[d.size+1]? =some (.loop ad)/\ap (.bool true) (M.setIfInBounds (d.size+1) (.loop {ad with state:= .ready,pending:=none})))
          (λaU _ M=>match aU with| .af i=>(∃ ad,M[d.size+1]? =some (.loop ad)/\ap (.bool false) (M.setIfInBounds (d.size+1) (.loop {ad with state:= .done,pending:=some (Zc (some i))})))| .eJ _=>False)
          (λ_ M=> ∃ad,M[d.size+1]? =some (.loop ad)/\ap (.bool false) (M.setIfInBounds (d.size+1) (.loop {ad with state:= .done,pending:=some (Zc none)}))))
        (λ_ _ _=>False) (λ_ _=>False)->
       EL y P (.func (.yield (d.size+1)) #[] #[]) args.toArray R ap:=by
      intro args bp R ap aV aW n;have bq:(do let V <-Deferred.ofValue (.func (.yield (d.size+1)) #[] #[]) args.toArray;invoke V.target V.args:Sem Next).run P (y.at R n)=
        .ok (.round (d.size+1) fn ((ps.zip args.toArray).foldl (λtmps (t,a)=>tmps.setIfInBounds t a) a.tmps) aK x) (y.at R n):=by
       have bs: ¬(args.toArray).size≠ps.size:=by simp[bp]
       simp only[Deferred.ofValue,Sem.run_bind,Sem.run_pure,Result.andThen_ok,invoke,Instr.yield,run_getLoop aV,Array.empty_append];show Sem.run P (if(args.toArray).size≠ps.size then _ else _) _=_;rw[if_neg bs];rfl
      rw[bq];simp only[Next.out];have bt:Fits N {tmps:=(ps.zip args.toArray).foldl (λtmps (t,a)=>tmps.setIfInBounds t a) a.tmps,defers:= []} (jv {get:=k.get,ds:= []} ps.toList args):=by have bu:Fits N {tmps:=a.tmps,defers:= []} {get:=k.get,ds:= []}:=⟨o.size,o.get,rfl⟩;have:=ua ps.toList args _ a.tmps (λp G=>by simpa using bm p G) bu;rw[<- Array.foldl_toList,Array.toList_zip];exact this
      refine roundIn_of_wpIn trivial (wpIn_mono (bj 0 true (some (d.size+1)) J _ R _ _ _ _ n (λd=>by cases d) aW bt) ?_);intro an h aG G;obtain⟨g,j,U,rfl,s,C,u⟩:=G;cases an<;>simp only at u
      obtain⟨aM,bv,bw,bx⟩:=u;refine⟨_,run_beginRound bv bw,?_⟩;refine wpIn_mono (ay 0 true (some (d.size+1)) ah _ _ _ _ _ h U (λd=>by cases d) bx s) ?_;intro aY aH aZ bA;obtain⟨E,M,av,rfl,ab,aT,O⟩:=bA;cases aY<;>simp only at O
      ·obtain⟨ad,aC,aD⟩:=O;exact⟨_,_,run_endRound aC,_,rfl,_,_,rfl,aD⟩
      ·obtain⟨ad,aC,aD⟩:=O;exact⟨_,_,run_endRound aC,_,rfl,_,_,rfl,aD⟩
      ·obtain⟨ad,aC,aD⟩:=O;exact⟨_,_,run_endRound aC,_,rfl,_,_,rfl,aD⟩
     obtain⟨bB,bC,bD,bE⟩:=e aA rfl rfl aL.symm (λx R ap aV aW=>bo (jU a2 x) ((Xt a2 x).trans aL) R ap aV aW);obtain⟨nx,bF,rfl⟩:=MW bD;have aE:=bF (y.at ((d.push (.deferred (some []))).push (.loop aA)) n);rw[Sem.run_bind] at aE;have bG:(resolve a.eval (rangeCall f (d.size+1)) 0)=Deferred.ofValue (a.eval f) #[.func (.yield (d.size+1)) #[] #[]]:=by simp[resolve,Act.eval]
     cases hd:(Deferred.ofValue (a.eval f) #[.func (.yield (d.size+1)) #[] #[]]).run P (y.at ((d.push (.deferred (some []))).push (.loop aA)) n) with
     |halt S w=>rw[hd] at aE;cases aE
     |ok V aG=>
      rw[hd] at aE;have ar:aG=y.at ((d.push (.deferred (some []))).push (.loop aA)) n:=by cases aI:a.eval f<;>rw[aI] at hd<;>simp[Deferred.ofValue] at hd<;>first|exact hd.2.symm|(cases hd)
      subst ar;refine⟨d.size+1,[jL d.size],_,V,_,bB,bC,_,AEj,by rw[bG];exact hd,λ_ _=>trivial,aE,λau=>by simp at au,WL.2 (Calls.mono (bE n) ?_)⟩;rintro bW bX ⟨v,rfl,M,av,rfl,a4,bH,bJ,a5⟩;have aX:Fits N {a with defers:= [jL d.size]++a.defers} {get:=k.get,ds:=d.size::k.ds}:=⟨o.size,o.get,by simp[o.ds]⟩;refine⟨a4.pending,_,run_endLoop bH bJ,?_⟩;generalize M.setIfInBounds (d.size+1) (.loop {a4 with state:= .exhausted})=bZ at a5 ⊢;rcases a5 with⟨G,bK⟩|⟨aU,G,a6⟩
      ·rw[G];exact⟨_,_,_,rfl,aX,⟨λ_ _=>rfl,λd=>by simp[F5] at d⟩,bK⟩
      ·rw[G];cases aU with
       |none=>exact wpIn_ret ⟨_,_,_,rfl,aX,⟨λ_ _=>rfl,λd=>by simp[F5] at d⟩,a6⟩
       |some i=>exact wpIn_exit ⟨_,_,_,rfl,aX,⟨λ_ _=>rfl,λd=>by simp[F5] at d⟩,a6⟩
    ·exact e.elim
   |_=>simp only[FZ] at e
  |scope b=>
   intro m D A H k d q kb r a n Y e o;cases b with
   |seq bL bM=>
    cases bM with
    |seq c S=>
     cases S with
     |seq z V=>
      cases z with
      |label l=>
       cases H with
       |scope L al b0 J ah=>
        simp only[FZ] at e;split at e
        ·rename_i I;simp only[A3] at I;obtain⟨⟨bN,bO⟩,I,bP,bQ,bR⟩:=I;have bS:=T bL (by simp at Z;omega);have bT:=T c (by simp at Z;omega);have bU:=T V (by simp at Z;omega);exact AI4 bS bT bU Y bN bO I bP bQ bR e o
        ·exact e.elim
       |_=>simp only[FZ] at e
      |_=>simp only[FZ] at e
     |_=>simp only[FZ] at e
    |_=>simp only[FZ] at e
   |_=>simp only[FZ] at e
theorem AJp {P:Q1}{b:ak}{N:Nat}(k:P.follows .mixedOrders=true)(c:Code)(m:Nat)(d:Bool)(e:Option Nat)(j:bY)(f:Env)(g:aa)(h:Env->aa->Prop)(kb:ik->Env->aa->Prop)(i:Env->aa->Prop)(a:Act)(n:Nat)
  (l:d=false->e=none) (o:FZ b P N d c j f g h kb i) (p:Fits N a f):c.wpIn (Fw e) m P (dh b N (writes c) (F5 c) a h kb i) a (b.at g n):=
 AIZ k (SizeOf.sizeOf c+1) c (HK _) m d e j f g h kb i a n l o p
def jV(P:Q1):List ResultVar->Env->aa->(List J0->Prop)->Prop
 | [],_,_,K=>K []
 | .tmp t::d,b,c,K=>match b.get t with|some v=>jV P d b c λe=>K (v::e)|none=>False
 | .cell a t::d,b,c,K=>match b.get a with
  |some v=>(match v with| .pointer p=>At p λf=>loadT P t c f λv _=>jV P d b c λe=>K (v::e)|_=>False)
  |none=>False
def oneOf(a:List J0)(K:J0->Prop):Prop:=match a with| [v]=>K v|a=>K (.tuple a.toArray)
def ub(P:Q1)(l:List ResultVar)(a:Env)(b:aa)(K:J0->Prop):Prop:=jV P l a b λc=>oneOf c K
def pY:List Nat->aa->(aa->Prop)->Prop
 | [],a,K=>K a
 |r::b,a,K=>a[r]? =some (.deferred (some []))/\pY b (a.setIfInBounds r (.deferred none)) K
def lz:Nat->List J0->Nat->Option J0
 |_,[],_=>none
 |i,v::a,t=>bif Nat.beq t i then some v else lz (i+1) a t
def pZ(P:Q1)(fn:Func)(c:A2O)(a:Env)(d:aa):Prop:=pY a.ds d λb=>ub P fn.results.toList a b λv=>c v b
def qa(A:ak)(P:Q1)(f:Q8)(b:bY)(args:List J0)(d:aa)(a:A2O):Prop:=
 match P.funcs[f]? with
 |none=>False
 |some fn=>match fn.body with
  |none=>False
  |some c=>match Nat.ble args.length fn.ntmps with
   |true=>FZ A P fn.ntmps false c b {get:=lz 0 args,ds:= []} d (pZ P fn a) (λ_ _ _=>False) (pZ P fn a)
   |false=>False
theorem uc: ∀ {l:List J0} {i t:Nat} {v:J0},lz i l t=some v->i<=t/\l[t-i]? =some v
 | [],_,_,_,a=>by cases a
 |u::e,i,t,v,a=>by
  unfold lz at a;by_cases b:t=i
  ·subst b;have c:Nat.beq t t=true:=by simp
   rw[c,cond_true] at a;exact⟨A0 _,by simpa using a⟩
  ·rw[Td b,cond_false] at a;obtain⟨f,d⟩:=uc a;refine⟨by omega,?_⟩;have:t-i=(t-(i+1))+1:=by omega
   rw[this,PC];exact d
section
variable {P : Q1} {A : ak}
def ng(tmps:Array J0):ResultVar->Sem J0
 | .tmp t=>pure (tmps.getD t undef)
 | .cell x t=>do loadVar t (<- asAddr (tmps.getD x undef))
theorem AKa(fn:Func)(tmps:Array J0):results fn tmps=(do let a <-fn.results.mapM (ng tmps);pure (if b:a.size=1 then a[0] else .tuple a)):=rfl
theorem RD {N:Nat}{a:Act}{j:Env}(d:Fits N a j){e:aa}{n:Nat}: ∀ {l:List ResultVar} {K:List J0->Prop},jV P l j e K->
  ∃c,(l.mapM (ng a.tmps)).run P (A.at e n)= .ok c (A.at e n)/\K c
 | [],K,b=>⟨[],rfl,b⟩
 | .tmp t::k,K,b=>by
  unfold jV at b;split at b
  ·rename_i v f;obtain⟨c,g,h⟩:=RD (n:=n) d b;refine⟨v::c,?_,h⟩;have i:a.tmps.getD t undef=v:=by have:=d.get t v f;simp[this]
   rw[PB];simp only[Sem.run_bind,Sem.run_pure,Result.andThen_ok,ng,g,i]
  ·exact b.elim
 | .cell x t::k,K,b=>by
  unfold jV at b;split at b
  ·rename_i v f;split at b
   ·rename_i p;obtain⟨m,rfl,o⟩:=At.mk b;obtain⟨u,st,q,r,h⟩:=th (A:=A) o;obtain⟨c,g,s⟩:=RD (n:=n) d h;refine⟨u::c,?_,s⟩;have i:a.tmps.getD x undef= .pointer (some m):=by have:=d.get x _ f;simp[this]
    rw[PB];simp only[Sem.run_bind,Sem.run_pure,Result.andThen_ok,ng,i,asAddr,q e r n,g]
   ·exact b.elim
  ·exact b.elim
theorem AKk {N:Nat}{a:Act}{e:Env}(f:Fits N a e){fn:Func}{c:aa}{n:Nat}{K:J0->Prop}(b:ub P fn.results.toList e c K):
  ∃v,(results fn a.tmps).run P (A.at c n)= .ok v (A.at c n)/\K v:=by
 obtain⟨d,g,b⟩:=RD (A:=A) f (n:=n) b;have h:(results fn a.tmps).run P (A.at c n)= .ok (if i:d.toArray.size=1 then d.toArray[0] else .tuple d.toArray) (A.at c n):=by rw[AKa,XS];simp only[Sem.run_bind,Sem.run_map,g,Result.andThen_ok,Sem.run_pure]
 refine⟨_,h,?_⟩
 match d,b with
 | [],b=>exact b
 | [v],b=>exact b
 |u::v::j,b=>simpa [oneOf] using b
theorem ud {fn:Func}{tmps:Array J0}{d:Ending->World->Prop}{K:aa->Prop}(e: ∀a b,K a->LeavesInM (Fw none) 0 P fn tmps d [] .returning (A.at a b)):
  ∀(l:List Nat) (a:aa) (b:Nat),pY l a K->LeavesInM (Fw none) 0 P fn tmps d (l.map jL) .returning (A.at a b)
 | [],a,b,c=>e a b c
 |r::f,a,b,⟨g,c⟩=>by
  refine⟨by simp,.inl ⟨r,_,rfl,run_takeDeferred (w:=A.at a b) g,?_⟩⟩;exact ud e f _ b c
theorem AGy(s:P.follows .mixedOrders=true){f:Q8}{m:bY}{args:List J0}{j:aa}{e:A2O}(b:qa A P f m args j e):
  AA A P f args.toArray j e:=by
 intro n;unfold qa at b;split at b
 ·exact b.elim
 ·rename_i fn u;split at b
  ·exact b.elim
  ·rename_i c w;split at b
   ·rename_i o;have o:=Ys o;refine WL.1 (callsIn_of_wp_marks (F:=Fw none) (n:=0) u w trivial ?_);have x:Fits fn.ntmps {tmps:=args.toArray++Array.replicate (fn.ntmps-args.toArray.size) undef,defers:= []} {get:=lz 0 args,ds:= []}:=by refine⟨by simp;omega,λt v k=>?_,rfl⟩;obtain⟨_,g⟩:=uc k;have y:t<args.length:=(List.getElem?_eq_some_iff.1 (by simpa using g)).1;rw[Mb (by simpa using y)];simpa using g
    refine wpIn_mono (AJp s c 0 false none m _ j _ _ _ _ n (λ_=>rfl) b x) ?_;intro z a H B;obtain⟨h,d,i,rfl,p,_,l⟩:=B;have q:pZ P fn e h d->LeavesInM (Fw none) 0 P fn a.tmps (λh C=> ∃v,h= .returned v/\ ∃d i,C=A.at d i/\e v d) a.defers .returning (A.at d i):=by intro D;rw[p.ds];refine ud ?_ h.ds d i D;intro g r E;obtain⟨v,k,G⟩:=AKk (A:=A) p (n:=r) E;exact⟨v,k,v,rfl,g,r,rfl,G⟩
    cases z<;>simp only at l
    ·exact q l
    ·exact q l
   ·exact b.elim
end
def Gb(c:IntKind)(a b:Int):Int:=c.wrap ((BitVec.ofInt c.bits a &&& BitVec.ofInt c.bits b).toNat:Int)
def dX(c:IntKind)(a b:Int):Int:=c.wrap ((BitVec.ofInt c.bits a ||| BitVec.ofInt c.bits b).toNat:Int)
def ZG(c:IntKind)(a b:Int):Int:=c.wrap ((BitVec.ofInt c.bits a ^^^ BitVec.ofInt c.bits b).toNat:Int)
end Go.Lf
namespace Go.Lf.G
noncomputable abbrev P:Q1:=Go.Proofs.Tryz.prog
def Jn:Q8:=3
def Jf:Q8:=6
def GQ:Q8:=7
def GD:Q8:=8
def FL:Q8:=9
def GG:Q8:=10
def Fe:Q8:=11
def Px:Q8:=12
def OG:Q8:=13
def Di:Q8:=14
def Hl:Q8:=15
def Pn:Q8:=16
def I7:Q8:=18
def JE:Q8:=20
def Hu:Q8:=21
def Iy:Q8:=22
def Gr:Q8:=23
def FI:Q8:=24
def Rz:Q8:=26
def ZZ:Q8:=27
def PY:Q8:=28
def Es:Q8:=29
def Jp:Q8:=30
def Ms:Q8:=31
def NV:Q8:=32
def Gm:Q8:=33
def ED:Q8:=34
def Kr:Q8:=35
def MH:Q8:=36
def Jv:Q8:=37
def Bv:Q8:=38
def Aq:Q8:=39
def CO:Q8:=40
def I5:Q8:=41
def DN:Q8:=42
def CB:Q8:=43
def Fq:Q8:=44
def JU:Q8:=45
def MG:Q8:=46
def NU:Q8:=47
def Og:Q8:=48
def Po:Q8:=49
def Jj:Q8:=50
def GL:Q8:=51
def Ey:Q8:=52
def PK:Q8:=53
def Hy:Q8:=54
def GK:Q8:=55
def Nu:Q8:=56
def DF:Q8:=57
def Pm:Q8:=59
def Ru:Q8:=60
def Bq:Q8:=61
def Ij:Q8:=62
def Hr:Q8:=63
def KX:Q8:=64
def Ff:Q8:=65
def OW:Q8:=66
def Ku:Q8:=67
def El:Q8:=68
def Bf:Q8:=69
def Ad:Q8:=70
def CL:Q8:=71
def Np:Q8:=72
def LF:Q8:=73
def Jh:Q8:=74
def Pi:Q8:=75
def UZ:Q8:=76
def JZ:Q8:=77
def Rh:Q8:=78
def Ju:Q8:=79
def Jo:Q8:=80
def Dt:Q8:=81
def DD:Q8:=82
def De:Q8:=83
def ME:Q8:=84
def Rb:Q8:=85
def P9:Q8:=86
def Ro:Q8:=87
def OM:Q8:=88
def UQ:Q8:=89
def Gj:Q8:=90
def Jz:Q8:=91
def Nr:Q8:=92
def NE:Q8:=93
def Ki:Q8:=94
def Kw:Q8:=95
def RF:Q8:=96
def QI:Q8:=97
def Iq:Q8:=98
def JB:Q8:=99
def Nl:Q8:=100
def Ih:Q8:=101
def Gs:Q8:=102
def Py:Q8:=103
def Jy:Q8:=104
def Oa:Q8:=105
def Pj:Q8:=106
def K9:Q8:=107
def PP:Q8:=108
def Km:Q8:=109
def Ik:Q8:=110
def Fh:Q8:=111
def Gh:Q8:=112
def RV:Q8:=113
def EE:Q8:=114
def KG:Q8:=115
def LG:Q8:=116
def Na:Q8:=117
def Rx:Q8:=118
def I6:Q8:=119
def IB:Q8:=120
def Tg:Q8:=121
def Dh:Q8:=122
def Cn:Q8:=123
def SA:Q8:=124
def Cz:Q8:=125
def IP:Q8:=126
def Ko:Q8:=127
def Qj:Q8:=128
def Vy:Q8:=129
def Fs:Q8:=130
def PV:Q8:=131
def Jt:Q8:=132
def Gi:Q8:=133
def Kk:Q8:=134
def KJ:Q8:=135
def Ky:Q8:=136
def Gg:Q8:=137
def Od:Q8:=138
def JA:Q8:=139
def Rw:Q8:=140
def Kv:Q8:=141
def UN:Q8:=142
def ET:Q8:=143
def Gz:Q8:=144
def Gx:Q8:=145
def TL:Q8:=146
def CU:Q8:=147
def Jw:Q8:=148
def OV:Q8:=149
def RX:Q8:=150
def Oh:Q8:=151
def CS:Q8:=152
def JK:Q8:=153
def Ho:Q8:=154
def PH:Q8:=155
def Vd:Q8:=156
def Kg:Q8:=157
def Ph:Q8:=158
def IW:Q8:=159
def Rn:Q8:=160
def Ir:Q8:=161
def QP:Q8:=162
def Rp:Q8:=163
def Kn:Q8:=165
def F4:Q8:=166
def Bo:Q8:=167
def Ii:Q8:=170
def G6:Q8:=171
def HZ:Q8:=172
def JY:Q8:=173
def NT:Q8:=174
def Cq:Q8:=175
def BI:Q8:=176
def Cv:Q8:=177
def Js:Q8:=178
def JH:Q8:=179
def JX:Q8:=180
def Cy:Q8:=181
def KI:Q8:=182
def Iu:Q8:=183
def QA:Q8:=184
def NG:Q8:=185
def NR:Q8:=186
def Dl:Q8:=192
def Ga:Q8:=194
def Nj:Q8:=195
def PT:Q8:=196
def FM:Q8:=200
def Ti:Q8:=206
def Ps:Q8:=207
def Cr:Q8:=208
def EG:Q8:=209
def FO:Q8:=210
def Gf:Q8:=211
def Ie:Q8:=212
def Pk:Q8:=213
def Da:Q8:=240
def Ni:Q8:=241
def Nq:Q8:=242
def DI:Q8:=268
def t_:Q7:=0
def BN:Q7:=3
def Tu:Q7:=4
def DZ:Q7:=5
def Ar:Q7:=9
def IU:Q7:=22
def Hm:Q7:=28
def GY:Q7:=29
def Dv:Q7:=30
def Cm:Q7:=32
def MF:Q7:=33
def Cj:Q7:=35
def EC:Q7:=37
def I4:Q7:=40
def Dq:Q7:=41
def Br:Q7:=43
def JD:Q7:=52
def EK:Q7:=53
def DR:Q7:=54
def Ap:Q7:=56
def DW:Q7:=58
def A7:Q7:=65
def Cu:Q7:=68
def Bp:Q7:=69
def BL:Q7:=74
def AU:Q7:=78
def Gu:Q7:=90
def Yh:Q7:=112
def AQ:Q7:=118
def Mm:Q7:=128
def uw:Q7:=136
def Bz:Q7:=142
def ZP:Q7:=144
def FV:Q7:=145
def EU:Q7:=146
def RZ:Q7:=148
def GN:Q7:=170
def AEA:Q7:=180
def Ao:Q7:=181
def Et:Q7:=183
def BF:Q7:=186
def Bw:Q7:=189
def Vs:Q7:=203
def Bb:Q7:=209
def Dx:Q7:=222
def RB:Q7:=224
def MK:Q7:=228
def Zx:Q7:=237
def ux:Q7:=239
def uy:Q7:=240
def Rv:Q7:=242
def nv:Q7:=246
def MS:Q7:=257
def A8:Q7:=260
def JJ:Q7:=279
def Dm:Q7:=290
def TV:Q7:=346
def EM:Q7:=353
def En:Q7:=355
def AD4:Q7:=378
theorem mixed:P.follows .mixedOrders=true:=by decide +kernel
end Go.Lf.G
namespace Go.Lf
theorem add_add(a:Q6)(m b:Nat):(a.add m).add b=a.add (m+b):=by
 unfold Addr.add;by_cases c:m=0
 ·subst c;simp
 ·by_cases d:b=0
  ·subst d;simp[c]
  ·have:m+b≠0:=by omega
   simp[c,d,GB]
theorem add_zero(a:Q6):a.add 0=a:=by simp[Addr.add]
theorem aN(a:Q6)(b:Nat):(a.add b).block=a.block:=by unfold Addr.add;split<;>rfl
theorem BZ(b c a:Nat):(⟨b,c,none⟩:Q6).add a=⟨b,c+a,none⟩:=by unfold Addr.add;by_cases d:a=0<;>simp[d]
structure Mod (S:Nat->Prop) (h h':aa):Prop where
 size:h.size<=h'.size
 get: ∀b,b<h.size-> ¬S b->h'[b]? =h[b]?
abbrev Ext:=Mod (λ_=>False)
theorem Mod.refl {b:Nat->Prop}{a:aa}:Mod b a a:=⟨A0 _,λ_ _ _=>rfl⟩
theorem Mod.trans {d:Nat->Prop}{e f g:aa}(a:Mod d e f)(b:Mod d f g):Mod d e g:=
 ⟨A5 a.size b.size,λc h i=>(b.get c (GC h a.size) i).trans (a.get c h i)⟩
theorem Mod.ai {e S':Nat->Prop}{d f:aa}(a:Mod e d f)(h: ∀b,b<d.size->e b->S' b):Mod S' d f:=⟨a.size,λc g i=>a.get c g λd=>i (h c g d)⟩
theorem Ext.mod {d:Nat->Prop}{b c:aa}(a:Ext b c):Mod d b c:=a.ai λ_ _ b=>b.elim
theorem Mod.then {e:Nat->Prop}{d f g:aa}(a:Mod e d f)(b:Mod (λc=>e c\/d.size<=c) f g):Mod e d g:=
 ⟨A5 a.size b.size,λc h i=>(b.get c (GC h a.size) (λd=>d.elim i (λd=>by omega))).trans (a.get c h i)⟩
theorem Mod.push {d:Nat->Prop}(a:aa)(e:Obj):Mod d a (a.push e):=
 ⟨by simp,λb c _=>by rw[PF c];simp[c]⟩
theorem Mod.af {c:Nat->Prop}{d e:aa}(a:Mod c d e){b:Nat}{f:Obj}(g:d[b]? =some f)(h: ¬c b):e[b]? =some f:=
 (a.get b (Array.getElem?_eq_some_iff.1 g).1 h).trans g
theorem Af {a:aa}{b:Nat}{c:Obj}(d:a[b]? =some c):b<a.size:=(Array.getElem?_eq_some_iff.1 d).1
theorem Ur {b:aa}{a:Q6}{v:J0}(c:ag b a=some v):a.block<b.size:=by
 unfold ag at c;cases d:b[a.block]? with
 |none=>rw[d] at c;cases c
 |some e=>exact Af d
theorem OZ {b c:aa}{a:Q6}(d:c[a.block]? =b[a.block]?):ag c a=ag b a:=by unfold ag;rw[d]
theorem Mod.ag {b:Nat->Prop}{c d:aa}(m:Mod b c d){a:Q6}{v:J0}(e:ag c a=some v)(f: ¬b a.block):Lf.ag d a=some v:=
 (OZ (m.get _ (Ur e) f)).trans e
theorem Ext.ag {b c:aa}(m:Ext b c){a:Q6}{v:J0}(d:Lf.ag b a=some v):Lf.ag c a=some v:=Mod.ag m d (λb=>b)
theorem Ha {a:aa}{b c:Nat}{d:Array J0}{T:Q7}{fr:Nat×Nat}(e:a[b]? =some (.cells d T fr)):ag a ⟨b,c,none⟩=d[c]? :=by simp[ag,e]
theorem O5 {a:aa}{b c:Nat}{d:Array J0}{T:Q7}(e:a[b]? =some (.cells d T (0,0))):fQ a ⟨b,c,none⟩=false:=by simp[fQ,e]
theorem ue {a:aa}{b c:Nat}{d:Array J0}{T:Q7}{fr:Nat×Nat}{v:J0}(e:a[b]? =some (.cells d T fr)):
  (cZ a ⟨b,c,none⟩ v)[b]? =some (.cells (d.setIfInBounds c v) T fr):=by
 simp[cZ,GO,e]
theorem AKg {b:aa}{a:Q6}{v:J0}{c:Nat}(d:c≠a.block):(cZ b a v)[c]? =b[c]? :=by simp[cZ,GO,Ne.symm d]
theorem Ze {b:aa}{a:Q6}{v:J0}:(cZ b a v).size=b.size:=by simp[cZ]
theorem Mod.set {S:Nat->Prop}{b:aa}{a:Q6}{v:J0}(c:S a.block):Mod S b (cZ b a v):=
 ⟨by rw[Ze];exact A0 _,λ_ _ d=>AKg (λe=>d (e▸c))⟩
theorem al.mk {a:aa}{c:Obj}{K:Nat->aa->Prop}(d: ∀b,b=a.push c->b[a.size]? =some c->Ext a b->b.size=a.size+1->K a.size b):al a c K:=
 d _ rfl (by simp) (Mod.push a c) (by simp)
theorem ab.mk {a:aa}{b c:Nat}{v:J0}{d:Array J0}{T:Q7}{K:aa->Prop}(f:a[b]? =some (.cells d T (0,0)))(g:c<d.size)
  (h: ∀e,e[b]? =some (.cells (d.setIfInBounds c v) T (0,0))->Mod (· =b) a e->e.size=a.size->K e):ab a ⟨b,c,none⟩ v K:=
 ⟨⟨d[c],by rw[Ha f];simp[g]⟩,O5 f,h _ (ue f) (Mod.set rfl) Ze⟩
theorem ae.intro {b:Bool}{a c:Prop}(d:b=true->a)(e:b=false->c):ae b a c:=by
 cases b
 ·exact e rfl
 ·exact d rfl
theorem ae.yes {b:Bool}{a c:Prop}(d:b=true)(e:a):ae b a c:=by subst d;exact e
theorem ae.no {b:Bool}{c a:Prop}(d:b=false)(e:a):ae b c a:=by subst d;exact e
theorem bG.mk {p:Q2}{len:Nat}{a:Q6}{k:Nat}{K:Q6->Prop}(b:p=some a)(d:k<len)(c:K a):bG p len (k:Int) K:=
 ⟨a,b,⟨by omega,by omega⟩,c⟩
theorem Yl.mk {b:Bool}{K:Prop}(a:b=true)(c:K):Yl b K:=by subst a;exact c
theorem ah.mk {a:Type}{b:a->aa->Prop}{body:(a->aa->Prop)->Prop}(d: ∀K:a->aa->Prop,(∀ x c,b x c->K x c)->body K):ah b body:=d
theorem EL.func {A:ak}{P:Q1}{f:Q8}{first bK args:Array J0}{h:aa}{R:A2O}
  (c:(callFunc f (first++args++bK)).calc P=some (.enter f (first++args++bK))) (d:AA A P f (first++args++bK) h R):EL A P (.func (.func f) first bK) args h R:=by
 intro a;have e:=JI c (A.at h a);have g:(do let b <-Deferred.ofValue (.func (.func f) first bK) args;invoke b.target b.args:Sem Next).run P (A.at h a)= .ok (.enter f (first++args++bK)) (A.at h a):=by simp only[Deferred.ofValue,Sem.run_bind,Sem.run_pure,Result.andThen_ok,invoke];exact e
 rw[g];exact d a
structure cy (α:Type) where
 enc:α->List J0
 w:Nat
 len: ∀x,(enc x).length=w
 pos:0<w
 one: ∀x v,v∈enc x->Kh v=true
variable {α : Type}
def Cells(c:aa)(a:Q6)(d:List J0):Prop:= ∀b v,d[b]? =some v->ag c (a.add b)=some v
theorem Cells.mod {b:Nat->Prop}{d e:aa}{a:Q6}{f:List J0}(c:Cells d a f)(m:Mod b d e)(g: ¬b a.block):Cells e a f:=
 λh v i=>m.ag (c h v i) (by rw[aN];exact g)
structure View (E:cy α) (h:aa) (s:Sl) (l:List α):Prop where
 len:s.len=l.length
 cap:s.len<=s.cap
 cells: ∀i x,l[i]? =some x-> ∃a,s.p=some a/\Cells h (a.add (i*E.w)) (E.enc x)
def Sl.af(s:Sl):Option Nat:=s.p.map (·.block)
theorem View.mod {c:cy α}{d:Nat->Prop}{e f:aa}{s:Sl}{l:List α}(v:View c e s l)(m:Mod d e f)(h: ∀b,s.af=some b-> ¬d b):View c f s l:=
 ⟨v.len,v.cap,λi x j=>let ⟨a,g,k⟩:=v.cells i x j;⟨a,g,k.mod m (by rw[aN];exact h _ (by simp[Sl.af,g]))⟩⟩
theorem View.ext {b:cy α}{a c:aa}{s:Sl}{l:List α}(v:View b a s l)(m:Ext a c):View b c s l:=v.mod m λ_ _ a=>a
theorem View.nil {b:cy α}{a:aa}:View b a ⟨none,0,0⟩ []:=⟨rfl,A0 _,λ_ _ a=>by simp at a⟩
theorem View.at {c:cy α}{d:aa}{s:Sl}{l:List α}(v:View c d s l){i:Nat}(e:i<l.length):
  ∃a,s.p=some a/\i<s.len/\ ∀b u,(c.enc l[i])[b]? =some u->ag d ((a.add (i*c.w)).add b)=some u:=
 let ⟨a,f,g⟩:=v.cells i l[i] (by simp[e])
 ⟨a,f,by rw[v.len];exact e,λb u h=>g b u h⟩
structure Own (E:cy α) (T:Q7) (h:aa) (s:Sl) (l:List α):Prop where
 len:s.len=l.length
 row:(s=⟨none,0,0⟩/\l= [])\/ ∃g cur,s.p=some ⟨g,0,none⟩/\h[g]? =some (.cells cur T (0,0))/\s.len<=s.cap/\s.cap<=maxLen/\cur.size=s.cap*E.w/\cur.toList.take (s.len*E.w)=l.flatMap E.enc
theorem Own.nil {a:cy α}{T:Q7}{b:aa}:Own a T b ⟨none,0,0⟩ []:=⟨rfl,.inl ⟨rfl,rfl⟩⟩
theorem dv {E:cy α}: ∀ {l:List α} {i:Nat} {x:α},l[i]? =some x-> ∀a v,(E.enc x)[a]? =some v->(l.flatMap E.enc)[i*E.w+a]? =some v
 | [],i,x,b,_,_,_=>by simp at b
 |y::l,0,x,b,a,v,c=>by
  simp at b;subst b;rw[AI,HL,AK,Fc (List.getElem?_eq_some_iff.1 c).1];exact c
 |y::l,i+1,x,b,a,v,c=>by
  have d:=dv (E:=E) (l:=l) (i:=i) (by simpa using b) a v c;rw[AI,DE (by rw[E.len,BW];omega),E.len];rw[show(i+1)*E.w+a-E.w=i*E.w+a by rw[BW];omega];exact d
theorem Jl {E:cy α}: ∀ {l:List α},(l.flatMap E.enc).length=l.length*E.w
 | []=>by simp
 |x::l=>by rw[AI,A1,Jl,E.len,A6,BW];omega
theorem Own.view {E:cy α}{T:Q7}{a:aa}{s:Sl}{l:List α}(b:Own E T a s l):View E a s l:=by
 rcases b.row with⟨rfl,rfl⟩|⟨g,m,c,d,e,_,n,f⟩
 ·exact View.nil
 ·refine⟨b.len,e,λi x h=>⟨_,c,λj v k=>?_⟩⟩;have:=dv (E:=E) h j v k;rw[<- f,E0] at this;split at this
  ·rw[add_add,BZ,Ha d];simpa using this
  ·cases this
theorem Own.mod {a:cy α}{T:Q7}{c:Nat->Prop}{d e:aa}{s:Sl}{l:List α}(f:Own a T d s l)(m:Mod c d e)(i: ∀b,s.af=some b-> ¬c b):Own a T e s l:=by
 refine⟨f.len,?_⟩;rcases f.row with j|⟨g,k,h,n,rest⟩
 ·exact .inl j
 ·exact .inr ⟨g,k,h,m.af n (i g (by simp[Sl.af,h])),rest⟩
theorem Own.ext {b:cy α}{T:Q7}{a c:aa}{s:Sl}{l:List α}(d:Own b T a s l)(m:Ext a c):Own b T c s l:=d.mod m λ_ _ a=>a
theorem Own.lit {E:cy α}{T:Q7}{c:aa}{b:Nat}{l:List α}{a:Array J0}(e:c[b]? =some (.cells a T (0,0)))(d:a.toList=l.flatMap E.enc)(f:l.length<=maxLen):
  Own E T c ⟨some ⟨b,0,none⟩,l.length,l.length⟩ l:=by
 have g:a.size=l.length*E.w:=by rw[<- DQ,d,Jl]
 exact⟨rfl,.inr ⟨b,a,rfl,e,A0 _,f,g,by rw[d];exact AE (by rw[Jl];exact A0 _)⟩⟩
def P7(P:Q1)(t T:Q7)(a b:Nat):Bool:=
 match P.underlying t with
 |some (.slice c)=>Nat.beq c T&&match P.info? T with
  |some i=>Nat.beq i.size a&&Nat.beq i.bytes b&&match i.zero with
   |some z=>Nat.beq z.cells.size a
   |none=>false
  |none=>false
 |_=>false
theorem Zy {P:Q1}{t T:Q7}{b c:Nat}(a:P7 P t T b c=true):
  P.underlying t=some (.slice T)/\ ∃i z,P.info? T=some i/\i.zero=some z/\i.size=b/\i.bytes=c/\z.cells.size=b:=by
 unfold P7 at a;split at a
 ·rename_i h d;split at a
  ·rename_i i e;split at a
   ·rename_i z f;simp only[A3,Nat.beq_eq] at a;obtain⟨rfl,⟨rfl,rfl⟩,g⟩:=a;exact⟨d,i,z,e,f,rfl,rfl,g⟩
   ·simp at a
  ·simp at a
 ·simp at a
theorem uf {A:ak}{b a:World}{h:aa}{n:Nat}(c:b=A.at h n)(d:a.os=b.os)(e:a.tape=b.tape)(f:a.output=b.output):a=A.at a.heap a.drawn:=by
 subst c;cases a;simp only[ak.at] at*
 simp[d,e,f]
theorem PI {v:J0}(a:Kh v=true):v.oneCell'=true:=by cases v<;>first|rfl|(simp[Kh] at a)
theorem Own.kJ {a:cy α}{T:Q7}{A:ak}{b:aa}{s:Sl}{l:List α}{n:Nat}(c:Own a T b s l):(A.at b n).ownsRow 0 T a.w (.slice s.p s.len s.cap) s.len (l.flatMap a.enc):=by
 refine⟨by rw[Jl,c.len],?_⟩;rcases c.row with⟨rfl,rfl⟩|⟨g,d,e,f,h,i,j,k⟩
 ·exact .inl ⟨rfl,rfl⟩
 ·exact .inr ⟨g,s.cap,d,by rw[e],AG _,f,h,i,j,k⟩
theorem AHv {a:cy α}{T:Q7}{c:World}{v:J0}{b:Nat}{l:List α}(d:c.ownsRow 0 T a.w v b (l.flatMap a.enc))(e:b=l.length):
  ∃s:Sl,v= .slice s.p s.len s.cap/\Own a T c.heap s l/\(v= .slice none 0 0->s=⟨none,0,0⟩):=by
 rcases d.2 with⟨rfl,p⟩|⟨g,f,h,rfl,_,i,j,k,m,n⟩
 ·have:l= []:=CD (by omega);subst this;exact⟨⟨none,0,0⟩,rfl,Own.nil,λ_=>rfl⟩
 ·refine⟨⟨some ⟨g,0,none⟩,b,f⟩,rfl,⟨e,.inr ⟨g,h,rfl,i,j,k,m,n⟩⟩,λo=>by cases o⟩
theorem Gd {A:ak}{P:Q1}{E:cy α}{t p T:Q7}{M:Nat}(am:P7 P t T E.w M=true){d:aa}{s src:Sl}{l m:List α}{K:Sl->aa->Prop}
  (h:Own E T d s l) (N:View E d src m) (j:(l.length+m.length)*M<=140737488355328) (W:l.length+m.length<=maxLen)
  (X: ∀f B,Own E T B f (l++m)->Mod (λb=>s.af=some b) d B->(∀ b,f.af=some b->s.af=some b\/d.size<=b)->(f.p=none↔s.p=none/\m= [])->K f B):
  BB A P (Builtin.append_ #[t,t] p #[.slice s.p s.len s.cap,.slice src.p src.len src.cap]) d λv B=> ∃f:Sl,v= .slice f.p f.len f.cap/\K f B:=by
 obtain⟨q,i,z,r,O,G,hB,an⟩:=Zy am;intro n;have Q:=N.len;by_cases R:m= []
 ·subst R;simp only[FG,AN,Gk] at*
  have ao:(Builtin.append_ #[t,t] p #[.slice s.p s.len s.cap,.slice src.p src.len src.cap]).run P (A.at d n)= .ok (.slice s.p s.len s.cap) (A.at d n):=by
   have S:s.len<=s.cap:=h.view.cap;have w: ∀U:World,(Builtin.firstCells i.size 0 (.slice src.p 0 src.cap)).run P U= .ok #[] U:=by intro U;cases src.p<;>simp[Builtin.firstCells,loadCells,loadCellsFrom]
   cases o:s.p with
   |none=>simp[Builtin.append_,A9 q,run_sizeOf r,Builtin.lenOf,Q,S,w]
   |some a=>simp[Builtin.append_,A9 q,run_sizeOf r,Builtin.lenOf,Q,S,w,storeCells]
  exact⟨_,d,n,ao,s,rfl,X s d h Mod.refl (λb j=> .inl j) (by simp)⟩
 ·have Y:0<m.length:=List.length_pos_iff.2 R;obtain⟨a,Z,_⟩:=N.cells 0 m[0] (by simp[Y]);have H: ∀e u,(m.flatMap E.enc)[e]? =some u->(A.at d n).cell? (a.add e)=some u:=by
   intro e u ab;have ap:e<m.length*E.w:=by rw[<- Jl (E:=E)];exact(List.getElem?_eq_some_iff.1 ab).1
   have aq:e / E.w<m.length:=Nat.div_lt_of_lt_mul (by rw[Ds];exact ap);have k:e % E.w<E.w:=CM _ E.pos;have I:m[e / E.w]? =some m[e / E.w]:=by simp[aq]
   have ac:e % E.w<(E.enc m[e / E.w]).length:=by rw[E.len];exact k
   have w:=dv (E:=E) I (e % E.w) _ (A2 ac);have ad:e / E.w*E.w+e % E.w=e:=Nat.div_add_mod' e E.w;rw[ad,ab] at w;obtain⟨aF,ae,ar⟩:=N.cells _ _ I;rw[Z] at ae;cases ae;have:=ar (e % E.w) _ (A2 ac);rw[add_add,ad] at this;rw[BY] at w;rw[w];exact this
  have J: ∀u∈m.flatMap E.enc,u.oneCell'=true:=by intro u au;obtain⟨x,_,I⟩:=List.mem_flatMap.1 au;exact PI (E.one x u I)
  obtain⟨af,y,k,ag,C,aG⟩:=run_append_own (P:=P) (A.at d n) 0 t p T i z E.w M q r O G hB an E.pos (.slice s.p s.len s.cap) s.len (l.flatMap E.enc) h.kJ a m.length src.cap (m.flatMap E.enc)
   (by rw[Jl]) H J (by rw[h.len];exact W) (by rw[h.len];exact j) (AG _)
  rw[<- FF] at ag;obtain⟨f,V,av,aH⟩:=AHv ag (by rw[h.len,A1]);have aw:y=A.at y.heap y.drawn:=uf rfl C.os C.tape C.output;have L:(m.flatMap E.enc).length=m.length*i.size:=by rw[Jl,G]
  have ah:((s.len+m.length:Nat):Int)<=9223372036854775807:=by have:=W;simp only[maxLen] at this;rw[h.len];omega
  have ai:(s.len+m.length)*i.bytes<=140737488355328:=by rw[h.len,hB];exact j
  have ax: ∃g c,af= .slice (some ⟨g,0,none⟩) (s.len+m.length) c/\(s.af=some g\/g=d.size):=by
   rcases h.row with⟨rfl,rfl⟩|⟨g,ay,o,az,S,aI,aA,aJ⟩
   ·have D:=run_append_nil (P:=P) (A.at d n) t p T i z q r O a m.length src.cap (m.flatMap E.enc) L H Y (by simpa using ah) (by have:=ai;simp only[AK] at this;omega);rw[D] at k;cases k;exact⟨d.size,_,by rw[AK];rfl,.inr rfl⟩
   ·by_cases aj:s.len+m.length<=s.cap
    ·have D:=run_append_room (P:=P) (A.at d n) t p T i q r g s.len s.cap ay az a m.length src.cap (m.flatMap E.enc) L H J aj (by rw[L,aA,<-G,<-BW];exact AS _ aj);rw[o,D] at k;cases k;exact⟨g,_,rfl,.inl (by simp[Sl.af,o])⟩
    ·have D:=run_append_grow (P:=P) (A.at d n) t p T i z q r O ⟨g,0,none⟩ s.len s.cap (l.flatMap E.enc) (by rw[Jl,h.len,G])
      (h.kJ (A:=A) (n:=n) |>.cells (g:=g) (by simp[Value.ownBlock,o])) a m.length src.cap (m.flatMap E.enc) L H (by omega) ah (growslice_fits (by omega) ai)
     rw[o,D] at k;cases k;exact⟨d.size,_,rfl,.inr rfl⟩
  obtain⟨g,c,aC,aD⟩:=ax;have al:f.p=some ⟨g,0,none⟩:=by rw[aC] at V;injection V with J _ _;exact J.symm
  refine⟨af,y.heap,y.drawn,?_,f,V,X f y.heap av ⟨C.size,?_⟩ ?_ ?_⟩
  ·rw[Z,Q,<-aw];exact k
  ·intro b j aE;refine C.block b j ?_;intro F;apply aE;unfold Sl.af;cases o:s.p with
   |none=>rw[o] at F;simp[Value.ownBlock] at F
   |some a=>rw[o] at F;simp[Value.ownBlock] at F;simp[F]
  ·intro b j;simp[Sl.af,al] at j;subst j;rcases aD with d|d
   ·exact .inl d
   ·exact .inr (by omega)
  ·rw[al];simp[R]
theorem Loop.rule {b:Type}{g:(b->aa->Prop)->b->aa->Prop}(d:Nat->b->aa->Prop)
  (step: ∀K m x a,d m x a->(∀ c e f,c<m->d c e f->K e f)->g K x a) {m:Nat} {x:b} {a:aa} (h:d m x a):Loop g x a:=by
 intro K i
 induction m using Nat.strongRecOn generalizing x a with
 |_ m j=>exact i _ _ (step K m x a h λc e f k l=>j c k l)
theorem Fu {a:Nat}(c:a<=9223372036854775807):J8 J9 (a:Int)=(a:Int):=by
 simp only[J8,IntKind.bits,IntKind.signed];have b:((a:Int)) % ((2:Int)^64)=a:=by omega
 have d: ¬((a:Int)>=(2:Int)^(64-1)):=by omega
 simp only[b];simp;omega
theorem AZ {a:Nat}(b:a<9223372036854775807):J8 J9 ((a:Int)+(1:Int))=((a+1:Nat):Int):=by rw[show((a:Int)+1)=((a+1:Nat):Int) by omega];exact Fu b
theorem R6.mk {b:aa}{a:Q6}{K:J0->Prop}{v:J0}(c:ag b a=some v)(d:K v):R6 b a K:=⟨v,c,d⟩
theorem AC.mk {b:aa}{a:Q6}{k:IntKind}{K:Int->Prop}{n:Int}(c:ag b a=some (.int k n))(d:K n):AC k b a K:=⟨n,c,d⟩
theorem Ac.mk {b:aa}{a:Q6}{K:Bool->Prop}{n:Bool}(c:ag b a=some (J3 n))(d:K n):Ac b a K:=⟨n,c,d⟩
theorem AJ.mk {b:aa}{a:Q6}{K:A2P->Prop}{n:A2P}(c:ag b a=some (J7 n))(d:K n):AJ b a K:=⟨n,c,d⟩
theorem Ab.mk {b:aa}{a:Q6}{K:Q2->Prop}{n:Q2}(c:ag b a=some (J5 n))(d:K n):Ab b a K:=⟨n,c,d⟩
theorem AY.mk {b:aa}{a:Q6}{K:Sl->Prop}{s:Sl}(c:ag b a=some (J4 s.p s.len s.cap))(d:K s):AY b a K:=⟨s,c,d⟩
theorem AL {a:aa}{b c:Nat}{d:Array J0}{T:Q7}{fr:Nat×Nat}{v:J0}(e:a[b]? =some (J2 d T fr))(f:d[c]? =some v):ag a ⟨b,c,none⟩=some v:=by rw[Ha e];exact f
theorem AB {a:aa}{b c:Nat}{d:Array J0}{T:Q7}{fr:Nat×Nat}{v:J0}(e:a[b]? =some (J2 d T fr))(f:d[c]? =some v):ag a ((⟨b,0,none⟩:Q6).add c)=some v:=by rw[BZ,AK];exact AL e f
structure Pr where
 key:A2P
 val:A2P
 gone:Bool
deriving DecidableEq
def Pr.agg(x:Pr):J0:= .agg #[J7 x.key,J7 x.val,J3 x.gone]
def Pr.cells(x:Pr):Array J0:= #[J7 x.key,J7 x.val,J3 x.gone]
def BR:cy Pr where
 enc x:= [J7 x.key,J7 x.val,J3 x.gone]
 w:=3
 len _:=rfl
 pos:=by omega
 one x v a:=by simp at a;rcases a with rfl|rfl|rfl<;>rfl
def fZ:cy Sl where
 enc s:= [J4 s.p s.len s.cap]
 w:=1
 len _:=rfl
 pos:=by omega
 one x v a:=by simp at a;subst a;rfl
structure gR where
 v:J0
 one:Kh v=true
def jw:cy gR where
 enc s:= [s.v]
 w:=1
 len _:=rfl
 pos:=by omega
 one x v a:=by simp at a;subst a;exact x.one
theorem View.idx {b:Type}{c:cy b}{d:aa}{s:Sl}{l:List b}(v:View c d s l){i:Nat}{x:b}(e:l[i]? =some x){K:Q6->Prop}
  (g: ∀a,s.p=some a->Cells d (a.add (i*c.w)) (c.enc x)->K a):bG s.p s.len ((i:Nat):Int) K:=by
 obtain⟨a,f,h⟩:=v.cells i x e;have:i<s.len:=by rw[v.len];exact(List.getElem?_eq_some_iff.1 e).1
 exact bG.mk f this (g a f h)
theorem Cells.pair {b:aa}{a:Q6}{x:Pr}(c:Cells b a (BR.enc x)):ag b a=some (J7 x.key)/\ag b (a.add 1)=some (J7 x.val)/\ag b (a.add 2)=some (J3 x.gone):=by have d:=c 0 _ rfl;rw[add_zero] at d;exact⟨d,c 1 _ rfl,c 2 _ rfl⟩
theorem Cells.sl {b:aa}{a:Q6}{x:Sl}(c:Cells b a (fZ.enc x)):ag b a=some (J4 x.p x.len x.cap):=by have d:=c 0 _ rfl;rwa [add_zero] at d
theorem Cells.val {b:aa}{a:Q6}{x:gR}(c:Cells b a (jw.enc x)):ag b a=some x.v:=by have d:=c 0 _ rfl;rwa [add_zero] at d
theorem al.pair {a:aa}{T:Q7}{j k:A2P}{l:Bool}{d v:A2P}{g:Bool}{K:Nat->aa->Prop}
  (n: ∀b c,b=a.size->c[b]? =some (J2 #[J7 d,J7 v,J3 g] T (0,0))->Ext a c->c.size=a.size+1->K b c):
  al a (J2 #[J7 j,J7 k,J3 l] T) λb e=>ab e ⟨b,0,none⟩ (J7 d) λf=>ab f ((⟨b,0,none⟩:Q6).add 1) (J7 v) λh=>ab h ((⟨b,0,none⟩:Q6).add 2) (J3 g) λi=>K b i:=by
 refine al.mk λe _ o p y=>?_
 refine ab.mk o (by simp) λf q r z=>?_
 rw[BZ,BZ];refine ab.mk q (by simp) λh s t A=>?_
 refine ab.mk s (by simp) λi u w B=>?_
 refine n _ _ rfl (by simpa using u) ?_ (by omega);have m:=(r.trans t).trans w;exact⟨by omega,λb x _=>(m.get b (by omega) (by omega)).trans (p.get b x (by simp))⟩
theorem al.aZ {k:ak}{P:Q1}{t m T:Q7}{g:Nat}{e:Type}{E:cy e}{x:e}{h:Array J0}(n:h.toList=E.enc x)(o:P7 P t T E.w g=true){d:aa}{s:Sl}{l:List e}{K:Sl->aa->Prop}
  (p:Own E T d s l) (q:(l.length+1)*g<=140737488355328) (r:l.length+1<=maxLen)
  (u: ∀a c,Own E T c a (l++ [x])->Mod (λb=>s.af=some b) d c->(∀ b,a.af=some b->s.af=some b\/d.size<=b)->a.p≠none->K a c):
  al d (J2 h T) λb f=>BB k P (Builtin.append_ #[t,t] m #[J4 s.p s.len s.cap,J4 (some ⟨b,0,none⟩) 1 1]) f λv c=> ∃a:Sl,v=J4 a.p a.len a.cap/\K a c:=by
 refine al.mk λf _ w i G=>?_
 have y:Own E T f ⟨some ⟨d.size,0,none⟩,1,1⟩ [x]:=Own.lit (E:=E) (l:= [x]) w (by simp[n]) (by simp[maxLen]);refine Gd (s:=s) (src:=⟨some ⟨d.size,0,none⟩,1,1⟩) o (p.ext i) y.view (by simpa using q) (by simpa using r) λa c z A B C=>?_
 refine u a c z ?_ ?_ ?_
 ·exact i.mod.trans A
 ·intro b D;rcases B b D with j|j
  ·exact .inl j
  ·exact .inr (by omega)
 ·intro F;have:=(C.1 F).2;simp at this
theorem View.sub {d:Type}{b:cy d}{e:aa}{s:Sl}{l:List d}(v:View b e s l){lo hi:Nat}(h:lo<=hi)(j:hi<=l.length):
  View b e ⟨Ay s.p s.cap lo b.w,hi-lo,s.cap-lo⟩ ((l.take hi).drop lo):=by
 have k:=v.cap;have m:=v.len;refine⟨by simp;omega,by simp;omega,λi x c=>?_⟩;rw[Bm,E0] at c;split at c
 ·rename_i n;obtain⟨a,f,g⟩:=v.cells _ _ c;refine⟨a.add (lo*b.w),?_,?_⟩
  ·unfold Ay;simp only[f];rw[if_neg (by omega)];rfl
  ·rw[add_add,<-BW];exact g
 ·cases c
theorem Uz {p:Q2}{e f g:Nat}{b:Nat}{len c:Nat}(d:Sl.af ⟨Ay p e f g,len,c⟩=some b):p.map (·.block)=some b:=by
 unfold Sl.af Ay at d;simp only at d;split at d
 ·exact d
 ·cases p with
  |none=>simp at d
  |some a=>simp[aN] at d;simp[d]
def Yields(h:ak)(P:Q1)(j:J0)(l:List Pr)(d:Nat->Bool->(Nat->Prop)->aa->Prop):Prop:=
 ∀i x c a,l[i]? =some x->d i true c a->EL h P j #[x.agg] a λv e=> ∃g f,v=J3 g/\(∀ b,f b->c b\/a.size<=b)/\Mod c a e/\d (i+1) g f e
structure Body (h:aa) (J:Nat->Bool->(Nat->Prop)->aa->Prop):Prop where
 wf: ∀i g O hh,J i g O hh-> ∀b,O b->b<hh.size
 bg: ∀i g O hh h',J i g O hh->Mod (λb=>¬O b/\h.size<=b) hh h'->J i g O h'
def EJ(k:ak)(P:Q1)(fv:J0)(j:Nat->Prop)(m:aa)(l:List Pr):Prop:=
 (∀ b,j b->b<m.size)/\ ∃f d,fv= .func (.func f) #[] d/\(∀ a,(callFunc f (#[]++ #[a]++d)).calc P=some (.enter f (#[]++ #[a]++d)))/\
  ∀(c:aa),(∀ b,j b->c[b]? =m[b]?)-> ∀a e h,Kh a=true->(∀ b,j b-> ¬h b)->Body c e->Yields k P a l e->e 0 true h c->
   AA k P f (#[]++ #[a]++d) c λv n=>v=J1 #[]/\ ∃i g o,Mod h c n/\(∀ b,o b->h b\/c.size<=b)/\e i g o n/\(g=true->i=l.length)/\i<=l.length
theorem EJ.ai {e:ak}{P:Q1}{fv:J0}{c S':Nat->Prop}{g d:aa}{l:List Pr}(i:EJ e P fv c g l)(h: ∀b,c b->S' b)(j: ∀b,S' b->b<d.size)(k: ∀b,c b->d[b]? =g[b]?):EJ e P fv S' d l:=by obtain⟨_,f,m,n,o,p⟩:=i;refine⟨j,f,m,n,o,λq r s t u v hd=>p q (λb a=>(r b (h b a)).trans (k b a)) s t u v λb a=>hd b (h b a)⟩
theorem EJ.one {a:ak}{P:Q1}{fv:J0}{b:Nat->Prop}{c:aa}{l:List Pr}(d:EJ a P fv b c l):Kh fv=true/\ie fv/\Tz fv=false:=by obtain⟨_,f,e,rfl,_⟩:=d;exact⟨rfl,by simp[ie],rfl⟩
def ug(x:Pr):im [.agg [.str,.str,.bool]]:=((x.key,x.val,x.gone,()),())
def uh(l:Nat)(rec:Go.Loop)(c:aa)(d:Nat->Prop)(f:(Nat->Prop)->aa->Prop)(a:aa):Prop:=
 ∃e,(∀ b,e b->d b\/c.size<=b)/\Mod (λb=>d b\/b=l) c a/\a[l]? =some (.loop {rec with state:= .busy})/\f e a
theorem Mod.setObj {S:Nat->Prop}{a:aa}{l:Nat}{c:Obj}(d:S l):Mod S a (a.setIfInBounds l c):=
 ⟨by simp,λb _ e=>by rw[DS];intro f;exact e (f▸d)⟩
theorem CQ {a:aa}{l:Nat}{b:Obj}(c:l<a.size):(a.setIfInBounds l b)[l]? =some b:=by simp[c]
theorem XE {O:ak}{P:Q1}{fv:J0}{F:Nat->Prop}{Q a:aa}{l:List Pr}(ah:EJ O P fv F Q l)(R: ∀b,F b->a[b]? =Q[b]?)
  (Inv:Nat->Option (Option Nat)->(Nat->Prop)->aa->Prop) (n:Nat->Prop) (hd: ∀b,F b-> ¬n b)
  {body:im [.agg [.str,.str,.bool]]->Nat->aa->(aa->Prop)->(Option Nat->aa->Prop)->Prop} {S:aa->Prop} {T:Option Nat->aa->Prop}
  (wf: ∀i c n j,Inv i c n j-> ∀b,n b->b<j.size)
  (z: ∀i c n j k,Inv i c n j->Mod (λb=>¬n b/\a.size<=b) j k->Inv i c n k)
  (U:Inv 0 none n a)
  (round: ∀i x m j rec V W,l[i]? =some x->Inv i none m j-> ¬m (a.size+1)->a.size+1<j.size->j[a.size+1]? =some (.loop rec)->rec.state= .ready->
   (∀ k,uh (a.size+1) rec j m (Inv (i+1) none) k->V k)->(∀ o k,uh (a.size+1) rec j m (Inv (i+1) (some o)) k->W o k)->body (ug x) (a.size+1) j V W)
  (ai: ∀r k,Inv l.length none r k->Mod n a k-> ¬r a.size->(∀ b,r b->n b\/a.size<=b)->k[a.size]? =some (.deferred (some []))->S k)
  (aj: ∀i o r k,Inv i (some o) r k->i<=l.length->Mod n a k-> ¬r a.size->(∀ b,r b->n b\/a.size<=b)->k[a.size]? =some (.deferred (some []))->T o k):
  Wo O P fv [.agg [.str,.str,.bool]] body a S T:=by
 intro rec G H az al;obtain⟨am,f,X,rfl,an,ao⟩:=ah;have Y: ∀b,n b->b<a.size:=wf _ _ _ _ U;have Z: ∀b,F b->b<a.size:=λb e=>by
  have:=R b e;rw[CH (am b e)] at this;exact Af this
 have I:Ext a ((a.push (.deferred (some []))).push (.loop rec)):=(Mod.push a _).trans (Mod.push _ _);have aA:((a.push (.deferred (some []))).push (.loop rec)).size=a.size+2:=by simp
 refine⟨f,_,?_,AA.mono (ao ((a.push (.deferred (some []))).push (.loop rec)) (λb e=>(I.get b (Z b e) (by simp)).trans (R b e)) (.func (.yield (a.size+1)) #[] #[])
  (λi g D j=> ∃m:Nat->Prop,(∀ b,D b↔m b\/b=a.size\/b=a.size+1)/\ ¬m a.size/\ ¬m (a.size+1)/\(∀ b,m b->n b\/a.size<=b)/\a.size+2<=j.size/\j[a.size]? =some (.deferred (some []))/\
   match g with
   |true=>j[a.size+1]? =some (.loop rec)/\Inv i none m j
   |false=> ∃o y,j[a.size+1]? =some (.loop y)/\y.state≠ .busy/\y.pending=some (Zc o)/\Inv i (some o) m j)
  (λb=>n b\/b=a.size\/b=a.size+1) rfl ?_ ?_ ?_ ?_) ?_⟩
 ·have ap:(do let ab <-Deferred.ofValue (.func (.func f) #[] X) #[.func (.yield (a.size+1)) #[] #[]];invoke ab.target ab.args:Sem Next).calc P=(callFunc f (#[]++ #[.func (.yield (a.size+1)) #[] #[]]++X)).calc P:=rfl;unfold Vj;rw[ap,an]
 ·intro b e d;have:=Z b e;rcases d with d|d|d
  ·exact hd b e d
  ·omega
  ·omega
 ·constructor
  ·rintro i g D j ⟨m,p,_,_,_,J,_,t⟩ b e;rcases(p b).1 e with d|d|d
   ·cases g
    ·obtain⟨o,y,_,_,_,A⟩:=t;exact wf _ _ _ _ A b d
    ·exact wf _ _ _ _ t.2 b d
   ·omega
   ·omega
  ·rintro i g D j k ⟨m,p,w,u,B,J,C,t⟩ q;have ac:Mod (λb=>¬m b/\a.size<=b) j k:=q.ai λb _ e=>⟨λd=>e.1 ((p b).2 (.inl d)),by omega⟩
   have aq:k[a.size]? =j[a.size]? :=q.get _ (by omega) λe=>e.1 ((p _).2 (.inr (.inl rfl)))
   have ad:k[a.size+1]? =j[a.size+1]? :=q.get _ (by omega) λe=>e.1 ((p _).2 (.inr (.inr rfl)))
   refine⟨m,p,w,u,B,by have:=q.size;omega,aq.trans C,?_⟩;cases g
   ·obtain⟨o,y,d,h,K,A⟩:=t;exact⟨o,y,ad.trans d,h,K,z _ _ _ _ _ A ac⟩
   ·exact⟨ad.trans t.1,z _ _ _ _ _ t.2 ac⟩
 ·rintro i x D j ar ⟨m,p,w,u,B,J,C,ae,A⟩;refine al (ug x) j _ ae (round i x m j rec _ _ ar A u (by omega) ae G ?_ ?_)
  ·rintro k ⟨r,s,q,L,M⟩;have N:a.size+1<k.size:=by have:=q.size;omega
   refine⟨_,L,true,λb=>r b\/b=a.size\/b=a.size+1,rfl,?_,?_,r,λ_=>DB,?_,?_,?_,?_,?_,?_,?_⟩
   ·rintro b (e|e)
    ·rcases s b e with d|d
     ·exact .inl ((p b).2 (.inl d))
     ·exact .inr d
    ·exact .inl ((p b).2 (.inr e))
   ·refine(q.trans (Mod.setObj (.inr rfl))).ai λb _ e=>(p b).2 (e.elim .inl λd=> .inr (.inr d))
   ·intro d;rcases s _ d with h|h
    ·exact w h
    ·omega
   ·intro d;rcases s _ d with h|h
    ·exact u h
    ·omega
   ·intro b e;rcases s _ e with h|h
    ·exact B _ h
    ·exact .inr (by omega)
   ·simp;omega
   ·rw[DS (by omega)];exact(q.get _ (by omega) (by rintro(d|d);exact w d;omega)).trans C
   ·rw[CQ N];cases rec;simp at G H;simp[G,H]
   ·refine z _ _ _ _ _ M (Mod.setObj ⟨?_,by omega⟩);intro d;rcases s _ d with h|h
    ·exact u h
    ·omega
  ·rintro o k ⟨r,s,q,L,M⟩;have N:a.size+1<k.size:=by have:=q.size;omega
   refine⟨_,L,false,λb=>r b\/b=a.size\/b=a.size+1,rfl,?_,?_,r,λ_=>DB,?_,?_,?_,?_,?_,o,{rec with state:= .done,pending:=some (Zc o)},?_,?_,rfl,?_⟩
   ·rintro b (e|e)
    ·rcases s b e with d|d
     ·exact .inl ((p b).2 (.inl d))
     ·exact .inr d
    ·exact .inl ((p b).2 (.inr e))
   ·refine(q.trans (Mod.setObj (.inr rfl))).ai λb _ e=>(p b).2 (e.elim .inl λd=> .inr (.inr d))
   ·intro d;rcases s _ d with h|h
    ·exact w h
    ·omega
   ·intro d;rcases s _ d with h|h
    ·exact u h
    ·omega
   ·intro b e;rcases s _ e with h|h
    ·exact B _ h
    ·exact .inr (by omega)
   ·simp;omega
   ·rw[DS (by omega)];exact(q.get _ (by omega) (by rintro(d|d);exact w d;omega)).trans C
   ·exact CQ N
   ·simp
   ·refine z _ _ _ _ _ M (Mod.setObj ⟨?_,by omega⟩);intro d;rcases s _ d with h|h
    ·exact u h
    ·omega
 ·refine⟨n,λ_=>DB,λd=>?_,λd=>?_,λb e=> .inl e,by omega,?_,?_⟩;rotate_left 2
  ·rw[PF (by simp)];simp
  ·exact⟨by have au:a.size+1=(a.push (.deferred (some []))).size:=(by simp);rw[au];exact PJ,z _ _ _ _ _ U I.mod⟩
  ·have:=Y _ d;omega
  ·have:=Y _ d;omega
 ·rintro v h ⟨_,i,g,D,q,aC,⟨m,p,w,u,B,J,C,t⟩,av,aw⟩;have af: ∀E,Mod n a (h.setIfInBounds (a.size+1) (.loop E)):=λE=>by
   refine⟨by simp;omega,λb e ax=>?_⟩;rw[DS (by omega)];exact(q.get b (by omega) (by rintro(d|d|d);exact ax d;omega;omega)).trans (I.get b e (by simp))
  have ag: ∀E,(h.setIfInBounds (a.size+1) (.loop E))[a.size]? =some (.deferred (some [])):=λE=>by
   rw[DS (by omega)];exact C
  cases g
  ·obtain⟨o,y,d,K,ay,A⟩:=t;exact⟨y,d,K,.inr ⟨o,ay,aj i o m _ (z _ _ _ _ _ A (Mod.setObj ⟨u,by omega⟩)) aw (af _) w B (ag _)⟩⟩
  ·refine⟨rec,t.1,by simp[G],.inl ⟨H,ai m _ ?_ (af _) w B (ag _)⟩⟩;have:=av rfl;subst this;exact z _ _ _ _ _ t.2 (Mod.setObj ⟨u,by omega⟩)
open Go Ieee
abbrev fD:Format:=Ieee.double
theorem AKh(s:Bool)(m u v:Nat):signed s m (u+v)=signed s m u*(2:Int)^v:=by
 unfold signed;rw[Of,Of,GW,<-G3];split
 ·push_cast;rw[SD]
 ·push_cast;rfl
def DV(b:Datum)(c:Int):Prop:= ∃s m,∃a:Nat,b= .number s m (-(a:Int))/\signed s m 0=c*(2:Int)^a
def VR(b:Nat)(a:Int):Prop:=DV (fD.read b) a
theorem Nw(s:Bool)(m u:Nat):signed s m u=signed s m 0*(2:Int)^u:=by have:=AKh s m 0 u;rwa [AK] at this
theorem pow_pos(a:Nat):(0:Int)<(2:Int)^a:=Int.pow_pos (by decide)
theorem AHa(a b:Int)(c:Nat):compare (a*(2:Int)^c) (b*(2:Int)^c)=compare a b:=by have d:=pow_pos c;simp only[compare,compareOfLessAndEq];have e:(a*2^c<b*2^c)↔a<b:=Int.mul_lt_mul_right d;have f:(a*2^c=b*2^c)↔a=b:=Int.mul_eq_mul_right_iff (by omega);by_cases g:a<b<;>by_cases h:a=b<;>simp[e,f,g,h]
theorem DV.order {x d:Datum}{e m:Int}(f:DV x e)(h:DV d m):x.order d=some (compare e m):=by
 obtain⟨s,a,c,rfl,i⟩:=f;obtain⟨t,b,l,rfl,g⟩:=h;simp only[Datum.order];congr 1;have j:(-(c:Int)-min (-(c:Int)) (-(l:Int))).toNat=max c l-c:=by omega
 have k:(-(l:Int)-min (-(c:Int)) (-(l:Int))).toNat=max c l-l:=by omega
 rw[j,k,Nw s,Nw t,i,g,I0,I0,<-I2,<-I2,show c+(max c l-c)=max c l by omega,show l+(max c l-l)=max c l by omega,AHa]
theorem VR.order {x a:Nat}{b m:Int}(c:VR x b)(d:VR a m):fD.order x a=some (compare b m):=DV.order c d
theorem cmp_eq {a m:Int}:(compare a m= .eq)↔a=m:=by simp only[compare,compareOfLessAndEq];by_cases b:a<m<;>by_cases c:a=m<;>simp[b,c]<;>omega
theorem wN(b:Bool){a:Nat}(c:a<fD.signWeight):
  fD.read (fD.word b a)=if a<fD.binade then .number b a fD.leastPlace else if a<fD.infRung then .number b (fD.binade+a % fD.binade) (fD.leastPlace+(a / fD.binade-1:Nat)) else if a=fD.infRung then .infinity b else .nan b (a-fD.infRung):=by
 have d:0<fD.signWeight:=HC _;have e:(fD.word b a / fD.signWeight % 2==1)=b:=by
  unfold Format.word;cases b
  ·simp[Nat.div_eq_of_lt c]
  ·simp[Nat.add_div_left _ d,Nat.div_eq_of_lt c]
 have f:fD.word b a % fD.signWeight=a:=by
  unfold Format.word;cases b
  ·simp[Ax c]
  ·simp[Ax c]
 unfold Format.read;simp only[e,f]
theorem wO(s:Bool)(u:Nat):signed s 0 u=0:=by cases s<;>simp[signed]
theorem nR:fD.binade=4503599627370496:=by decide
theorem qH:fD.infRung=9218868437227405312:=by decide
theorem wP:fD.signWeight=9223372036854775808:=by decide
theorem lN:fD.leastPlace= -1074:=by decide
theorem ATX:fD.fractionBits=52:=rfl
theorem AQv(a:Bool):VR (fD.word a 0) 0:=by refine⟨a,0,1074,?_,by rw[wO,Int.zero_mul]⟩;rw[wN a (by rw[wP];decide),if_pos (by rw[nR];decide),lN];rfl
theorem Xi {v:Nat}(f:0<v)(K:Nat):(v*2^K).log2=v.log2+K:=by
 have a:v≠0:=by omega
 have c:0<2^K:=HC K;have b:v*2^K≠0:=Nat.mul_ne_zero a (by omega);have d:2^v.log2<=v:=(SJ a).1 (A0 _);have e:v<2^(v.log2+1):=(On a).1 (HK _);have g:v.log2+K<=(v*2^K).log2:=by rw[SJ b,GW];exact AS _ d
 have h:(v*2^K).log2<v.log2+1+K:=by rw[On b,GW];exact SM e c
 omega
theorem APl(b:Bool)(a:Nat):Toward.even.cut b a 0=a:=by simp[Toward.cut,Nat.mod_one]
theorem AM0(b:Toward)(c:Bool){M a:Nat}(d:0<M):b.cut c (M*2^a) a=M:=by
 unfold Toward.cut;have hd:min a ((M*2^a).log2+2)=a:=by rw[Xi d];omega
 have e:0<2^a:=HC a;simp only[hd,Nat.one_shiftLeft,Nat.mul_mod_left,Nat.mul_div_cancel _ e];cases b
 ·have f: ¬(2^a=0):=by omega
  simp[f]
 all_goals simp
theorem APB {L M:Nat}(a:L<=52)(b:M<9007199254740992):min ((L+1022)*4503599627370496+M) 9218868437227405312=(L+1022)*4503599627370496+M:=by omega
theorem ASL {L M:Nat}(a:4503599627370496<=M): ¬(L+1022)*4503599627370496+M<4503599627370496:=by omega
theorem ASW {L M:Nat}(a:L<=52)(b:M<9007199254740992):(L+1022)*4503599627370496+M<9218868437227405312:=by omega
theorem wQ {L M:Nat}(a:4503599627370496<=M)(b:M<9007199254740992):((L+1022)*4503599627370496+M) % 4503599627370496=M-4503599627370496/\((L+1022)*4503599627370496+M) / 4503599627370496=L+1023:=by omega
theorem ASO {M:Nat}(a:4503599627370496<=M):4503599627370496+(M-4503599627370496)=M:=by omega
theorem ASd {L:Nat}(a:L<=52):(-1074:Int)+((L+1023-1:Nat):Int)=(L:Int)-52:=by omega
theorem AS2 {L:Nat}(a:L<=52):(L:Int)-52= -((52-L:Nat):Int):=by omega
theorem ASf {L M:Nat}(a:L<=52)(b:M<9007199254740992):(L+1022)*4503599627370496+M<9223372036854775808:=by omega
theorem AEW(a:Bool){v K:Nat}(i:0<v)(j:v<9007199254740992):VR (fD.nearest a (v*2^K) (-(K:Int))) (if a then -(v:Int) else v):=by
 have e:v≠0:=by omega
 have k:=Xi i K;have b:v.log2<=52:=by have:v.log2<53:=(On e).2 (by simpa using j);omega
 have l:2^v.log2<=v:=(SJ e).1 (A0 _);have m:v<2^(v.log2+1):=(On e).1 (HK _);have n: ¬v*2^K=0:=Nat.mul_ne_zero e (by have:=HC K;omega);generalize u:v.log2=L at*
 have f:4503599627370496<=v*2^(52-L):=by have c:2^L*2^(52-L)<=v*2^(52-L):=AS _ l;rw[<- GW,show L+(52-L)=52 by omega] at c;exact c
 have d:v*2^(52-L)<9007199254740992:=by have c:v*2^(52-L)<2^(L+1)*2^(52-L):=SM m (HC _);rw[<- GW,show L+1+(52-L)=53 by omega] at c;exact c
 have o:fD.nearest a (v*2^K) (-(K:Int))=fD.word a ((L+1022)*4503599627370496+v*2^(52-L)):=by
  unfold Format.nearest;rw[if_neg n];have p:max (-(K:Int)+((v*2^K).log2:Nat)-(fD.fractionBits:Nat)) fD.leastPlace=(L:Int)-52:=by rw[k,lN,ATX];push_cast;omega
  simp only[p];have q:Toward.even.cut a ((v*2^K) <<< (-(K:Int)-((L:Int)-52)).toNat) (((L:Int)-52)- -(K:Int)).toNat=v*2^(52-L):=by
   by_cases w:K+L<=52
   ·have g:(((L:Int)-52)- -(K:Int)).toNat=0:=by omega
    have h:(-(K:Int)-((L:Int)-52)).toNat=52-L-K:=by omega
    rw[g,h,APl,Of,G3,<-GW];congr 2;omega
   ·have g:(((L:Int)-52)- -(K:Int)).toNat=L+K-52:=by omega
    have h:(-(K:Int)-((L:Int)-52)).toNat=0:=by omega
    have r:v*2^K=(v*2^(52-L))*2^(L+K-52):=by rw[G3,<-GW];congr 2;omega
    rw[g,h,Ln,r,AM0 _ _ (by omega)]
  have s:(((L:Int)-52)-fD.leastPlace).toNat=L+1022:=by rw[lN];omega
  rw[q,s,nR,qH,APB b d]
 rw[o];have t:(L+1022)*4503599627370496+v*2^(52-L)<fD.signWeight:=by rw[wP];exact ASf b d
 refine⟨a,v*2^(52-L),52-L,?_,?_⟩
 ·rw[wN a t,nR,qH,lN,if_neg (ASL f),if_pos (ASW b d),(wQ f d).1,(wQ f d).2,ASO f,ASd b,AS2 b]
 ·unfold signed;rw[Ln];cases a
  ·simp
  ·simp[SD]
theorem APX {s:Bool}{a:Nat}{K:Nat}{b:Int}(c:signed s a 0=b*(2:Int)^K)(j:b.natAbs<9007199254740992):VR (fD.write (.number s a (-(K:Int)))) b:=by
 show VR (fD.nearest s a (-(K:Int))) b;have h:=pow_pos K;have k:(2:Int)^K=((2^K:Nat):Int):=by push_cast;rfl
 by_cases l:b=0
 ·subst l;have e:a=0:=by unfold signed at c;rw[Ln,Int.zero_mul] at c;split at c<;>omega
  subst e;have f:fD.nearest s 0 (-(K:Int))=fD.word s 0:=by unfold Format.nearest;rw[if_pos rfl]
  rw[f];exact AQv s
 ·have e:a=b.natAbs*2^K/\(if s then -(b.natAbs:Int) else b.natAbs)=b:=by
   unfold signed at c;rw[Ln] at c;have i:(a:Int).natAbs=(b*2^K).natAbs:=by rw[<- c];split<;>simp
   have f:(b*2^K).natAbs=b.natAbs*2^K:=by rw[Int.natAbs_mul,k,OF]
   refine⟨by rw[f] at i;simpa using i,?_⟩;split at c
   ·rename_i g;rw[if_pos g];have:b*(2:Int)^K<=0:=by omega
    have:b<=0:=by
     rcases Int.lt_or_le 0 b with d|d
     ·have:=Int.mul_pos d h;omega
     ·exact d
    omega
   ·rename_i g;rw[if_neg g];have:0<=b*(2:Int)^K:=by omega
    have:0<=b:=by
     rcases Int.lt_or_le b 0 with d|d
     ·have:=Int.mul_neg_of_neg_of_pos d h;omega
     ·exact d
    omega
  rw[e.1];have:=AEW s (v:=b.natAbs) (K:=K) (by omega) j;rw[e.2] at this;exact this
theorem AIb(t:Int):signed (decide (t<0)) t.natAbs 0=t:=by
 unfold signed;rw[Ln];split
 ·rename_i a;simp at a;omega
 ·rename_i a;simp at a;omega
theorem DV.sum {x e:Datum}{d m:Int}(i:DV x d)(j:DV e m)(k:(d+m).natAbs<9007199254740992): ∃f,x.sum e=some f/\VR (fD.write f) (d+m):=by
 obtain⟨s,a,c,rfl,n⟩:=i;obtain⟨t,b,l,rfl,g⟩:=j;refine⟨_,rfl,?_⟩;have o:min (-(c:Int)) (-(l:Int))= -((max c l:Nat):Int):=by omega
 have p:(-(c:Int)-min (-(c:Int)) (-(l:Int))).toNat=max c l-c:=by omega
 have q:(-(l:Int)-min (-(c:Int)) (-(l:Int))).toNat=max c l-l:=by omega
 have r:signed s a (-(c:Int)-min (-(c:Int)) (-(l:Int))).toNat+signed t b (-(l:Int)-min (-(c:Int)) (-(l:Int))).toNat=(d+m)*(2:Int)^(max c l):=by rw[p,q,Nw s,Nw t,n,g,I0,I0,<-I2,<-I2,show c+(max c l-c)=max c l by omega,show l+(max c l-l)=max c l by omega,Int.add_mul]
 simp only[r];rw[o];generalize u:(d+m)*(2:Int)^(max c l)=T at*
 refine APX ?_ k;rw[u];split
 ·rename_i h;rw[h];exact(wO _ _).trans (by rw[<- h])
 ·exact(AIb T)
theorem DV.opposite {x:Datum}{b:Int}(c:DV x b):DV x.opposite (-b):=by obtain⟨s,a,d,rfl,e⟩:=c;refine⟨!s,a,d,rfl,?_⟩;rw[SD,<-e];unfold signed;cases s<;>simp
theorem VR.add {x b:Nat}{a m:Int}(d:VR x a)(e:VR b m)(f:(a+m).natAbs<9007199254740992): ∃c,fD.add x b=some c/\VR c (a+m):=by obtain⟨i,g,h⟩:=DV.sum d e f;unfold Format.add;rw[g];exact⟨_,rfl,h⟩
theorem VR.sub {x b:Nat}{a m:Int}(d:VR x a)(e:VR b m)(f:(a-m).natAbs<9007199254740992): ∃c,fD.sub x b=some c/\VR c (a-m):=by obtain⟨i,g,h⟩:=DV.sum d (DV.opposite e) (by rw[<- Int.sub_eq_add_neg];exact f);unfold Format.sub;rw[g];exact⟨_,rfl,by rw[Int.sub_eq_add_neg];exact h⟩
theorem AM9 {b:Nat}{s:Bool}{m:Nat}{i:Int}(a:fD.read b= .number s m i):i<=0\/4503599627370496<=m:=by
 unfold Format.read at a;simp only[nR,qH,lN] at a;split at a
 ·injection a with _ _ c;exact .inl (by omega)
 ·split at a
  ·injection a with _ d _;exact .inr (by omega)
  ·split at a<;>cases a
theorem AKA(s:Bool)(m u:Nat):(signed s m u).natAbs=m*2^u:=by
 unfold signed;rw[Of];split
 ·rw[Int.natAbs_neg,OF]
 ·rw[OF]
theorem VR.of_eq {x k:Nat}{m:Int}(o:VR k m)(v:m.natAbs<4503599627370496)(c:fD.order x k=some .eq):VR x m:=by
 obtain⟨t,b,l,p,g⟩:=o;unfold Format.order at c;rw[p] at c;unfold VR;cases e:fD.read x with
 |nan s f=>rw[e] at c;simp[Datum.order] at c
 |infinity s=>rw[e] at c;cases s<;>simp[Datum.order] at c
 |number s a i=>
  rw[e] at c;simp only[Datum.order,BY] at c;rw[cmp_eq] at c;by_cases q:i<=0
  ·refine⟨s,a,(-i).toNat,by rw[show -(((-i).toNat:Nat):Int)=i by omega],?_⟩;generalize w:(-i).toNat=d;have h:(i-min i (-(l:Int))).toNat=max d l-d:=by omega
   have j:(-(l:Int)-min i (-(l:Int))).toNat=max d l-l:=by omega
   rw[h,j,Nw s,Nw t,g,I0,<-I2,show l+(max d l-l)=max d l by omega] at c;refine Int.eq_of_mul_eq_mul_right (a:=(2:Int)^(max d l-d)) (by have:=pow_pos (max d l-d);omega) ?_;rw[c,I0,<-I2,show d+(max d l-d)=max d l by omega]
  ·exfalso;have y:=(AM9 e).resolve_left q;have h:(i-min i (-(l:Int))).toNat=i.toNat+l:=by omega
   have j:(-(l:Int)-min i (-(l:Int))).toNat=0:=by omega
   rw[h,j,g] at c;have n:=congrArg Int.natAbs c;have r:(2:Int)^l=((2^l:Nat):Int):=by push_cast;rfl
   rw[AKA,Int.natAbs_mul,r,OF,GW,<-G3] at n;have z:a*2^i.toNat=m.natAbs:=Nat.eq_of_mul_eq_mul_right (HC l) n;have u:1<=2^i.toNat:=HC _;have A:a*1<=a*2^i.toNat:=Nat.mul_le_mul_left _ u;omega
theorem VR.inj {x:Nat}{b m:Int}(c:VR x b)(g:VR x m):b=m:=by have d:=VR.order c g;have a:=VR.order g g;rw[d] at a;have e:compare m m= .eq:=cmp_eq.2 rfl;rw[e] at a;exact cmp_eq.1 (Bs a)
theorem BB.calc {A:ak}{P:Q1}{s:Sem J0}{h:aa}{K:A2O}{v:J0}(a:s.calc P=some v)(b:K v h):BB A P s h K:=λc=>⟨v,h,c,JI a _,b⟩
theorem BB.run {A:ak}{P:Q1}{s:Sem J0}{h:aa}{K:A2O}{v:J0}(b: ∀a,s.run P a= .ok v a)(c:K v h):BB A P s h K:=λd=>⟨v,h,d,b _,c⟩
section
variable {A : ak} {P : Q1} {t : Q7} {o1 o2 : Operand} {x y : Nat} {h : aa} {K : A2O}
end
open Go
theorem toList_inj {a b:A2P}:(a.toList==b.toList)=decide (a=b):=by rw[ByteArray.toList_eq,ByteArray.toList_eq];rw[Ek];simp[Mn,<-Array.toList_inj]
theorem CP {a b:A2P}:bM a b=decide (a=b):=toList_inj
theorem Qf: ∀(a:List UInt8),Op.bytesLess a a=false
 | []=>rfl
 |a::x=>by simp[Op.bytesLess,Qf x]
theorem lC: ∀(a b:List UInt8),Op.bytesLess a b=false->Op.bytesLess b a=false->a=b
 | [],[],_,_=>rfl
 | [],_::_,c,_=>by simp[Op.bytesLess] at c
 |_::_,[],_,c=>by simp[Op.bytesLess] at c
 |a::x,b::f,d,e=>by
  simp only[Op.bytesLess,Hj,A0f,decide_eq_false_iff_not,beq_eq_false_iff_ne] at d e;have g:a=b:=by have h:=d.1;have i:=e.1;exact UInt8.le_antisymm (UInt8.not_lt.1 i) (UInt8.not_lt.1 h)
  subst g;rw[lC x f (d.2.resolve_left (by simp)) (e.2.resolve_left (by simp))]
theorem TN: ∀(a b c:List UInt8),Op.bytesLess a b=true->Op.bytesLess b c=true->Op.bytesLess a c=true
 |_,[],_,f,_=>by simp[Op.bytesLess] at f
 |_,_::_,[],_,f=>by simp[Op.bytesLess] at f
 | [],_::_,_::_,_,_=>by simp[Op.bytesLess]
 |a::x,b::g,c::z,e,d=>by
  simp only[Op.bytesLess,Cp,A3,decide_eq_true_eq,beq_iff_eq] at e d ⊢;rcases e with e|⟨rfl,e⟩
  ·rcases d with d|⟨rfl,d⟩
   ·exact .inl (UInt8.lt_trans e d)
   ·exact .inl e
  ·rcases d with d|⟨rfl,d⟩
   ·exact .inl d
   ·exact .inr ⟨rfl,TN x g z e d⟩
theorem Bl(a:A2P):aQ a a=false:=Qf _
theorem DJ {a b c:A2P}(d:aQ a b=true)(e:aQ b c=true):aQ a c=true:=TN _ _ _ d e
theorem Nk {a b:A2P}(d:aQ a b=false)(e:aQ b a=false):a=b:=by
 have:=lC _ _ d e;have c:bM a b=true:=by simp[bM,this]
 rw[CP] at c;simpa using c
theorem OC {a b:A2P}(c:aQ a b=true):aQ b a=false:=by
 cases d:aQ b a
 ·rfl
 ·have:=DJ c d;rw[Bl] at this;cases this
theorem OU {a b:A2P}(c:aQ a b=true):a≠b:=by rintro rfl;rw[Bl] at c;cases c
theorem nj {a b c:A2P}(d:aQ a b=true)(f:aQ c b=false):aQ a c=true:=by
 cases e:aQ b c
 ·rw[Nk f e];exact d
 ·exact DJ d e
theorem ZH {a b c:A2P}(e:aQ b a=false)(d:aQ c b=false):aQ c a=false:=by
 cases f:aQ c a
 ·rfl
 ·have:=nj f e;rw[this] at d;cases d
theorem uR: ∀(a b:List UInt8),Op.bytesLess a b=decide (a<b)
 | [],[]=>by simp[Op.bytesLess]
 | [],_::_=>by simp[Op.bytesLess]
 |_::_,[]=>by simp[Op.bytesLess]
 |a::x,b::c=>by
  simp only[Op.bytesLess,uR x c,A0n];by_cases d:a<b<;>by_cases e:a=b<;>simp[d,e]
theorem Yk(a b:A2P):aQ a b=decide (a.data.toList<b.data.toList):=by simp[aQ,ByteArray.toList_eq,uR]
def IQ:cy A2P where
 enc x:= [.string x]
 w:=1
 len _:=rfl
 pos:=by omega
 one x v a:=by simp at a;subst a;rfl
def IC:cy Int where
 enc x:= [.int J9 x]
 w:=1
 len _:=rfl
 pos:=by omega
 one x v a:=by simp at a;subst a;rfl
theorem Cells.str {b:aa}{a:Q6}{x:A2P}(c:Cells b a (IQ.enc x)):ag b a=some (.string x):=by have d:=c 0 _ rfl;rwa [add_zero] at d
theorem Cells.int {b:aa}{a:Q6}{x:Int}(c:Cells b a (IC.enc x)):ag b a=some (.int J9 x):=by have d:=c 0 _ rfl;rwa [add_zero] at d
theorem Own.lt {c:Type}{e:cy c}{T:Q7}{d:aa}{s:Sl}{l:List c}(f:Own e T d s l){b:Nat}(a:s.af=some b):b<d.size:=by
 rcases f.row with⟨rfl,_⟩|⟨g,j,h,i,_⟩
 ·simp[Sl.af] at a
 ·simp[Sl.af,h] at a;subst a;exact Af i
def Rs(a:A2P)(v:J0):List (A2P×J0)->List (A2P×J0)
 | []=> [(a,v)]
 |p::m=>if p.1=a then(a,v)::m else p::Rs a v m
def Ld(a:A2P)(m:List (A2P×J0)):Option J0:=(m.find? λp=>decide (p.1=a)).map (·.2)
def ir(a:A2P)(m:List (A2P×J0)):List (A2P×J0):=m.filter λp=> !decide (p.1=a)
theorem GV(a:A2P)(p:A2P×J0)(m:List (A2P×J0)):Ld a (p::m)=if p.1=a then some p.2 else Ld a m:=by unfold Ld;rw[DO];by_cases b:p.1=a<;>simp[b]
theorem ZF(a:A2P)(v:J0)(c:A2P): ∀m,Ld c (Rs a v m)=if a=c then some v else Ld c m
 | []=>by unfold Rs;rw[GV]
 |p::m=>by
  unfold Rs;split
  ·rename_i d;rw[GV,GV];by_cases b:a=c<;>simp[d,b]
  ·rename_i d;rw[GV,GV,ZF a v c m];by_cases b:a=c
   ·subst b;simp[d]
   ·simp[b]
structure dO (es:Array MapEntry) (clock:Nat) (m:List (A2P×J0)):Prop where
 same:es.toList.map (λe=>(e.key,e.val))=m.map λp=>(Value.string p.1,p.2)
 stamped:MapKept.Stamped es clock
 size:es.size<=maxLen
 keys: ∀p∈m,p.1.size<=maxLen
def MO(d:aa)(b:Nat)(m:List (A2P×J0)):Prop:= ∃a c,d[b]? =some (.map a c)/\dO a c m
theorem MO.mod {a c:aa}{b:Nat}{m:List (A2P×J0)}{d:Nat->Prop}(M:MO a b m)(x:Mod d a c)(e: ¬d b):MO c b m:=by obtain⟨f,g,h,i⟩:=M;exact⟨f,g,x.af h e,i⟩
theorem MO.lt {a:aa}{b:Nat}{m:List (A2P×J0)}(M:MO a b m):b<a.size:=by obtain⟨d,e,c,f⟩:=M;exact Af c
theorem MO.empty {a:aa}{b c:Nat}(d:a[b]? =some (.map #[] c)):MO a b []:=⟨#[],c,d,rfl,MapKept.stamped_empty c,by simp,by simp⟩
theorem dO.len {a:Array MapEntry}{b:Nat}{m:List (A2P×J0)}(M:dO a b m):a.size=m.length:=by rw[<- DQ];have:=congrArg List.length M.same;simpa using this
theorem dO.keysOf {a:Array MapEntry}{b:Nat}{m:List (A2P×J0)}(M:dO a b m):a.toList.map (·.key)=m.map λp=>Value.string p.1:=by have:=congrArg (List.map Prod.fst) M.same;simpa [B9,G4] using this
theorem dO.nodup {b:Array MapEntry}{c:Nat}{m:List (A2P×J0)}(M:dO b c m):(m.map (·.1)).Nodup:=by
 have a:=M.stamped.2.2;rw[M.keysOf] at a;have d:(m.map λp=>Value.string p.1)=(m.map (·.1)).map Value.string:=by simp
 rw[d] at a;exact(List.pairwise_map.1 a).imp λe f=>e (congrArg _ f)
theorem Qp(a:A2P)(v:J0): ∀(c:List MapEntry) (m:List (A2P×J0)) (i:Nat),(c.map λe=>(e.key,e.val))=(m.map λp=>(Value.string p.1,p.2))->
  (Instr.findNow .string (.string a) c i=some none/\Ld a m=none/\Rs a v m=m++ [(a,v)]/\ir a m=m/\ ∀e∈c,e.key≠ .string a)\/
  ∃d u,Instr.findNow .string (.string a) c i=some (some (i+d,u))/\Ld a m=some u/\(∃ e,c[d]? =some e/\e.key= .string a)/\((c.modify d λe=> {e with key:= .string a,val:=v}).map λe=>(e.key,e.val))=(Rs a v m).map (λp=>(Value.string p.1,p.2))/\
   ((m.map (·.1)).Nodup->((c.eraseIdx d).map λe=>(e.key,e.val))=(ir a m).map λp=>(Value.string p.1,p.2))
 | [],[],i,_=> .inl ⟨rfl,rfl,rfl,rfl,by simp⟩
 | [],_::_,_,h=>by simp at h
 |_::_,[],_,h=>by simp at h
 |e::c,p::m,i,h=>by
  simp only[C2,HW,N2] at h;obtain⟨⟨j,l⟩,n⟩:=h;have o:Instr.sameNow .string (.string a) e.key=some (decide (a=p.1)):=by rw[j];show some (a==p.1)=_;congr 1;rw[Ek,MapKept.bytes_beq];simp
  by_cases b:p.1=a
  ·refine .inr ⟨0,e.val,?_,?_,⟨e,rfl,by rw[j,b]⟩,?_,?_⟩
   ·unfold Instr.findNow;rw[o,decide_eq_true b.symm];rfl
   ·rw[GV,if_pos b,l]
   ·unfold Rs;rw[if_pos b];simp[n]
   ·intro g;have g:=List.nodup_cons.1 g;simp only[List.eraseIdx_zero,List.tail_cons];rw[n];congr 1;unfold ir;rw[AW];simp only[b,decide_true,LI,Cl,if_false];refine(List.filter_eq_self.2 λC w=>?_).symm;simp only[CA,decide_eq_false_iff_not];rintro rfl;exact g.1 (by show p.1∈_;rw[b];exact N3 (f:=Prod.fst) w)
  ·rcases Qp a v c m (i+1) n with⟨q,r,s,k,y⟩|⟨d,u,q,r,⟨z,s,A⟩,B,k⟩
   ·refine .inl ⟨?_,?_,?_,?_,?_⟩
    ·unfold Instr.findNow;rw[o,decide_eq_false (λe=>b e.symm)];exact q
    ·rw[GV,if_neg b];exact r
    ·unfold Rs;rw[if_neg b,s];rfl
    ·unfold ir at k ⊢;rw[AW];simp[b];simpa using k
    ·intro x t;rcases List.mem_cons.1 t with rfl|t
     ·rw[j];intro e;injection e with e;exact b e
     ·exact y x t
   ·refine .inr ⟨d+1,u,?_,?_,⟨z,by simpa using s,A⟩,?_,?_⟩
    ·unfold Instr.findNow;rw[o,decide_eq_false (λe=>b e.symm)];rw[show i+(d+1)=i+1+d by omega];exact q
    ·rw[GV,if_neg b];exact r
    ·unfold Rs;rw[if_neg b];simp[j,l,B]
    ·intro g;have g:=List.nodup_cons.1 g;have:=k g.2;unfold ir at this ⊢;rw[AW];simp[b,j,l];simpa using this
section
variable {P : Q1}
theorem GH {a:Q7}(c:P.underlying a=some .string)(d:Bool)(e:Nat)(f:A2P)(b:World):(Instr.checkKey d (e+1) a (.string f)).run P b= .ok () b:=by simp[Instr.checkKey,A9 c]
theorem N9 {g:ak}{t h i:Q7}{z:J0}(j:P.underlying t=some (.map h i))(c:P.underlying h=some .string)(n:(zeroValue i).calc P=some z){a:aa}{b:Nat}{m:List (A2P×J0)}{d:A2P}{K:A2O}
  (M:MO a b m) (o:K ((Ld d m).getD z) a):BB g P (Instr.lookup t (.map (some b)) (.string d) false) a K:=by
 intro k;refine⟨_,a,k,?_,o⟩;obtain⟨p,v,q,s⟩:=M;have l:=MapKept.run_getObj_map (P:=P) (w:=g.at a k) (r:=b) q;rcases Qp d z p.toList m 0 s.same with⟨e,f,_⟩|⟨x,u,e,f,_,_⟩
 ·simp[Instr.lookup,A9 j,l,GH c,Instr.findKey,A9 c,e,f,Result.andThen,JI n]
 ·simp[Instr.lookup,A9 j,l,GH c,Instr.findKey,A9 c,e,f,Result.andThen]
theorem uS {b:A2P}{v:J0}: ∀ {m:List (A2P×J0)} {p:A2P×J0},p∈Rs b v m->p.1=b\/p∈m
 | [],p,a=>by simp[Rs] at a;exact .inl (by rw[a])
 |q::m,p,a=>by
  unfold Rs at a;split at a
  ·rcases List.mem_cons.1 a with rfl|a
   ·exact .inl rfl
   ·exact .inr (An _ a)
  ·rcases List.mem_cons.1 a with rfl|a
   ·exact .inr AM
   ·exact(uS a).imp id (An _)
theorem ZW {g:ak}{t s I:Q7}(y:P.underlying t=some (.map s I))(h:P.underlying s=some .string){d:aa}{b:Nat}{m:List (A2P×J0)}{a:A2P}{v:J0}{K:aa->Prop}
  (M:MO d b m) (J:a.size<=maxLen) (U:m.length<maxLen) (z: ∀i,MO i b (Rs a v m)->Mod (λc=>c=b) d i->i.size=d.size->K i):Zz g P (Instr.mapUpdate t (.map (some b)) (.string a) v) d K:=by
 intro f;obtain⟨j,l,n,e⟩:=M;have A:=Af n;have B:=MapKept.run_getObj_map (P:=P) (w:=g.at d f) (r:=b) n;have C: ∀k,(setObj b k).run P (g.at d f)= .ok () (g.at (d.setIfInBounds b k) f):=λk=>MapKept.run_setObj_map (P:=P) (w:=g.at d f) k n
 have D: ∀p∈Rs a v m,p.1.size<=maxLen:=λp L=>(uS L).elim (λd=>by rw[d];exact J) (e.keys p)
 have V:=e.len;rcases Qp a v j.toList m 0 e.same with⟨o,N,q,_,O⟩|⟨E,u,o,N,⟨Q,q,F⟩,R,_⟩
 ·refine⟨d.setIfInBounds b (.map (j.push {key:= .string a,val:=v,born:=l}) (l+1)),f,?_,z _ ⟨_,_,CQ A,?_,MapKept.stamped_push e.stamped O,by simp;omega,D⟩ (Mod.setObj rfl) (by simp)⟩
  ·simp[Instr.mapUpdate,A9 y,B,GH h,Instr.findKey,A9 h,o,Result.andThen,C]
  ·rw[q];simp[e.same]
 ·have G:j[E]? =some Q:=by simpa using q
  refine⟨d.setIfInBounds b (.map (j.modify E λe=> {e with key:= .string a,val:=v}) l),f,?_,z _ ⟨_,_,CQ A,?_,MapKept.stamped_modify e.stamped _ _ (λ_ _=>rfl) (λx _ H=>?_),by simpa using e.size,D⟩ (Mod.setObj rfl) (by simp)⟩
  ·have S: ∀w,(Instr.keyThatStays (.string a) (.string a)).run P w= .ok (.string a) w:=λw=>by
    have T:(a==a)=true:=(MapKept.bytes_beq a a).2 rfl;simp[Instr.keyThatStays,Instr.sameBits,T]
   simp[Instr.mapUpdate,A9 y,B,GH h,Instr.findKey,A9 h,o,G,F,S,Result.andThen,C]
  ·rw[Hk];exact R
  ·rw[G] at H;cases H;exact F.symm
theorem AMI {g:ak}{t l D E:Q7}(v:P.underlying t=some (.map l D))(h:P.underlying l=some .string){a:aa}{b:Nat}{m:List (A2P×J0)}{i:A2P}{K:A2O}
  (M:MO a b m) (x: ∀j,MO j b (ir i m)->Mod (λc=>c=b) a j->j.size=a.size->K (.tuple #[]) j):BB g P (Builtin.delete_ #[t,l] E #[.map (some b),.string i]) a K:=by
 intro e;obtain⟨f,y,n,d⟩:=M;have z:=Af n;have A:=MapKept.run_getObj_map (P:=P) (w:=g.at a e) (r:=b) n;have B: ∀k,(setObj b k).run P (g.at a e)= .ok () (g.at (a.setIfInBounds b k) e):=λk=>MapKept.run_setObj_map (P:=P) (w:=g.at a e) k n
 have C: ∀p∈ir i m,p.1.size<=maxLen:=λp F=>d.keys p (List.mem_filter.1 F).1
 rcases Qp i (.bool true) f.toList m 0 d.same with⟨o,G,_,q,_⟩|⟨s,u,o,G,⟨H,I,N⟩,_,q⟩
 ·refine⟨_,a.setIfInBounds b (.map f y),e,?_,x _ ⟨_,_,CQ z,by rw[q];exact d.same,d.stamped,d.size,C⟩ (Mod.setObj rfl) (by simp)⟩;simp[Builtin.delete_,A9 v,A,GH h,Instr.findKey,A9 h,o,Result.andThen,B]
 ·have J:f[s]? =some H:=by simpa using I
  refine⟨_,a.setIfInBounds b (.map (f.eraseIdxIfInBounds s) y),e,?_,x _ ⟨_,_,CQ z,?_,MapKept.stamped_erase d.stamped _,?_,C⟩ (Mod.setObj rfl) (by simp)⟩
  ·simp[Builtin.delete_,A9 v,A,GH h,Instr.findKey,A9 h,o,Result.andThen,B]
  ·have L:=(Array.getElem?_eq_some_iff.1 J).1;rw[Array.eraseIdxIfInBounds,dif_pos L,A0q];exact q d.nodup
  ·have:(f.eraseIdxIfInBounds s).size<=f.size:=by unfold Array.eraseIdxIfInBounds;split<;>simp
   have:=d.size;omega
end
def jY(_:J0):Option (DataW Unit×List MemPlace):=some (.nil,[])
theorem uT {a:Type}(x:Lit×DataW a): ∀l:List (Lit×DataW a),(DataW.insert x l).Perm (x::l)
 | []=>by simp[DataW.insert]
 |y::b=>by
  unfold DataW.insert;split
  ·exact IF _
  ·exact((uT x b).cons y).trans (List.Perm.swap x y b)
theorem sorted_perm {a:Type}: ∀l:List (Lit×DataW a),(l.foldr DataW.insert []).Perm l
 | []=>IF _
 |x::b=>(uT x _).trans ((sorted_perm b).cons x)
theorem AKI {P:Q1}{kt:Q7}(j:P.underlying kt=some .string){w:World}{b:Nat}{m:List (A2P×J0)}(M:MO w.heap b m):
  ∃e:DataW Unit,w.ownsMap P kt jY b m.length e/\(strKeys e).Perm (m.map λp=>p.1.data.toList)/\Maps.size e=m.length:=by
 obtain⟨c,k,l,a⟩:=M;have h: ∀x∈c.toList,∃s:A2P,x.key= .string s/\WideElems.rd P kt jY x=some (.string s.data.toList,.nil):=by
  intro x d;have:x.key∈m.map λp=>Value.string p.1:=by rw[<- a.keysOf];exact N3 d
  obtain⟨p,n,i⟩:=List.mem_map.1 this;refine⟨p.1,i.symm,?_⟩;simp[WideElems.rd,<-i,Go.WideMaps.keyOf_string_mk j (a.keys p n),jY]
 refine⟨_,⟨c,k,l,⟨a.size,a.stamped,λx d=>?_⟩,by rw[a.len];exact A0 _,rfl⟩,?_,?_⟩
 ·obtain⟨s,_,f⟩:=h x d;exact⟨_,f⟩
 ·show((c.toList.map (WideElems.rg P kt jY)).foldr DataW.insert [] |>.map λp=>strOf p.1).Perm _;refine((sorted_perm _).map _).trans ?_;have g:(c.toList.map (WideElems.rg P kt jY)).map (λp=>strOf p.1)=(c.toList.map (·.key)).map λv=>match v with| .string s=>s.data.toList|_=> []:=by
   rw[B9,B9];refine CT λx d=>?_
   obtain⟨s,g,f⟩:=h x d;simp[Function.comp,WideElems.rg,f,g,strOf]
  rw[g,a.keysOf,B9];exact List.Perm.of_eq (CT λx _=>rfl)
 ·show((c.toList.map (WideElems.rg P kt jY)).foldr DataW.insert []).length=_;rw[(sorted_perm _).length_eq];simp[a.len]
def nC(l:List A2P):Prop:=l.Pairwise λa b=>aQ a b=true
theorem AJS {d:List (List UInt8)}{l:List A2P}(e:nC l)(f:d.Perm (l.map λx=>x.data.toList)):(d.mergeSort λx g=>decide (x<=g))=l.map λx=>x.data.toList:=by
 have h:=mergeSort_of_perm f;have i:(l.map λx=>x.data.toList).mergeSort leB=l.map λx=>x.data.toList:=by refine List.mergeSort_of_pairwise ?_;refine List.pairwise_map.2 (e.imp λ{a b} c=>?_);rw[Yk] at c;simp only[decide_eq_true_eq] at c ⊢;exact List.le_of_lt c
 exact h.trans i
theorem AMV(l:List A2P):(l.map λx=>x.data.toList).map Proofs.encStr=l.flatMap IQ.enc:=by
 induction l with
 |nil=>rfl
 |cons x b a=>rw[C2,C2,a,AI];rfl
theorem wrap_u32(a:Nat):J8 .u32 (a:Int)=((a % 4294967296:Nat):Int):=by simp[J8,IntKind.bits,IntKind.signed]
theorem wrap_u64(a:Nat):J8 .u64 (a:Int)=((a % 18446744073709551616:Nat):Int):=by simp[J8,IntKind.bits,IntKind.signed]
theorem Uq {a b:Nat}(c:a<4294967296)(d:b<4294967296):ZG .u32 (a:Int) (b:Int)=((a ^^^ b:Nat):Int):=by
 have e:a ^^^ b<2^32:=Lo (by simpa using c) (by simpa using d);unfold ZG;have f:(BitVec.ofInt (IntKind.bits .u32) (a:Int) ^^^ BitVec.ofInt (IntKind.bits .u32) (b:Int)).toNat=a ^^^ b:=by show(BitVec.ofInt 32 (a:Int) ^^^ BitVec.ofInt 32 (b:Int)).toNat=a ^^^ b;rw[BitVec.ofInt_natCast,BitVec.ofInt_natCast,BitVec.toNat_xor,BitVec.toNat_ofNat,BitVec.toNat_ofNat,Ax (by simpa using c),Ax (by simpa using d)]
 rw[f,wrap_u32,Ax (by simpa using e)]
theorem AR7 {a b:Nat}(c:a<4294967296)(d:b<4294967296):dX .u32 (a:Int) (b:Int)=((a ||| b:Nat):Int):=by
 have e:a ||| b<2^32:=KB (by simpa using c) (by simpa using d);unfold dX;have f:(BitVec.ofInt (IntKind.bits .u32) (a:Int) ||| BitVec.ofInt (IntKind.bits .u32) (b:Int)).toNat=a ||| b:=by show(BitVec.ofInt 32 (a:Int) ||| BitVec.ofInt 32 (b:Int)).toNat=a ||| b;rw[BitVec.ofInt_natCast,BitVec.ofInt_natCast,BitVec.toNat_or,BitVec.toNat_ofNat,BitVec.toNat_ofNat,Ax (by simpa using c),Ax (by simpa using d)]
 rw[f,wrap_u32,Ax (by simpa using e)]
theorem qI {a b:Nat}(c:a<18446744073709551616)(d:b<18446744073709551616):dX .u64 (a:Int) (b:Int)=((a ||| b:Nat):Int):=by
 have e:a ||| b<2^64:=KB (by simpa using c) (by simpa using d);unfold dX;have f:(BitVec.ofInt (IntKind.bits .u64) (a:Int) ||| BitVec.ofInt (IntKind.bits .u64) (b:Int)).toNat=a ||| b:=by show(BitVec.ofInt 64 (a:Int) ||| BitVec.ofInt 64 (b:Int)).toNat=a ||| b;rw[BitVec.ofInt_natCast,BitVec.ofInt_natCast,BitVec.toNat_or,BitVec.toNat_ofNat,BitVec.toNat_ofNat,Ax (by simpa using c),Ax (by simpa using d)]
 rw[f,wrap_u64,Ax (by simpa using e)]
theorem qJ(a b:Nat):((a:Nat):Int)*((b:Nat):Int)=((a*b:Nat):Int):=(Int.natCast_mul a b).symm
def hA(a c:Nat):Nat:=((a ^^^ c)*16777619) % 4294967296
def hX(b c:Nat):Nat:=((b+c) % 4294967296*2246822507) % 4294967296
def hB(b c:Nat):Nat:=hX b c ^^^ (hX b c / 8192)
def UH(l:List UInt8):Nat×Nat:=l.foldl (λs c=>(hA s.1 c.toNat,hB s.2 c.toNat)) (2166136261,2538058380)
def lO(a:A2P):Nat:=(UH a.data.toList).1
def nT(a:A2P):Nat:=(UH a.data.toList).2 ||| 1
theorem ATY(a c:Nat):hA a c<4294967296:=CM _ (by decide)
theorem wR(b c:Nat):hX b c<4294967296:=CM _ (by decide)
theorem ATG(b c:Nat):hB b c<4294967296:=by have a:=wR b c;have:hB b c<2^32:=Lo (by simpa using a) (by have:hX b c / 8192<=hX b c:=RW _ _;omega);simpa using this
theorem wS(l:List UInt8)(c:UInt8):UH (l++ [c])=(hA (UH l).1 c.toNat,hB (UH l).2 c.toNat):=by simp[UH]
theorem wT(l:List UInt8):(UH l).1<4294967296/\(UH l).2<4294967296:=by
 rw[<- List.reverse_reverse l];cases l.reverse with
 |nil=>decide
 |cons c a=>rw[SO,wS];exact⟨ATY _ _,ATG _ _⟩
theorem wU(a:A2P):lO a<4294967296:=(wT _).1
theorem PZ {a c:Nat}(b:a<4294967296)(d:c<256):J8 .u32 ((ZG .u32 (a:Int) (J8 .u32 (c:Int)))*(16777619:Int))=((hA a c:Nat):Int):=by rw[wrap_u32,Ax (by omega),Uq b (by omega),show((a ^^^ c:Nat):Int)*(16777619:Int)=(((a ^^^ c)*16777619:Nat):Int) from qJ _ 16777619,wrap_u32];rfl
theorem ATA {b c:Nat}(a:b<4294967296)(d:c<256):J8 .u32 ((J8 .u32 ((b:Int)+(J8 .u32 (c:Int))))*(2246822507:Int))=((hX b c:Nat):Int):=by rw[wrap_u32 c,Ax (by omega),show((b:Int)+(c:Int))=((b+c:Nat):Int) by push_cast;rfl,wrap_u32,show(((b+c) % 4294967296:Nat):Int)*(2246822507:Int)=(((b+c) % 4294967296*2246822507:Nat):Int) from qJ _ 2246822507,wrap_u32];rfl
theorem QR(n a:Nat):((n:Nat):Int).fdiv ((2:Int)^a)=((n / 2^a:Nat):Int):=by
 rw[Wr _ (by have:=Int.pow_pos (n:=2) (m:=a) (by decide);omega)]
 push_cast;rfl
theorem ATU {b c:Nat}(a:b<4294967296)(d:c<256):ZG .u32 (J8 .u32 ((J8 .u32 ((b:Int)+(J8 .u32 (c:Int))))*(2246822507:Int))) ((J8 .u32 ((J8 .u32 ((b:Int)+(J8 .u32 (c:Int))))*(2246822507:Int))).fdiv ((2:Int)^(13:Nat)))=((hB b c:Nat):Int):=by have e:=wR b c;have f:hX b c / 2^13<=hX b c:=RW _ _;rw[ATA a d,QR,Uq e (by omega)];rfl
theorem Ng {s:A2P}{i:Nat}{c:UInt8}(a:s.data.toList[i]? =some c):dk s ((i:Nat):Int)=((c.toNat:Nat):Int):=by
 have b:i<s.data.toList.length:=(List.getElem?_eq_some_iff.1 a).1;have d:i<s.size:=by simpa using b
 unfold dk;have e:((i:Nat):Int).toNat=i:=by omega
 rw[e];have f:s[i]? =some c:=by rw[getElem?_pos s i d];congr 1;have g:=(List.getElem?_eq_some_iff.1 a).2;rw[<- g];rw[Array.getElem_toList];rfl
 rw[f];rfl
def AX(l:List UInt8):A2P:=⟨l.toArray⟩
theorem Cc(l:List UInt8):(AX l).data.toList=l:=by simp[AX]
theorem DL(s:A2P):AX s.data.toList=s:=by simp[AX]
theorem AP(l:List UInt8):(AX l).size=l.length:=by simp[AX,ByteArray.size]
theorem Kc {a b:List UInt8}:AX a=AX b↔a=b:=⟨λc=>by simpa [AX] using congrArg (λs:A2P=>s.data.toList) c,λc=>by rw[c]⟩
def CX(a:Nat):UInt8:=UInt8.ofNat a
theorem Df {a:Nat}(b:a<256):(CX a).toNat=a:=by simp[CX,UInt8.toNat_ofNat'];omega
theorem wV(c:UInt8):CX c.toNat=c:=by simp[CX]
def BH(a:Nat):List UInt8:=if a<128 then [CX a] else CX (a % 128+128)::BH (a / 128)
termination_by a
decreasing_by omega
theorem FN {n:Nat}(a:n<128):BH n= [CX n]:=by rw[BH,if_pos a]
theorem TW {n:Nat}(a: ¬n<128):BH n=CX (n % 128+128)::BH (n / 128):=by rw[BH,if_neg a]
def MR:Nat->Nat->List UInt8->Option (Nat×List UInt8)
 |_,_,[]=>none
 |i,a,c::t=>
  if 10<=i\/(i=9/\1<c.toNat)\/(0<i/\c.toNat=0) then none
  else if c.toNat<128 then some (a+c.toNat*128^i,t) else MR (i+1) (a+c.toNat % 128*128^i) t
theorem MB {i a:Nat}(b:i<=a):128^i<=128^a:=RK (by decide) b
theorem iv(t:List UInt8): ∀(b i a:Nat),b*128^i<18446744073709551616->(i=0\/0<b)->MR i a (BH b++t)=some (a+b*128^i,t):=by
 intro b
 induction b using Nat.strongRecOn with
 |ind b k=>
  intro i a h m;have n:0<128^i:=Nat.pos_of_ne_zero (Nat.pos_iff_ne_zero.1 (SP (by decide)));by_cases e:b<128
  ·rw[FN e];simp only[F0,CI,MR,Df (show b<256 by omega)];rw[if_neg,if_pos e];rintro(c|⟨c,f⟩|⟨c,f⟩)
   ·have g:=MB c;have j:1*128^i<=b*128^i:=AS _ (by omega);have d:(128:Nat)^10=1180591620717411303424:=by decide
    omega
   ·subst c;have d:(128:Nat)^9=9223372036854775808:=by decide
    rw[d] at h;omega
   ·omega
  ·rw[TW e];have hd:b / 128<b:=by omega
   simp only[F0,MR,Df (show b % 128+128<256 by omega)];rw[if_neg,if_neg (by omega),k (b / 128) hd]
   ·have l:(b % 128+128) % 128=b % 128:=by omega
    rw[l,F2,GB,show b % 128*128^i+b / 128*(128^i*128)=(b % 128+128*(b / 128))*128^i by
     rw[BW,Ds (128^i) 128,<-G3,Ds (b / 128) 128],Nat.mod_add_div]
   ·have g:b / 128*128<=b:=Nat.div_mul_le_self _ _;have j:b / 128*128*128^i<=b*128^i:=AS _ g;rw[F2,Ds (128^i) 128,<-G3];omega
   ·omega
   ·rintro(c|⟨c,f⟩|⟨c,f⟩)
    ·have g:=MB c;have j:128*128^i<=b*128^i:=AS _ (by omega);have d:(128:Nat)^10=1180591620717411303424:=by decide
     omega
    ·subst c;have d:(128:Nat)^9=9223372036854775808:=by decide
     rw[d] at h;omega
    ·omega
theorem wW: ∀(l:List UInt8) (i a n:Nat) (t:List UInt8),MR i a l=some (n,t)-> ∃m,n=a+m*128^i/\l=BH m++t/\m*128^i<18446744073709551616/\(i=0\/0<m)
 | [],i,a,n,t,b=>by simp[MR] at b
 |c::l,i,a,n,t,b=>by
  simp only[MR] at b;split at b
  ·cases b
  ·rename_i v;have w:c.toNat<256:=c.toNat_lt;split at b
   ·rename_i e;obtain⟨rfl,rfl⟩:=b;refine⟨c.toNat,rfl,by rw[FN e,wV];rfl,?_,by omega⟩;have x:i<=9:=by omega
    by_cases h:i=9
    ·subst h;have d:(128:Nat)^9=9223372036854775808:=by decide
     rw[d];omega
    ·have j:=MB (show i<=8 by omega);have d:(128:Nat)^8=72057594037927936:=by decide
     have k:c.toNat*128^i<=127*128^i:=AS _ (by omega);omega
   ·rename_i e;obtain⟨m,o,rfl,f,y⟩:=wW l (i+1) _ n t b;have p:0<m:=by omega
    refine⟨c.toNat % 128+128*m,?_,?_,?_,by omega⟩
    ·rw[o,F2,BW,GB,Ds (128^i) 128,<-G3,Ds m 128]
    ·rw[TW (n:=c.toNat % 128+128*m) (by omega),show(c.toNat % 128+128*m) % 128+128=c.toNat by omega,show(c.toNat % 128+128*m) / 128=m by omega,wV];rfl
    ·rw[F2,Ds (128^i) 128,<-G3] at f;have z:(18446744073709551616:Nat)=144115188075855872*128:=by decide
     have A:i<=8:=by
      refine OK λq=>?_
      have j:=MB (show 9<=i from q);have d:(128:Nat)^9=9223372036854775808:=by decide
      have k:1*128*128^i<=m*128*128^i:=AS _ (AS _ p);omega
     have g:(18446744073709551616:Nat)=128^(i+1)*(18446744073709551616 / 128^(i+1)):=by
      have:i=0\/i=1\/i=2\/i=3\/i=4\/i=5\/i=6\/i=7\/i=8:=by omega
      rcases this with rfl|rfl|rfl|rfl|rfl|rfl|rfl|rfl|rfl<;>decide
     have r:0<128^i:=Nat.pos_of_ne_zero (Nat.pos_iff_ne_zero.1 (SP (by decide)));have s:m<18446744073709551616 / 128^(i+1):=by refine Nat.lt_of_mul_lt_mul_left (a:=128^(i+1)) ?_;rw[<- g,F2,Ds,Ds (128^i) 128,<-G3];exact f
     have u:128^(i+1)*(m+1)<=128^(i+1)*(18446744073709551616 / 128^(i+1)):=Nat.mul_le_mul_left _ s;rw[<- g,F2] at u;have B:(c.toNat % 128+128*m)*128^i<128*(m+1)*128^i:=SM (by omega) r;have C:128*(m+1)*128^i=128^i*128*(m+1):=by rw[Ds,<-G3]
     omega
theorem wX: ∀(b a:Nat),a<128^(b+1)->(BH a).length<=b+1:=by
 intro b
 induction b with
 |zero=>intro a c;rw[FN (by simpa using c)];simp
 |succ b e=>
  intro a c;by_cases d:a<128
  ·rw[FN d];simp
  ·rw[TW d];have:=e (a / 128) (by rw[Nat.div_lt_iff_lt_mul (by decide),<-F2];exact c);simp;omega
theorem AV {n:Nat}(a:n<18446744073709551616):(BH n).length<=10:=by refine wX 9 n (GC a ?_);decide
theorem lP {l:List UInt8}{a:Nat}{t:List UInt8}(d:MR 0 0 l=some (a,t)):l=BH a++t/\a<18446744073709551616:=by obtain⟨m,b,e,c,_⟩:=wW l 0 0 a t d;simp at b c;subst b;exact⟨e,c⟩
theorem N8 {a:Nat}(b:a<18446744073709551616)(t:List UInt8):MR 0 0 (BH a++t)=some (a,t):=by rw[iv t a 0 0 (by simpa using b) (.inl rfl)];simp
theorem XJ {b m:Nat}{s t:List UInt8}(c:b<18446744073709551616)(d:m<18446744073709551616)(e:BH b++s=BH m++t):b=m/\s=t:=by have a:=N8 c s;rw[e,N8 d t] at a;simp at a;exact⟨a.1.symm,a.2.symm⟩
def lQ(c:Nat):Nat:=if c % 2=1 then c / 2 ^^^ 3988292384 else c / 2
def nU:Nat->Nat->Nat
 |0,c=>c
 |k+1,c=>lQ (nU k c)
def nV(c:Nat)(b:UInt8):Nat:=nU 8 (c ^^^ b.toNat)
def iw(l:List UInt8):Nat:=l.foldl nV 4294967295
def iS(l:List UInt8):Nat:=4294967295-iw l
theorem AMW {c:Nat}(a:c<4294967296):lQ c<4294967296:=by
 unfold lQ;split
 ·exact Lo (n:=32) (by omega) (by decide)
 ·omega
theorem qK {c:Nat}(a:c<4294967296): ∀k,nU k c<4294967296
 |0=>a
 |k+1=>AMW (qK a k)
theorem ARP {c:Nat}(a:c<4294967296)(b:UInt8):nV c b<4294967296:=by have d:b.toNat<256:=b.toNat_lt;exact qK (Lo (n:=32) a (by omega)) 8
theorem ANG(l:List UInt8)(b:UInt8):iw (l++ [b])=nV (iw l) b:=by simp[iw]
theorem wY(l:List UInt8):iw l<4294967296:=by
 unfold iw
 suffices ∀(l:List UInt8) (c:Nat),c<4294967296->l.foldl nV c<4294967296 from this l _ (by decide)
 intro l
 induction l with
 |nil=>exact λc a=>a
 |cons x l b=>exact λc a=>b _ (ARP a x)
def Qr(a:Nat):List UInt8:= [CX (a / 16777216 % 256),CX (a / 65536 % 256),CX (a / 256 % 256),CX (a % 256)]
theorem KU(a:Nat):(Qr a).length=4:=rfl
def Cb(l:List UInt8):List UInt8:=BH l.length++Qr (iS l)++l
def Gq(l:List UInt8):Nat×List UInt8×List UInt8:=
 match MR 0 0 l with
 |none=>if l.length<10/\ ∀c∈l,128<=c.toNat then(20,[],[]) else(21,[],[])
 |some (a,b)=>
  if 1048576<a then(21,[],[]) else if b.length<4+a then(20,[],[])
  else if b.take 4=Qr (iS ((b.drop 4).take a)) then(0,(b.drop 4).take a,b.drop (4+a)) else(21,[],[])
theorem wZ {l:List UInt8}(d:l.length<=1048576)(t:List UInt8):Gq (Cb l++t)=(0,l,t):=by
 unfold Gq Cb;rw[A4,A4,N8 (by omega)];dsimp only;rw[if_neg (by omega),if_neg (by simp[KU])];have b:(Qr (iS l)++(l++t)).take 4=Qr (iS l):=by rw[NO (by simp[KU])];exact AE (by simp[KU])
 have a:(Qr (iS l)++(l++t)).drop 4=l++t:=by rw[MT (by simp[KU])];simp[Qr]
 have c:(l++t).take l.length=l:=by simp
 rw[b,a,c,if_pos rfl,<-HN,a];simp
structure Rd where
 rest:List UInt8
 bad:Bool
def Rd.fail:Rd:=⟨[],true⟩
def G7(a:Rd):Nat×Rd:=if a.bad then(0,a) else match MR 0 0 a.rest with|none=>(0,Rd.fail)|some (b,t)=>(b,⟨t,false⟩)
def Bt(b:Nat)(a:Rd):Nat×Rd:=if(G7 a).2.bad then(0,(G7 a).2) else if b<(G7 a).1 then(0,Rd.fail) else G7 a
def KN(b:Nat)(a:Rd):List UInt8×Rd:=if a.bad then([],a) else if a.rest.length<b then([],Rd.fail) else(a.rest.take b,⟨a.rest.drop b,false⟩)
def FY(a:Rd):List UInt8×Rd:=if(G7 a).2.bad then([],(G7 a).2) else KN (G7 a).1 (G7 a).2
def YR(a:Rd):Bool:= !a.bad&&a.rest.isEmpty
def BG(l:List UInt8):List UInt8:=BH l.length++l
theorem xf {a:Nat}(b:a<18446744073709551616)(t:List UInt8):G7 ⟨BH a++t,false⟩=(a,⟨t,false⟩):=by simp[G7,N8 b]
theorem Ci {n most:Nat}(a:n<18446744073709551616)(b:n<=most)(t:List UInt8):Bt most ⟨BH n++t,false⟩=(n,⟨t,false⟩):=by simp only[Bt,xf a];simp;omega
theorem xk(l t:List UInt8):KN l.length ⟨l++t,false⟩=(l,⟨t,false⟩):=by simp[KN];omega
theorem JQ {l:List UInt8}(a:l.length<18446744073709551616)(t:List UInt8):FY ⟨BG l++t,false⟩=(l,⟨t,false⟩):=by simp only[FY,BG,A4,xf a,xk];simp
theorem ANv {a:Rd}(b:a.bad=true):G7 a=(0,a):=by simp[G7,b]
theorem xl {r:Rd}(a:(G7 r).2.bad=false):r.bad=false/\r.rest=BH (G7 r).1++(G7 r).2.rest/\(G7 r).1<18446744073709551616:=by
 unfold G7 at a ⊢;split at a
 ·rename_i b;rw[a] at b;cases b
 ·rename_i b;cases c:MR 0 0 r.rest with
  |none=>rw[c] at a;cases a
  |some p=>
   obtain⟨f,t⟩:=p;obtain⟨d,e⟩:=lP c;simp only[b];exact⟨by simp,d,e⟩
theorem Fa {a:Rd}{m:Nat}(b:(Bt m a).2.bad=false):a.bad=false/\a.rest=BH (Bt m a).1++(Bt m a).2.rest/\(Bt m a).1<=m:=by
 unfold Bt at b ⊢;split at b
 ·rename_i c;rw[b] at c;cases c
 ·split at b
  ·cases b
  ·rename_i c d;rw[if_neg c,if_neg d];obtain⟨e,f,_⟩:=xl b;exact⟨e,f,by omega⟩
theorem AKW {a:Rd}{b:Nat}(c:(KN b a).2.bad=false):a.bad=false/\a.rest=(KN b a).1++(KN b a).2.rest/\(KN b a).1.length=b:=by
 unfold KN at c ⊢;split at c
 ·rename_i d;rw[c] at d;cases d
 ·split at c
  ·cases c
  ·rename_i d e;rw[if_neg d,if_neg e];exact⟨by simpa using d,by simp,by simp;omega⟩
theorem RP {r:Rd}(b:(FY r).2.bad=false):r.bad=false/\r.rest=BG (FY r).1++(FY r).2.rest:=by
 unfold FY at b ⊢;split at b
 ·rename_i a;rw[b] at a;cases a
 ·rename_i a;rw[if_neg a];obtain⟨c,d,_⟩:=xl (r:=r) (by simpa using a);obtain⟨_,e,f⟩:=AKW b;refine⟨c,?_⟩;rw[d,e,BG,A4];rw[f]
theorem Tc(a:Rd):(G7 a).2.rest.length<=a.rest.length:=by
 unfold G7;split
 ·exact A0 _
 ·split
  ·simp[Rd.fail]
  ·rename_i d t b;obtain⟨c,_⟩:=lP b;rw[c];simp
theorem Fp(m:Nat)(a:Rd):(Bt m a).2.rest.length<=a.rest.length:=by
 unfold Bt;split
 ·exact Tc a
 ·split
  ·simp[Rd.fail]
  ·exact Tc a
theorem AMc(b:Nat)(a:Rd):(KN b a).2.rest.length<=a.rest.length/\(KN b a).1.length<=a.rest.length:=by
 unfold KN;split
 ·simp
 ·split
  ·simp[Rd.fail]
  ·simp;omega
theorem Ny(a:Rd):(FY a).2.rest.length<=a.rest.length/\(FY a).1.length<=a.rest.length:=by
 unfold FY;split
 ·exact⟨Tc a,by simp⟩
 ·have:=AMc (G7 a).1 (G7 a).2;have:=Tc a;omega
def Fy:cy UInt8 where
 enc x:= [.int .u8 (x.toNat:Int)]
 w:=1
 len _:=rfl
 pos:=by omega
 one x v a:=by simp at a;subst a;rfl
theorem Cells.byte {b:aa}{a:Q6}{x:UInt8}(c:Cells b a (Fy.enc x)):ag b a=some (.int .u8 (x.toNat:Int)):=by have d:=c 0 _ rfl;rwa [add_zero] at d
theorem xn: ∀(l:List UInt8) (s:A2P),(l.map λc=>(c.toNat:Int)).foldl (λa b=>a.push (UInt8.ofNat b.toNat)) s=⟨s.data++l.toArray⟩
 | [],s=>by simp
 |c::l,s=>by
  simp only[C2,HU];rw[xn l];simp[ByteArray.push,Array.append_assoc]
theorem KS {e:ak}{P:Q1}{g h i:Q7}(m:P.underlying g=some (.slice i))(n:P.underlying i=some (.int .u8))(hd:P.underlying h=some .string){b:aa}{s:Sl}{l:List UInt8}{K:A2O}
  (v:View Fy b s l) (o:K (.string (AX l)) b):BB e P (convert g h (.slice s.p s.len s.cap)) b K:=by
 have p:=v.len;refine λf=>⟨_,b,f,?_,o⟩
 rw[run_convert_bytes_string _ g h i _ s.len s.cap m n hd];cases j:s.p with
 |none=>
  have q:l= []:=by
   cases l with
   |nil=>rfl
   |cons c l=>
    obtain⟨a,d,_⟩:=v.cells 0 c rfl;rw[j] at d;cases d
  subst q;simp[Conv.bytesToString,AX];rfl
 |some a=>
  have r:(loadCells a s.len).run P (e.at b f)= .ok ((l.map λc=>(c.toNat:Int)).map (Value.int .u8)).toArray (e.at b f):=by
   have:=run_loadCells_list (P:=P) (w:=e.at b f) a ((l.map λc=>(c.toNat:Int)).map (Value.int .u8)) (λt u k=>by
    simp only[Bk,Option.map_map,A0j] at k;obtain⟨c,x,rfl⟩:=k;obtain⟨z,d,y⟩:=v.cells t c x;rw[j] at d;cases d;have:=Cells.byte y;simp only[Fy,By] at this;exact this)
   simpa [p] using this
  rw[run_bytesToString _ a s.len s.cap _ r,xn];simp[AX,ByteArray.empty,ByteArray.emptyWithCapacity];rfl
theorem dQ(s:A2P)(i a:Nat):s.extract i a=AX ((s.data.toList.take a).drop i):=by apply SR;rw[SU,AX];apply Array.toList_inj.1;simp[SW,List.extract_eq_take_drop,List.drop_take]
theorem xo(s:A2P):s.data.toList.length=s.size:=by rw[DQ];rfl
theorem qL(s:A2P)(i:Nat):s.extract i s.size=AX (s.data.toList.drop i):=by rw[dQ,AE (by rw[xo];exact A0 _)]
theorem ANu(s:A2P)(i:Nat):s.extract 0 i=AX (s.data.toList.take i):=by rw[dQ];simp
theorem wrap_u8(a:Nat):J8 .u8 (a:Int)=((a % 256:Nat):Int):=by simp[J8,IntKind.bits,IntKind.signed]
theorem xp {a b:Nat}(c:a<256)(d:b<256):dX .u8 (a:Int) (b:Int)=((a ||| b:Nat):Int):=by
 have e:a ||| b<2^8:=KB (by simpa using c) (by simpa using d);unfold dX;have f:(BitVec.ofInt (IntKind.bits .u8) (a:Int) ||| BitVec.ofInt (IntKind.bits .u8) (b:Int)).toNat=a ||| b:=by show(BitVec.ofInt 8 (a:Int) ||| BitVec.ofInt 8 (b:Int)).toNat=a ||| b;rw[BitVec.ofInt_natCast,BitVec.ofInt_natCast,BitVec.toNat_or,BitVec.toNat_ofNat,BitVec.toNat_ofNat,Ax (by simpa using c),Ax (by simpa using d)]
 rw[f,wrap_u8,Ax (by simpa using e)]
theorem xq {a b:Nat}(c:a<256)(d:b<256):Gb .u8 (a:Int) (b:Int)=((a &&& b:Nat):Int):=by
 have e:a &&& b<2^8:=RT Nat.and_le_left (by simpa using c);unfold Gb;have f:(BitVec.ofInt (IntKind.bits .u8) (a:Int) &&& BitVec.ofInt (IntKind.bits .u8) (b:Int)).toNat=a &&& b:=by show(BitVec.ofInt 8 (a:Int) &&& BitVec.ofInt 8 (b:Int)).toNat=a &&& b;rw[BitVec.ofInt_natCast,BitVec.ofInt_natCast,BitVec.toNat_and,BitVec.toNat_ofNat,BitVec.toNat_ofNat,Ax (by simpa using c),Ax (by simpa using d)]
 rw[f,wrap_u8,Ax (by simpa using e)]
theorem AQ2 {a b:Nat}(c:a<4294967296)(d:b<4294967296):Gb .u32 (a:Int) (b:Int)=((a &&& b:Nat):Int):=by
 have e:a &&& b<2^32:=RT Nat.and_le_left (by simpa using c);unfold Gb;have f:(BitVec.ofInt (IntKind.bits .u32) (a:Int) &&& BitVec.ofInt (IntKind.bits .u32) (b:Int)).toNat=a &&& b:=by show(BitVec.ofInt 32 (a:Int) &&& BitVec.ofInt 32 (b:Int)).toNat=a &&& b;rw[BitVec.ofInt_natCast,BitVec.ofInt_natCast,BitVec.toNat_and,BitVec.toNat_ofNat,BitVec.toNat_ofNat,Ax (by simpa using c),Ax (by simpa using d)]
 rw[f,wrap_u32,Ax (by simpa using e)]
theorem ATo: ∀x,x<256->x ||| 128=x % 128+128:=by decide +kernel
theorem ASb: ∀x,x<256->x &&& 127=x % 128:=by decide +kernel
theorem APy(c:Nat):dX .u8 (J8 .u8 (c:Int)) (128:Int)=(((CX (c % 128+128)).toNat:Nat):Int):=by have d:=xp (a:=c % 256) (b:=128) (CM _ (by decide)) (by decide);rw[wrap_u8];rw[show(128:Int)=((128:Nat):Int) from rfl,d,ATo _ (CM _ (by decide)),Df (by omega)];congr 1;omega
theorem qM(i:Nat):2^(7*i)=128^i:=by rw[Nat.pow_mul]
theorem AQf {a x i:Nat}(d:i<=9)(e:a<128^i)(f:x<128):dX .u64 (a:Int) (((x*128^i % 18446744073709551616:Nat)):Int)=((a+x*128^i % 18446744073709551616:Nat):Int):=by
 have g:0<128^i:=SP (by decide);have h:=MB d;have j:(128:Nat)^9=9223372036854775808:=by decide
 rw[qI (by omega) (CM _ (by decide))];congr 1;have b: ∃c,(18446744073709551616:Nat)=128^i*c:=by
  have:i=0\/i=1\/i=2\/i=3\/i=4\/i=5\/i=6\/i=7\/i=8\/i=9:=by omega
  refine⟨18446744073709551616 / 128^i,?_⟩;rcases this with rfl|rfl|rfl|rfl|rfl|rfl|rfl|rfl|rfl|rfl<;>decide
 obtain⟨c,b⟩:=b;rw[b,Ds x,Nat.mul_mod_mul_left,<-qM,Nat.or_comm,Nat.add_comm];exact(A0P (by rw[qM];exact e) _).symm
theorem ASy {x i:Nat}(b:i<=9)(c:x<128):J8 .u64 (((x:Nat):Int)*((2:Int)^(min ((7*i:Nat):Int).toNat (IntKind.bits .u64))))=((x*128^i % 18446744073709551616:Nat):Int):=by
 have a:min ((7*i:Nat):Int).toNat (IntKind.bits .u64)=7*i:=by have:IntKind.bits .u64=64:=rfl;omega
 rw[a,show((2:Int)^(7*i))=((2^(7*i):Nat):Int) by simp,qJ,wrap_u64,qM]
theorem Mod.more {a d e:aa}{f:Nat->Prop}(x:Ext a d)(m:Mod f d e)(g: ∀b,f b->a.size<=b):Ext a e:=
 Mod.then x (m.ai λc _ h=> .inr (g c h))
abbrev bl(s:A2P):List UInt8:=s.data.toList
theorem Av(s:A2P):(bl s).length=s.size:=xo s
theorem EN(l:List UInt8):bl (AX l)=l:=Cc l
def Ai(s:A2P):Bool:=decide (1<=s.size/\s.size<=16/\ ∀c∈bl s,33<=c.toNat/\c.toNat<=126)
theorem FK {s:A2P}:Ai s=true↔1<=s.size/\s.size<=16/\ ∀c∈bl s,33<=c.toNat/\c.toNat<=126:=by simp[Ai]
structure bP where
 kind:Int
 name:A2P
 aE:A2P
 tries:Int
 aq:Int
 wait:Int
def bP.cells(x:bP):Array J0:= #[J6 J9 x.kind,J7 x.name,J7 x.aE,J6 J9 x.tries,J6 J9 x.aq,J6 J9 x.wait]
def Lr:cy bP where
 enc x:= [J6 J9 x.kind,J7 x.name,J7 x.aE,J6 J9 x.tries,J6 J9 x.aq,J6 J9 x.wait]
 w:=6
 len _:=rfl
 pos:=by omega
 one x v a:=by simp at a;rcases a with rfl|rfl|rfl|rfl|rfl|rfl<;>rfl
abbrev Fg:A2P:=⟨#[]⟩
def bS(a b c:Int):Bool:=decide (b<=a/\a<=c)
theorem BX {a b c:Int}:bS a b c=true↔b<=a/\a<=c:=by simp[bS]
def KW(x:bP):Bool:=
 if x.kind=1 then((decide (x.aE=Fg)&&decide (x.aq=0))||(Ai x.aE&&bS x.aq 1 5))&&Ai x.name&&bS x.tries 1 5&&decide (x.wait=0)
 else if x.kind=2 then decide (x.name=Fg)&&decide (x.aE=Fg)&&decide (x.tries=0)&&decide (x.aq=0)&&bS x.wait 1 1000
 else if x.kind=3 then decide (x.aE=Fg)&&decide (x.tries=0)&&decide (x.aq=0)&&decide (x.wait=0)&&Ai x.name
 else false
structure cj where
 steps:List bP
 ar:Int
def EA(p:cj):Bool:=decide (p.steps.length<=16)&&bS p.ar 0 16000&&p.steps.all KW
def EY(x:bP):List UInt8:=BH x.kind.toNat++
 (if x.kind=1 then BG (bl x.name)++BH x.tries.toNat++BG (bl x.aE)++BH x.aq.toNat else if x.kind=2 then BH x.wait.toNat else BG (bl x.name))
def Bd(p:cj):List UInt8:=BH p.ar.toNat++BH p.steps.length++p.steps.flatMap EY
def MU(g e h:Nat)(i:Bool)(j:Rd):bP×Rd:=
 let d:=Bt g j
 if d.1=1 then
  let a:=FY d.2
  let b:=Bt e a.2
  let c:=FY b.2
  let f:=Bt e c.2
  (⟨1,AX a.1,AX c.1,b.1,f.1,0⟩,f.2)
 else if d.1=2 then
  let a:=Bt h d.2
  (⟨2,Fg,Fg,0,0,a.1⟩,a.2)
 else if d.1=3\/i=true then
  let a:=FY d.2
  (⟨d.1,AX a.1,Fg,0,0,0⟩,a.2)
 else(⟨d.1,Fg,Fg,0,0,0⟩,d.2)
def Hg(b c d:Nat)(e:Bool):Nat->Rd->List bP×Rd
 |0,a=>([],a)
 |n+1,a=>let x:=MU b c d e a;let f:=Hg b c d e n x.2;(x.1::f.1,f.2)
def YW(c d e f:Nat)(g:Bool)(l:List UInt8):cj×Rd:=
 let a:=Bt c ⟨l,false⟩
 let b:=Bt 16 a.2
 let s:=Hg d e f g b.1 b.2
 (⟨s.1,a.1⟩,s.2)
def JF(l:List UInt8):Option cj:=let x:=YW 16000 3 5 1000 false l;if YR x.2&&EA x.1 then some x.1 else none
theorem uU {a:Rd}:YR a=true↔a=⟨[],false⟩:=by obtain⟨l,b⟩:=a;cases b<;>cases l<;>simp[YR]
theorem AOv {a b c:Int}(d:bS a b c=true)(e:0<=b):((a.toNat:Nat):Int)=a:=by rw[BX] at d;omega
theorem ANH {s:A2P}(a:Ai s=true):s≠Fg:=by rintro rfl;rw[FK] at a;have:Fg.size=0:=rfl;omega
theorem AMb {c f h:Nat}{q:Bool}(r:3<=c)(G:5<=f)(H:1000<=h){x:bP}(a:KW x=true)(t:List UInt8):MU c f h q ⟨EY x++t,false⟩=(x,⟨t,false⟩):=by
 obtain⟨I,o,p,u,i,v⟩:=x;have j: ∀ {s:A2P},s.size<=16->(bl s).length<18446744073709551616:=λg=>by rw[Av];omega
 have k: ∀ {s:A2P},Ai s=true->s.size<=16:=λg=>(FK.1 g).2.1
 unfold KW at a;split at a
 ·rename_i b;simp only at b;subst b;simp only[A3,Cp,decide_eq_true_eq] at a;obtain⟨⟨⟨w,m⟩,y⟩,rfl⟩:=a;have z:p.size<=16/\0<=i/\i<=5:=by
   rcases w with⟨rfl,rfl⟩|⟨g,A⟩
   ·exact⟨by decide,by omega,by omega⟩
   ·rw[BX] at A;exact⟨k g,by omega,by omega⟩
  rw[BX] at y;have d:=Ci (n:=(1:Int).toNat) (most:=c) (by decide) (by simpa using(by omega:1<=c));have e:=JQ (l:=bl o) (j (k m));have B:=Ci (n:=u.toNat) (most:=f) (by omega) (by omega);have C:=JQ (l:=bl p) (j z.1);have D:=Ci (n:=i.toNat) (most:=f) (by omega) (by omega);simp only[MU,EY,if_true,A4,d,e,B,C,D];rw[if_pos (by decide)];simp[DL];omega
 ·split at a
  ·rename_i E b;simp only at b;subst b;simp only[A3,decide_eq_true_eq] at a;obtain⟨⟨⟨⟨rfl,rfl⟩,rfl⟩,rfl⟩,F⟩:=a;rw[BX] at F;have d:=Ci (n:=(2:Int).toNat) (most:=c) (by decide) (by simpa using(by omega:2<=c));have e:=Ci (n:=v.toNat) (most:=h) (by omega) (by omega);simp only[MU,EY,if_true,A4,d];rw[if_neg (by decide),if_pos (by decide),if_neg (by decide),e];simp;omega
  ·split at a
   ·rename_i E J b;simp only at b;subst b;simp only[A3,decide_eq_true_eq] at a;obtain⟨⟨⟨⟨rfl,rfl⟩,rfl⟩,rfl⟩,m⟩:=a;have d:=Ci (n:=(3:Int).toNat) (most:=c) (by decide) (by simpa using r);have e:=JQ (l:=bl o) (j (k m));simp only[MU,EY,if_true,A4,d];rw[if_neg (by decide),if_neg (by decide),if_pos (.inl (by decide)),if_neg (by decide),if_neg (by decide),e];simp[DL]
   ·cases a
theorem uV {b c d:Nat}{all:Bool}(e:3<=b)(f:5<=c)(g:1000<=d)(t:List UInt8): ∀ {l:List bP},l.all KW=true->Hg b c d all l.length ⟨l.flatMap EY++t,false⟩=(l,⟨t,false⟩)
 | [],_=>rfl
 |x::l,a=>by
  simp only[Kf,A3] at a;simp only[A6,Hg,AI,A4,AMb e f g a.1,uV e f g t a.2]
theorem AME {a b c d:Nat}{all:Bool}(s:16000<=a)(h:3<=b)(i:5<=c)(j:1000<=d){p:cj}(e:EA p=true):YW a b c d all (Bd p)=(p,⟨[],false⟩):=by obtain⟨l,k⟩:=p;simp only[EA,A3,decide_eq_true_eq] at e;obtain⟨⟨m,f⟩,o⟩:=e;have t:=BX.1 f;have q:=Ci (n:=k.toNat) (most:=a) (by omega) (by omega);have r:=Ci (n:=l.length) (most:=16) (by omega) m;have g:=uV (all:=all) h i j [] o;rw[AN] at g;simp only[YW,Bd,A4,q,r,g,AOv f (by decide)]
theorem uW {p:cj}(a:EA p=true):JF (Bd p)=some p:=by simp only[JF,AME (A0 _) (A0 _) (A0 _) (A0 _) a,a];rfl
theorem AKN {j k l:Nat}{m:Bool}{e:Rd}(a:(MU j k l m e).2.bad=false):e.bad=false/\(KW (MU j k l m e).1=true->e.rest=EY (MU j k l m e).1++(MU j k l m e).2.rest):=by
 unfold MU at a ⊢;simp only at a ⊢;split at a
 ·rename_i b;obtain⟨o,p,_⟩:=Fa a;obtain⟨q,r⟩:=RP o;obtain⟨s,t,_⟩:=Fa q;obtain⟨g,h⟩:=RP s;obtain⟨c,f,_⟩:=Fa g;refine⟨c,λ_=>?_⟩;rw[if_pos b];simp only[EY,if_true,EN,As];rw[f,b,h,t,r,p];simp[A4]
 ·split at a
  ·rename_i i b;obtain⟨g,h,_⟩:=Fa a;obtain⟨c,f,_⟩:=Fa g;refine⟨c,λ_=>?_⟩;rw[if_neg i,if_pos b];simp only[EY,As];rw[if_neg (by decide),if_pos trivial,f,b,h];simp[A4]
  ·split at a
   ·rename_i i n b;obtain⟨g,h⟩:=RP a;obtain⟨c,f,_⟩:=Fa g;refine⟨c,λd=>?_⟩;rw[if_neg i,if_neg n,if_pos b] at d ⊢;simp only[EY,EN,As];rw[if_neg (by omega),if_neg (by omega),f,h];simp[A4]
   ·rename_i i n b;obtain⟨c,f,_⟩:=Fa a;refine⟨c,λd=>?_⟩;rw[if_neg i,if_neg n,if_neg b] at d;exfalso;unfold KW at d;simp only at d;rw[if_neg (by omega),if_neg (by omega),if_neg (by omega)] at d;cases d
theorem uX {b c d:Nat}{e:Bool}: ∀(n:Nat) {a:Rd},(Hg b c d e n a).2.bad=false->a.bad=false/\(Hg b c d e n a).1.length=n/\((Hg b c d e n a).1.all KW=true->a.rest=(Hg b c d e n a).1.flatMap EY++(Hg b c d e n a).2.rest)
 |0,a,f=>⟨f,rfl,λ_=>rfl⟩
 |n+1,a,f=>by
  simp only[Hg] at f ⊢;obtain⟨h,i,j⟩:=uX n f;obtain⟨k,l⟩:=AKN h;refine⟨k,by simp[i],λg=>?_⟩;simp only[Kf,A3] at g;rw[l g.1,j g.2];simp[A4]
theorem uY {l:List UInt8}{p:cj}(a:JF l=some p):EA p=true/\Bd p=l:=by
 unfold JF at a;simp only at a;split at a
 ·rename_i f;simp only[A3] at f;obtain⟨d,b⟩:=f;obtain rfl:=Bs a;refine⟨b,?_⟩;rw[uU] at d;have g:(YW 16000 3 5 1000 false l).2.bad=false:=by rw[d]
  have h:(YW 16000 3 5 1000 false l).2.rest= []:=by rw[d]
  simp only[YW] at g h b ⊢;obtain⟨i,j,c⟩:=uX _ g;obtain⟨k,m,_⟩:=Fa i;obtain⟨n,e,_⟩:=Fa k;simp only[EA,A3] at b;have c:=c b.2;rw[h,AN] at c;simp only[Bd,As,j];have e:l=BH (Bt 16000 ⟨l,false⟩).1++(Bt 16000 ⟨l,false⟩).2.rest:=e;rw[<- c,A4,<-m,<-e]
 ·cases a
inductive Fv where
 |i (n:Int)
 |s (x:A2P)
 |b (x:Bool)
 deriving DecidableEq
def Fv.v:Fv->J0
 | .i a=>J6 J9 a
 | .s x=>J7 x
 | .b x=>J3 x
def Fv.ok(P:Q1)(t:Q7):Fv->Bool
 | .i _=>match P.underlying t with|some (.int J9)=>true|_=>false
 | .s _=>match P.underlying t with|some .string=>true|_=>false
 | .b _=>match P.underlying t with|some .bool=>true|_=>false
def qk:Fv->Fv->Bool
 | .i _,.i _=>true
 | .s _,.s _=>true
 | .b _,.b _=>true
 |_,_=>false
def jZ(P:Q1):Nat->List Field->List Fv->Bool
 |_,[],[]=>true
 |i,f::a,x::b=> !(f.name==String.ofList [Char.ofNat 95])&&Nat.beq f.offset i&&x.ok P f.type&&jZ P (i+1) a b
 |_,_,_=>false
def cV:List Fv->List Fv->Bool
 | [],[]=>true
 |x::a,b::c=>qk x b&&cV a c
 |_,_=>false
theorem AQz {P:Q1}{e:Nat}{t:Q7}{x f:Fv}(g:x.ok P t=true)(h:qk x f=true)(c:World):(Op.equalIn (e+1) t x.v f.v).run P c= .ok (decide (x=f)) c:=by
 cases x<;>cases f<;>simp only[qk,Cl] at h<;>simp only[Fv.ok] at g<;>split at g<;>(try cases g)
 ·rename_i i m _ d;simp only[Fv.v];rw[run_equalIn_int c e t J9 J9 i m d];simp only[Fv.i.injEq];rfl
 ·rename_i a b _ d;simp only[Fv.v];rw[run_equalIn_string c e t a b d,toList_inj];simp only[Fv.s.injEq]
 ·rename_i a b _ d;simp only[Fv.v];rw[run_equalIn_bool' c e t a b d];simp only[Fv.b.injEq];cases a<;>cases b<;>rfl
theorem Fv.plain {P:Q1}{t:Q7}{x:Fv}(a:x.ok P t=true):P.plainKey t=true:=by cases x<;>simp only[Fv.ok] at a<;>split at a<;>(try cases a)<;>(rename_i b;simp[Program.plainKey,b])
theorem AQl {P:Q1}{t:Nat}(e g:List Fv)(c:World): ∀(h:List Field) (a b:List Fv) (i:Nat),e.drop i=a->g.drop i=b->jZ P i h a=true->cV a b=true->
  (Op.eqFields (t+1) (e.map Fv.v).toArray (g.map Fv.v).toArray h).run P c= .ok (decide (a=b)) c:=by
 intro h
 induction h with
 |nil=>
  intro a b i m n j d;cases a with
  |nil=>
   cases b with
   |nil=>simp[Op.eqFields]
   |cons k b=>simp[cV] at d
  |cons x a=>simp[jZ] at j
 |cons f h u=>
  intro a b i m n j d;cases a with
  |nil=>simp[jZ] at j
  |cons x a=>
   cases b with
   |nil=>simp[cV] at d
   |cons k b=>
    simp only[jZ,cV,A3,Nat.beq_eq] at j d;obtain⟨⟨⟨p,q⟩,o⟩,v⟩:=j;have w:e[i]? =some x:=by have:=congrArg (λl:List Fv=>l[0]?) m;simpa [Bm] using this
    have y:g[i]? =some k:=by have:=congrArg (λl:List Fv=>l[0]?) n;simpa [Bm] using this
    have z:e.drop (i+1)=a:=by rw[<- HN,m];rfl
    have A:g.drop (i+1)=b:=by rw[<- HN,n];rfl
    have B:(part f.type (e.map Fv.v).toArray f.offset).run P c= .ok x.v c:=run_part_plain c (Fv.plain o) (by rw[q];simp[w]);have C:(part f.type (g.map Fv.v).toArray f.offset).run P c= .ok k.v c:=run_part_plain c (Fv.plain o) (by rw[q];simp[y]);have D:=u a b (i+1) z A v d.2
    have E : String.ofList [Char.ofNat 95] = "_" := by decide
    rw[E] at p
    have r : (f.name == "_") = false := by simpa using p
    simp only[Op.eqFields,r,Sem.run_bind,Sem.run_ite,B,C,Result.andThen_ok,AQz o d.1];by_cases s:x=k
    ·simp[s,D,Result.andThen]
    ·have F : f.name ≠ "_" := by simpa using r
     simp[s,Result.andThen,F]
def ql(P:Q1)(t:Q7)(a:List Fv):Bool:= !P.stoodInHeld t&& !P.eqGuardType P.depth t&&jZ P 0 (P.fieldsOf t).toList a
theorem uZ {e:ak}{P:Q1}{t:Q7}{f g:Operand}{xs ys:List Fv}(h:P.underlying t=some (.struct (P.fieldsOf t)))(a:ql P t xs=true)(i:cV xs ys=true){b c:Array J0}
  (j:b=(xs.map Fv.v).toArray) (k:c=(ys.map Fv.v).toArray) {d:aa} {K:A2O} (l:K (J3 (decide (xs=ys))) d):
  BB e P (do eqGuard .eql t f g (.agg b) (.agg c);binOp .eql t (.agg b) (.agg c)) d K:=by
 simp only[ql,A3,CA] at a;subst j;subst k;refine λm=>⟨_,d,m,?_,l⟩
 rw[Sem.run_bind,run_eqGuard_agg _ _ _ _ _ _ _ a.1.2,Result.andThen_ok,run_eql_struct,run_equalIn_agg _ _ _ _ _ h a.1.1,AQl xs ys _ _ xs ys 0 rfl rfl a.2 i];rfl
theorem ab.two {a:aa}{b:Nat}{T:Q7}{f g d v1:J0}{K:aa->Prop}(h:a[b]? =some (J2 #[f,g] T (0,0)))
  (i: ∀c,c[b]? =some (J2 #[d,v1] T (0,0))->Mod (· =b) a c->c.size=a.size->K c):
  ab a ⟨b,0,none⟩ d λe=>ab e ((⟨b,0,none⟩:Q6).add 1) v1 K:=by
 refine ab.mk h (by simp) λe j k o=>?_
 rw[BZ];refine ab.mk j (by simp) λl m n p=>i l (by simpa using m) (k.trans n) (by omega)
theorem ab.mj {a:aa}{b:Nat}{T:Q7}{m n o p q r d v1 v2 e f g:J0}{K:aa->Prop}(s:a[b]? =some (J2 #[m,n,o,p,q,r] T (0,0)))
  (t: ∀c,c[b]? =some (J2 #[d,v1,v2,e,f,g] T (0,0))->Mod (· =b) a c->c.size=a.size->K c):
  ab a ⟨b,0,none⟩ d λh=>ab h ((⟨b,0,none⟩:Q6).add 1) v1 λi=>ab i ((⟨b,0,none⟩:Q6).add 2) v2 λj=>ab j ((⟨b,0,none⟩:Q6).add 3) e λk=>ab k ((⟨b,0,none⟩:Q6).add 4) f λl=>
   ab l ((⟨b,0,none⟩:Q6).add 5) g K:=by
 refine ab.mk s (by simp) λh u v H=>?_
 rw[BZ,BZ,BZ,BZ,BZ];refine ab.mk u (by simp) λi w x I=>?_
 refine ab.mk w (by simp) λj y z J=>?_
 refine ab.mk y (by simp) λk A B L=>?_
 refine ab.mk A (by simp) λl C D M=>?_
 refine ab.mk C (by simp) λE F G N=>t E (by simpa using F) (((((v.trans x).trans z).trans B).trans D).trans G) (by omega)
theorem ab.eight {a:aa}{b:Nat}{T:Q7}{q r s t u v w x d v1 v2 e f g h i:J0}{K:aa->Prop}(y:a[b]? =some (J2 #[q,r,s,t,u,v,w,x] T (0,0)))
  (z: ∀c,c[b]? =some (J2 #[d,v1,v2,e,f,g,h,i] T (0,0))->Mod (· =b) a c->c.size=a.size->K c):
  ab a ⟨b,0,none⟩ d λj=>ab j ((⟨b,0,none⟩:Q6).add 1) v1 λk=>ab k ((⟨b,0,none⟩:Q6).add 2) v2 λl=>ab l ((⟨b,0,none⟩:Q6).add 3) e λm=>ab m ((⟨b,0,none⟩:Q6).add 4) f λn=>
   ab n ((⟨b,0,none⟩:Q6).add 5) g λo=>ab o ((⟨b,0,none⟩:Q6).add 6) h λp=>ab p ((⟨b,0,none⟩:Q6).add 7) i K:=by
 refine ab.mk y (by simp) λj A B S=>?_
 rw[BZ,BZ,BZ,BZ,BZ,BZ,BZ];refine ab.mk A (by simp) λk C D U=>?_
 refine ab.mk C (by simp) λl E F V=>?_
 refine ab.mk E (by simp) λm G H W=>?_
 refine ab.mk G (by simp) λn I J X=>?_
 refine ab.mk I (by simp) λo L M Y=>?_
 refine ab.mk L (by simp) λp N O Z=>?_
 refine ab.mk N (by simp) λP Q R ac=>z P (by simpa using Q) (((((((B.trans D).trans F).trans H).trans J).trans M).trans O).trans R) (by omega)
theorem ab.bQ {a:aa}{b j:Nat}{v:J0}{d dH:Array J0}{T:Q7}{K:aa->Prop}(e:a[b]? =some (J2 d T (0,0)))(f:j<d.size)(g:d.setIfInBounds j v=dH)
  (h: ∀c,c[b]? =some (J2 dH T (0,0))->Mod (· =b) a c->c.size=a.size->K c):ab a ((⟨b,0,none⟩:Q6).add j) v K:=by
 rw[BZ,AK];exact ab.mk e f λi k=>h i (by rw[<- g];exact k)
structure Ev where
 id:Int
 kind:Int
 tick:Int
 ref:Int
 step:Int
 turn:Int
 aE:Bool
 data:A2P
def fT:cy Ev where
 enc x:= [J6 J9 x.id,J6 J9 x.kind,J6 J9 x.tick,J6 J9 x.ref,J6 J9 x.step,J6 J9 x.turn,J3 x.aE,J7 x.data]
 w:=8
 len _:=rfl
 pos:=by omega
 one x v a:=by simp at a;rcases a with rfl|rfl|rfl|rfl|rfl|rfl|rfl|rfl<;>rfl
def Ev.fv(x:Ev):List Fv:= [.i x.id,.i x.kind,.i x.tick,.i x.ref,.i x.step,.i x.turn,.b x.aE,.s x.data]
theorem Ev.jb {x a:Ev}:x.fv=a.fv↔x=a:=by cases x;cases a;simp[Ev.fv]
instance:DecidableEq Ev:=λx y=>decidable_of_iff (x.fv=y.fv) Ev.jb
def cW(a:Int):Bool:=decide (a=3\/a=4\/a=5\/a=11\/a=7\/a=8\/a=9)
def di(a:Int):Bool:=decide (a=6\/a=10)
def dx(a:Int):Bool:=decide (a=7\/a=8\/a=9)
def dP(a:Int):Bool:=decide (a=6)
def dU(a:Int):Bool:=decide (a=1\/a=12)
def cX(f:Bool)(a b c:Int):Bool:=if f then bS a b c else decide (a=0)
def Eo(a:Ev):Bool:=bS a.kind 1 18&&bS a.id 1 500&&bS a.tick 0 1099511627776&&cX (cW a.kind) a.ref 1 (a.id-1)&&cX (di a.kind) a.step 0 15&&cX (dx a.kind) a.turn 1 5&&
 (!a.aE||dP a.kind)&&(decide (a.data=Fg)||dU a.kind)
def Lg(a:Ev):Bool:=if a.kind=1 then(JF (bl a.data)).isSome else if a.kind=12 then Ai a.data else true
def FQ(a:Ev):Bool:=Eo a&&Lg a
def Sn(f:Bool)(a:Int):List UInt8:=if f then BH a.toNat else []
def gB(f:Bool)(s:A2P):List UInt8:=if f then BG (bl s) else []
def NP(a:Ev):List UInt8:=BH a.id.toNat++(BH a.kind.toNat++(BH a.tick.toNat++(Sn (cW a.kind) a.ref++(Sn (di a.kind) a.step++(Sn (dx a.kind) a.turn++(Sn (dP a.kind) (if a.aE then 1 else 0)++gB (dU a.kind) a.data))))))
structure jz where
 id:Nat
 kind:Nat
 tick:Nat
 ref:Nat
 step:Nat
 turn:Nat
def jz.wide(b:jz):Prop:=500<=b.id/\18<=b.kind/\1099511627776<=b.tick/\500<=b.ref/\15<=b.step/\5<=b.turn
def fx:jz:=⟨500,18,1099511627776,500,15,5⟩
def EX(f:Bool)(m:Nat)(a:Rd):Nat×Rd:=if f then Bt m a else(0,a)
def Te(f:Bool)(a:Rd):List UInt8×Rd:=if f then FY a else([],a)
def Pt(b:jz)(f:Rd):Ev×Rd:=
 let i:=Bt b.id f
 let c:=Bt b.kind i.2
 let t:=Bt b.tick c.2
 let a:=EX (cW c.1) b.ref t.2
 let s:=EX (di c.1) b.step a.2
 let d:=EX (dx c.1) b.turn s.2
 let u:=EX (dP c.1) 1 d.2
 let e:=Te (dU c.1) u.2
 (⟨i.1,c.1,t.1,a.1,s.1,d.1,decide (u.1=1),AX e.1⟩,e.2)
def jA(l:List UInt8):Option Ev:=let x:=Pt fx ⟨l,false⟩;if YR x.2&&FQ x.1 then some x.1 else none
theorem X8 {f:Bool}{n:Int}{m:Nat}(a:cX f n 0 m=true)(b:m<18446744073709551616)(t:List UInt8):EX f m ⟨Sn f n++t,false⟩=(n.toNat,⟨t,false⟩):=by
 cases f with
 |false=>simp[cX] at a;subst a;rfl
 |true=>
  simp only[cX,if_true,BX] at a;simp only[EX,Sn,if_true];exact Ci (by omega) (by omega) t
theorem qm {f:Bool}{a b c d e:Int}(g:cX f a b c=true)(h:d<=b)(i:c<=e):cX f a d e=true:=by
 cases f with
 |false=>exact g
 |true=>simp only[cX,if_true,BX] at g ⊢;omega
theorem qn {f:Bool}{a c d:Int}(b:cX f a c d=true)(e:0<=c):((a.toNat:Nat):Int)=a:=by
 cases f with
 |false=>simp[cX] at b;subst b;rfl
 |true=>simp only[cX,if_true,BX] at b;omega
theorem APP {f:Bool}{s:A2P}(a:(decide (s=Fg)||f)=true)(b:s.size<18446744073709551616)(t:List UInt8):Te f ⟨gB f s++t,false⟩=(bl s,⟨t,false⟩):=by
 cases f with
 |false=>simp at a;subst a;rfl
 |true=>
  simp only[Te,gB,if_true];exact JQ (by rw[Av];exact b) t
theorem Lt {a:Ev}(b:FQ a=true):Eo a=true:=by simp only[FQ,A3] at b;exact b.1
theorem APp {b:jz}(l:b.wide)(e:b.ref<18446744073709551616/\b.step<18446744073709551616/\b.turn<18446744073709551616){c:Ev}(g:Eo c=true)(hd:c.data.size<18446744073709551616)(t:List UInt8):Pt b ⟨NP c++t,false⟩=(c,⟨t,false⟩):=by
 obtain⟨id,a,tick,o,step,turn,d,p⟩:=c;simp only[Eo,A3] at g;obtain⟨⟨⟨⟨⟨⟨⟨q,r⟩,u⟩,h⟩,i⟩,j⟩,k⟩,v⟩:=g;obtain⟨M,N,O,P,Q,R⟩:=l;have S:=BX.1 q;have T:=BX.1 r;have U:=BX.1 u;have w:=Ci (n:=id.toNat) (most:=b.id) (by omega) (by omega);have x:=Ci (n:=a.toNat) (most:=b.kind) (by omega) (by omega);have y:=Ci (n:=tick.toNat) (most:=b.tick) (by omega) (by omega);have z:((a.toNat:Nat):Int)=a:=by omega
 have A:=X8 (f:=cW a) (n:=o) (m:=b.ref) (qm h (by omega) (by omega)) e.1;have B:=X8 (f:=di a) (n:=step) (m:=b.step) (qm i (by omega) (by omega)) e.2.1;have C:=X8 (f:=dx a) (n:=turn) (m:=b.turn) (qm j (by omega) (by omega)) e.2.2;have D:=X8 (f:=dP a) (n:=if d then 1 else 0) (m:=1) (by
  cases E:dP a with
  |true=>simp only[cX,if_true,BX];split<;>omega
  |false=>rw[E] at k;cases d<;>simp[cX] at k ⊢) (by decide)
 have F:=APP (f:=dU a) (s:=p) v hd;simp only[Pt,NP,A4,w,x,y,z,A,B,C,D,F];have G:decide ((if d=true then(1:Int) else 0).toNat=1)=d:=by cases d<;>rfl
 have H:=qn h (by decide);have I:=qn i (by decide);have J:=qn j (by decide);have K:((id.toNat:Nat):Int)=id:=by omega
 have L:((tick.toNat:Nat):Int)=tick:=by omega
 rw[G,H,I,J,K,L,DL]
theorem Un {f:Bool}{m:Nat}{a:Rd}(b:(EX f m a).2.bad=false):a.bad=false/\a.rest=Sn f (EX f m a).1++(EX f m a).2.rest/\(EX f m a).1<=m:=by
 cases f with
 |false=>exact⟨b,rfl,AG _⟩
 |true=>
  simp only[EX,Sn,if_true,As] at b ⊢;exact Fa b
theorem ANJ {f:Bool}{a:Rd}(b:(Te f a).2.bad=false):a.bad=false/\a.rest=gB f (AX (Te f a).1)++(Te f a).2.rest:=by
 cases f with
 |false=>exact⟨b,rfl⟩
 |true=>
  simp only[Te,gB,if_true,EN] at b ⊢;exact RP b
theorem AML {b:jz}{r:Rd}(c:(Pt b r).2.bad=false):r.bad=false/\r.rest=NP (Pt b r).1++(Pt b r).2.rest:=by
 simp only[Pt] at c ⊢;obtain⟨d,e⟩:=ANJ c;obtain⟨f,g,h⟩:=Un d;obtain⟨i,j,_⟩:=Un f;obtain⟨k,l,_⟩:=Un i;obtain⟨m,n,_⟩:=Un k;obtain⟨o,p,_⟩:=Fa m;obtain⟨q,s,_⟩:=Fa o;obtain⟨t,u,_⟩:=Fa q;refine⟨t,?_⟩;simp only[NP,A4,As];rw[<- e];have v: ∀a:Nat,a<=1->(if decide (a=1)=true then(1:Int) else 0)=(a:Int):=λa w=>by
  have:a=0\/a=1:=by omega
  rcases this with rfl|rfl<;>rfl
 rw[v _ h,<-g,<-j,<-l,<-n,<-p,<-s,<-u]
theorem AJM {l:List UInt8}{c:Ev}(a:jA l=some c):FQ c=true/\NP c=l:=by
 unfold jA at a;simp only at a;split at a
 ·rename_i e;simp only[A3] at e;obtain⟨d,g⟩:=e;obtain rfl:=Bs a;refine⟨g,?_⟩;rw[uU] at d;obtain⟨_,f⟩:=AML (b:=fx) (r:=⟨l,false⟩) (by rw[d]);rw[d] at f;simpa using f.symm
 ·cases a
theorem AN4:fx.wide:=⟨A0 _,A0 _,A0 _,A0 _,A0 _,A0 _⟩
theorem AJ2 {a:Ev}(c:Eo a=true):a.data.size<=(NP a).length:=by
 simp only[Eo,A3] at c;have b:=c.2;cases d:dU a.kind with
 |false=>
  rw[d] at b;simp at b;rw[b];exact AG _
 |true=>
  simp only[NP,gB,d,if_true,BG,A1,Av];omega
theorem AMZ {l:List UInt8}{a:Ev}(e:l.length<18446744073709551616):jA l=some a↔FQ a=true/\NP a=l:=by refine⟨AJM,λ⟨b,c⟩=>?_⟩;have d:=AJ2 (Lt b);have:=APp AN4 ⟨by decide,by decide,by decide⟩ (Lt b) (by rw[c] at d;omega) [];rw[AN,c] at this;unfold jA;simp only[this,b];rfl
structure Jb where
 id:Int
 step:Int
 aE:Bool
 turn:Int
def eX:cy Jb where
 enc x:= [J6 J9 x.id,J6 J9 x.step,J3 x.aE,J6 J9 x.turn]
 w:=4
 len _:=rfl
 pos:=by omega
 one x v a:=by simp at a;rcases a with rfl|rfl|rfl|rfl<;>rfl
structure Ck where
 id:Int
 step:Int
 tick:Int
def fU:cy Ck where
 enc x:= [J6 J9 x.id,J6 J9 x.step,J6 J9 x.tick]
 w:=3
 len _:=rfl
 pos:=by omega
 one x v a:=by simp at a;rcases a with rfl|rfl|rfl<;>rfl
structure bj where
 prog:cj
 status:Int
 next:Int
 ba:Int
 asked:Int
 taken:Int
 fresh:Bool
 aw:List Jb
 aj:List Ck
 cancel:Bool
 aS:Bool
def TS:bj:=⟨⟨[],0⟩,0,0,0,0,0,false,[],[],false,false⟩
def stepOf(p:cj)(a b:Int):Option bP:=if 0<=a then(p.steps[a.toNat]?).bind λx=>if x.kind=b then some x else none else none
def JN(p:cj)(a:Jb):Int:=match stepOf p a.step 1 with
 |none=>0
 |some x=>if a.aE then x.aq else x.tries
def lK(s:bj)(b turn:Int):Option Nat:=s.aw.findIdx? λa=>decide (a.id=b)&&decide (a.turn=turn)
def Dn(s:bj)(a:Ev):Option bj:=
 if a.kind=2 then(if s.asked=0/\s.taken=0/\s.fresh=true then some {s with asked:=a.id} else none)
 else if a.kind=3 then(if s.asked=a.ref then some {s with asked:=0,taken:=a.id,fresh:=false} else none)
 else if a.kind=4 then(if s.taken=a.ref then some {s with taken:=0} else none)
 else(if s.taken=a.ref then some {s with taken:=0,fresh:=true} else none)
def LZ(s:bj)(a:Ev):Option bj:=
 if a.kind=6 then(stepOf s.prog a.step 1).bind λx=>if a.aE=true/\x.aE=Fg then none else some {s with aw:=s.aw++ [⟨a.id,a.step,a.aE,1⟩]}
 else(lK s a.ref a.turn).bind λi=>(s.aw[i]?).bind λb=>
  if a.kind=8 then(if a.turn=JN s.prog b then none else some {s with aw:=s.aw.set i {b with turn:=b.turn+1}})
  else if a.kind=7\/a.turn=JN s.prog b then some {s with aw:=s.aw.eraseIdx i,fresh:=true} else none
def KA(s:bj)(a:Ev):Option bj:=
 if a.kind=10 then(stepOf s.prog a.step 2).map λx=> {s with aj:=s.aj++ [⟨a.id,a.step,a.tick+x.wait⟩]}
 else(s.aj.findIdx? λc=>decide (c.id=a.ref)&&decide (c.tick<=a.tick)).map λi=> {s with aj:=s.aj.eraseIdx i,fresh:=true}
def gU(s:bj)(status:Int):bj:= {s with status:=status,asked:=0,taken:=0,fresh:=false,aw:= [],aj:= []}
def Ou(s:bj):Prop:=s.asked=0/\s.taken=0/\s.aw= []
instance (s:bj):Decidable (Ou s):=decidable_of_iff (s.asked=0/\s.taken=0/\s.aw.length=0) (by simp[Ou])
def KM(s:bj)(a:Ev):Option bj:=
 if a.kind=12 then some {s with fresh:=true}
 else if a.kind=13 then(if s.cancel=true then none else some {s with cancel:=true,fresh:=true})
 else if a.kind=14 then(if s.aS=true\/s.prog.ar=0\/a.tick<s.ba+s.prog.ar then none else some {s with aS:=true,fresh:=true})
 else if a.kind=18 then some (gU s 4)
 else if a.kind=15 then(if Ou s then some (gU s 1) else none)
 else if a.kind=16 then(if Ou s then some (gU s 2) else none)
 else if a.kind=17 then(if Ou s then some (gU s 3) else none)
 else none
def PW(s:bj)(a:Ev):Option bj:=
 (if 2<=a.kind/\a.kind<=5 then Dn s a else if 6<=a.kind/\a.kind<=9 then LZ s a else if a.kind=10\/a.kind=11 then KA s a else KM s a).map λt=> {t with next:=s.next+1}
def Wx(a:Ev):bj:=⟨(JF (bl a.data)).getD ⟨[],0⟩,0,2,a.tick,0,0,true,[],[],false,false⟩
def Bj(s:bj)(a:Ev):Int×bj:=
 if FQ a=false then(120,TS)
 else if s.next=0 then(if a.kind=1/\a.id=1 then(0,Wx a) else(120,TS))
 else if s.status≠0 then(182,TS)
 else if a.id≠s.next then(120,TS)
 else match PW s a with
  |none=>(120,TS)
  |some t=>(0,t)
def Ep(s:bj):List Ev->Option bj
 | []=>some s
 |e::l=>if(Bj s e).1=0 then Ep (Bj s e).2 l else none
theorem AD2 {a b:List Ev}: ∀ {s:bj},Ep s (a++b)=(Ep s a).bind λt=>Ep t b:=by
 induction a with
 |nil=>intro s;rfl
 |cons d l c=>
  intro s;rw[F0,Ep,Ep];split
  ·exact c
  ·rfl
theorem AH6 {s t:bj}{l:List Ev}{a:Ev}(b:Ep s l=some t)(c:(Bj t a).1=0):Ep s (l++ [a])=some (Bj t a).2:=by rw[AD2,b];show Ep t [a]=_;rw[Ep,if_pos c,Ep]
theorem QS {s:bj}{b:Ev}(a:(Bj s b).1=0):FQ b=true:=by
 unfold Bj at a;split at a
 ·cases a
 ·rename_i c;simpa using c
theorem wc {s:bj}{b:Ev}(a:(Bj s b).1=0):(s.next=0->b.id=1/\(Bj s b).2.next=2)/\(s.next≠0->b.id=s.next/\(Bj s b).2.next=s.next+1):=by
 unfold Bj at a ⊢;split at a
 ·cases a
 ·rename_i g;rw[if_neg g];split at a
  ·rename_i c;rw[if_pos c];split at a
   ·rename_i d;rw[if_pos d];exact⟨λ_=>⟨d.2,rfl⟩,λa=>absurd c a⟩
   ·cases a
  ·rename_i c;rw[if_neg c];split at a
   ·cases a
   ·rename_i d;rw[if_neg d];split at a
    ·cases a
    ·rename_i f;rw[if_neg f];cases e:PW s b with
     |none=>rw[e] at a;cases a
     |some t=>
      refine⟨λa=>absurd a c,λ_=>⟨by simpa using f,?_⟩⟩;unfold PW at e;obtain⟨h,-,rfl⟩:=Option.map_eq_some_iff.1 e;rfl
theorem AH2: ∀ {l:List Ev} {s t:bj},Ep s l=some t->1<=s.next->t.next=s.next+l.length/\ ∀(i:Nat) (b:Ev),l[i]? =some b->b.id=s.next+i/\FQ b=true:=by
 intro l
 induction l with
 |nil=>intro s t a e;cases a;exact⟨by simp,λi b f=>by simp at f⟩
 |cons b l g=>
  intro s t a e;rw[Ep] at a;split at a
  ·rename_i d;have h:=(wc d).2 (by omega);obtain⟨j,k⟩:=g a (by omega);refine⟨by rw[j,h.2,A6];omega,λi x c=>?_⟩;cases i with
   |zero=>simp at c;subst c;exact⟨by omega,QS d⟩
   |succ i=>
    have:=k i x (by simpa using c);exact⟨by omega,this.2⟩
  ·cases a
theorem we {l:List Ev}{t:bj}(a:Ep TS l=some t)(e:l≠ []):t.next=l.length+1/\ ∀(i:Nat) (b:Ev),l[i]? =some b->b.id=i+1/\FQ b=true:=by
 cases l with
 |nil=>exact absurd rfl e
 |cons b l=>
  rw[Ep] at a;split at a
  ·rename_i d;have f:=(wc d).1 rfl;obtain⟨g,h⟩:=AH2 a (by omega);refine⟨by rw[g,f.2,A6];omega,λi x c=>?_⟩;cases i with
   |zero=>simp at c;subst c;exact⟨by omega,QS d⟩
   |succ i=>
    have:=h i x (by simpa using c);exact⟨by omega,this.2⟩
  ·cases a
def eK:List UInt8->Option (List UInt8)
 | []=>none
 |a::p=>match eK p with
  |some b=>some (a::b)
  |none=>if a<255 then some [a+1] else none
theorem vZ {a b:UInt8}(c:a<255):b<a+1↔ ¬a<b:=by
 have e:a.toNat<255:=UInt8.lt_iff_toNat_lt.1 c;have d:(a+1).toNat=a.toNat+1:=by rw[UInt8.toNat_add];show(a.toNat+1) % 256=_;omega
 rw[UInt8.lt_iff_toNat_lt,UInt8.lt_iff_toNat_lt,d];omega
theorem ASq {a b:UInt8}(c: ¬a<255): ¬a<b:=λd=>by
 rw[UInt8.lt_iff_toNat_lt] at c d;have:b.toNat<256:=b.toNat_lt;have e:(255:UInt8).toNat=255:=rfl;omega
theorem w6: ∀(p j:List UInt8),(¬ j<p/\(∀ h,eK p=some h->j<h))↔p <+: j
 | [],j=>by simp[eK]
 |a::p,[]=>by
  constructor
  ·rintro⟨c,_⟩;exact absurd (List.nil_lt_cons a p) c
  ·intro c;exact absurd (List.prefix_nil.1 c) (by simp)
 |a::p,b::j=>by
  have s:=w6 p j;have e: ∀ {x q:UInt8} {l m:List UInt8},x::l<q::m↔x<q\/x=q/\l<m:=A0n;rw[List.cons_prefix_cons,<-s];constructor
  ·rintro⟨o,f⟩;have r: ¬b<a:=λc=>o (e.2 (.inl c))
   have t: ¬a<b:=λc=>by
    unfold eK at f;cases k:eK p with
    |some h=>
     rw[k] at f;rcases e.1 (f _ rfl) with d|⟨d,_⟩
     ·exact r d
     ·subst d;exact UInt8.lt_irrefl _ c
    |none=>
     rw[k] at f;by_cases i:a<255
     ·have:=f [a+1] (by simp[i]);rcases e.1 this with d|⟨_,d⟩
      ·exact(vZ i).1 d c
      ·exact absurd d (by simp)
     ·exact ASq i c
   have n:a=b:=by
    by_cases n:a=b
    ·exact n
    ·rcases UInt8.lt_or_lt_of_ne n with c|c
     ·exact absurd c t
     ·exact absurd c r
   subst n;refine⟨rfl,λc=>o (e.2 (.inr ⟨rfl,c⟩)),λh g=>?_⟩;have:=f (a::h) (by unfold eK;rw[g]);rcases e.1 this with d|⟨_,d⟩
   ·exact absurd d (UInt8.lt_irrefl _)
   ·exact d
  ·rintro⟨rfl,o,f⟩;refine⟨λc=>?_,λh g=>?_⟩
   ·rcases e.1 c with d|⟨_,d⟩
    ·exact absurd d (UInt8.lt_irrefl _)
    ·exact o d
   ·unfold eK at g;cases k:eK p with
    |some u=>
     rw[k] at g;obtain rfl:=Bs g;exact e.2 (.inr ⟨rfl,f u k⟩)
    |none=>
     rw[k] at g;by_cases i:a<255
     ·have n:h= [a+1]:=by simpa [i] using g.symm
      subst n;exact e.2 (.inl ((vZ i).2 (UInt8.lt_irrefl _)))
     ·simp[i] at g
theorem qD: ∀ {p:List UInt8},(∀ x∈p,¬x<255)->eK p=none
 | [],_=>rfl
 |a::p,b=>by
  unfold eK;rw[qD λx c=>b x (An _ c)];simp[b a AM]
theorem w7: ∀ {p:List UInt8} {i:Nat} {a:UInt8},p[i]? =some a->a<255->(∀ x∈p.drop (i+1),¬x<255)->eK p=some (p.take i++ [a+1])
 | [],i,a,c,_,_=>by simp at c
 |b::p,0,a,c,d,hd=>by
  simp at c;subst c;unfold eK;rw[qD (by simpa using hd)];simp[d]
 |b::p,i+1,a,c,d,hd=>by
  unfold eK;rw[w7 (p:=p) (i:=i) (a:=a) (by simpa using c) d (by simpa using hd)];simp
def gS(p a:A2P):Bool:=(p.data.toList).isPrefixOf a.data.toList
theorem Xg(p a:A2P):gS p a=true↔p.data.toList <+: a.data.toList:=by unfold gS;rw[List.isPrefixOf_iff_prefix]
def LP:Nat->Nat->List UInt8
 |0,_=> []
 |k+1,a=>LP k (a / 256)++ [CX a]
theorem OL: ∀(k a:Nat),(LP k a).length=k
 |0,_=>rfl
 |k+1,a=>by rw[LP,A1,OL k];rfl
theorem Zd(a:Nat):CX a=CX (a % 256):=by apply UInt8.toNat_inj.1;simp[CX,UInt8.toNat_ofNat']
theorem AMa {a b:Nat}(c:a<256)(d:b<256)(e:CX a=CX b):a=b:=by have:=congrArg UInt8.toNat e;rwa [Df c,Df d] at this
theorem wg(a:Nat):LP 4 a= [CX (a / 256 / 256 / 256),CX (a / 256 / 256),CX (a / 256),CX a]:=rfl
theorem AQH {a b:Nat}(i:b<65536)(j:a<b):LP 4 a<LP 4 b:=by
 rw[wg,wg];have d:a / 256 / 256=0:=by omega
 have e:b / 256 / 256=0:=by omega
 rw[d,e];have lt: ∀ {x c:Nat},c<256->x<c->CX x<CX c:=λ{x c} f g=>by
  rw[UInt8.lt_iff_toNat_lt,Df f,Df (by omega)];exact g
 refine List.Lex.cons (List.Lex.cons ?_);by_cases h:a / 256=b / 256
 ·rw[h];refine List.Lex.cons (List.Lex.rel ?_);rw[Zd a,Zd b];exact lt (by omega) (by omega)
 ·exact List.Lex.rel (lt (by omega) (by omega))
theorem AS0(p:List UInt8){a b:List UInt8}(d:a<b):p++a<p++b:=by
 induction p with
 |nil=>exact d
 |cons c p e=>exact List.Lex.cons e
def kE:UInt8:=104
def kh(wid:A2P):List UInt8:=kE::BG (bl wid)
def WX(wid:A2P):A2P:=AX (kh wid)
def dV(wid:A2P)(id:Nat):A2P:=AX (kh wid++LP 4 id)
def Kz(wid:A2P):A2P:=AX (119::bl wid)
def Mt(a:A2P):A2P:=AX (114::bl a)
def ZR(a id:Nat):A2P:=AX (116::CX a::LP 8 id)
def Zu(a b id:Nat):A2P:=AX (109::CX a::(LP 8 b++LP 8 id))
theorem wh {s:A2P}(a:s.size<=16):BG (bl s)=CX s.size::bl s:=by unfold BG;rw[Av,FN (by omega)];rfl
theorem RO {wid:A2P}(a:wid.size<=16):kh wid=104::CX wid.size::bl wid:=by unfold kh;rw[wh a];rfl
theorem AOp {wid:A2P}(a:wid.size<=16)(id:Nat):(dV wid id).size<=22:=by unfold dV;rw[AP,A1,OL,RO a];simp only[A6,Av];omega
theorem AMp {wid:A2P}(a:wid.size<=16):(WX wid).size<=18:=by unfold WX;rw[AP,RO a];simp only[A6,Av];omega
theorem Ri(wid:A2P):(Kz wid).size=wid.size+1:=by unfold Kz;rw[AP,A6,Av]
theorem U0(a:A2P):(Mt a).size=a.size+1:=by unfold Mt;rw[AP,A6,Av]
theorem wk(a id:Nat):(ZR a id).size=10:=by unfold ZR;rw[AP];rfl
theorem wm(b a id:Nat):(Zu b a id).size=18:=by unfold Zu;rw[AP];rfl
theorem lL {wid:A2P}{i a:Nat}(b:a<65536)(c:i<a):aQ (dV wid i) (dV wid a)=true:=by rw[Yk,decide_eq_true_eq];unfold dV;rw[Cc,Cc];exact AS0 _ (AQH b c)
theorem wo(wid:A2P)(id:Nat):gS (WX wid) (dV wid id)=true:=by rw[Xg];unfold WX dV;rw[Cc,Cc];exact List.prefix_append _ _
theorem wq {wid a:A2P}(d:wid.size<=16)(e:a.size<=16){id:Nat}(b:gS (WX wid) (dV a id)=true):wid=a:=by rw[Xg] at b;unfold WX dV at b;rw[Cc,Cc,RO d,RO e] at b;obtain⟨t,c⟩:=b;simp only[F0,HW,true_and] at c;have f:=AMa (by omega) (by omega) c.1;have:=(List.append_inj c.2 (by rw[Av,Av];exact f)).1;rw[<- DL wid,<-DL a];exact congrArg AX this
theorem AP8 {wid b:A2P}(e:wid.size<=16)(f:b.size<=16){i c:Nat}(g:i<65536)(h:c<65536)(d:dV wid i=dV b c):wid=b/\i=c:=by
 have j:wid=b:=wq e f (by rw[<- d];exact wo wid i);subst j;refine⟨rfl,?_⟩;rcases HP i c with a|a|a
 ·exact absurd d (OU (lL h a))
 ·exact a
 ·exact absurd d.symm (OU (lL g a))
theorem ANB {a b:A2P}(c:Kz a=Kz b):a=b:=by have:=Kc.1 c;simp only[HW,true_and] at this;rw[<- DL a,<-DL b];exact congrArg AX this
theorem wu {a b:A2P}(c:Mt a=Mt b):a=b:=by have:=Kc.1 c;simp only[HW,true_and] at this;rw[<- DL a,<-DL b];exact congrArg AX this
def CV(a:A2P):UInt8:=(bl a).headD 0
theorem nJ(wid:A2P)(id:Nat):CV (dV wid id)=104:=by unfold CV dV;rw[EN];rfl
theorem Gw(wid:A2P):CV (Kz wid)=119:=by unfold CV Kz;rw[EN];rfl
theorem Mi(wid:A2P):CV (Mt wid)=114:=by unfold CV Mt;rw[EN];rfl
theorem AKT(a id:Nat):CV (ZR a id)=116:=by unfold CV ZR;rw[EN];rfl
theorem AJg(b a id:Nat):CV (Zu b a id)=109:=by unfold CV Zu;rw[EN];rfl
theorem qE {wid a:A2P}(b:gS (WX wid) a=true):CV a=104:=by rw[Xg] at b;obtain⟨t,c⟩:=b;unfold CV;show(a.data.toList).headD 0=104;rw[<- c];unfold WX;rw[Cc];rfl
def QL(status next:Nat)(a:Bool):A2P:=AX (BH status++(BH next++BH (if a then 1 else 0)))
def iO(a:List UInt8)(status next:Nat):A2P:=AX (BG a++(BH status++BH next))
def qF(a:Nat)(wid:A2P)(b turn:Nat):A2P:=AX (BH a++(BG (bl wid)++(BH b++BH turn)))
theorem GR {n:Nat}(a:n<16384):(BH n).length<=2:=wX 1 n (by omega)
theorem AJl {kind ref turn:Nat}{wid:A2P}(a:kind<128)(b:wid.size<=16)(c:ref<=500)(d:turn<=5):(qF kind wid ref turn).size<=22:=by unfold qF;have:=GR (n:=ref) (by omega);rw[AP,FN a,wh b,FN (n:=turn) (by omega)];simp only[A1,A6,Av,FG];omega
theorem AJ7 {status next:Nat}{kept:Bool}(a:status<128)(b:next<=501):(QL status next kept).size<=4:=by unfold QL;have:=GR (n:=next) (by omega);rw[AP,FN a,FN (n:=if kept then 1 else 0) (by split<;>omega)];simp only[A1,A6,FG];omega
structure bD where
 wid:A2P
 ao:Nat
 cD:Int
 cq:Int
 kept:Bool
 st:bj
 more:List Ev
 au:List Pr
 conds:List Pr
 err:Int
 now:Int
def iP(s:bj):Bool:=decide (s.next<=497)
def Oj(wid:A2P)(b:Nat)(c d:Int)(e:Bool)(st:bj)(a:Int):bD:=
 ⟨wid,b,c,d,e,st,[],[],[],if a<0\/1099511611776<a then 1 else 0,a⟩
def Ct(a:bD)(b:Ev):Ev:= {b with id:=if 1>a.st.next then 1 else a.st.next,tick:=a.now}
def Eu(a:bD)(b:Ev):bD:=
 if a.err≠0 then a
 else if a.more= []/\iP a.st=false/\b.kind≠18 then {a with err:=2}
 else if(Bj a.st (Ct a b)).1≠0 then {a with err:=(Bj a.st (Ct a b)).1}
 else {a with st:=(Bj a.st (Ct a b)).2,more:=a.more++ [Ct a b]}
def km(a:bD):Int:=a.st.next-1
structure gG where
 kind:Int
 ref:Int
 turn:Int
def KQ(t:gG)(wid:A2P):Bool:=bS t.kind 1 7&&Ai wid&&bS t.ref 0 500&&bS t.turn 0 5
def jC(t:gG)(wid:A2P):A2P:=qF t.kind.toNat wid t.ref.toNat t.turn.toNat
def Ob(a:Nat)(tick:Int)(b:Nat):A2P:=if tick<0 then ZR a b else Zu a tick.toNat b
def F3(a:bD)(t:gG)(tick:Int)(b:Nat):bD:=
 if a.err≠0 then a
 else if KQ t a.wid=false then {a with err:=1}
 else {a with au:=a.au++ [⟨Ob a.ao tick b,jC t a.wid,false⟩]}
def nK(a:bD)(key val:A2P):bD:= {a with conds:=a.conds++ [⟨key,⟨#[]⟩,true⟩],au:=a.au++ [⟨key,val,false⟩]}
def G9(a:bD):Bool:=decide (a.more≠ [])&&(decide (a.st.status=0)&&(a.st.fresh&&(decide (a.st.asked=0)&&decide (a.st.taken=0))))
def Dk(a:bD):Int×Int:=(a.st.status,if G9 a then a.st.next+1 else a.st.next)
def bB(a:bD):Pr:=if 0<a.cq then⟨Kz a.wid,QL a.cD.toNat a.cq.toNat a.kept,false⟩ else⟨Kz a.wid,⟨#[]⟩,true⟩
def O7(wid:A2P)(a:Ev):Pr:=⟨dV wid a.id.toNat,AX (NP a),false⟩
def FX(a:bD):List Pr:=a.more.map (O7 a.wid)++(if a.more= [] then [] else [⟨Kz a.wid,QL a.st.status.toNat a.st.next.toNat false,false⟩])
structure bD.zX (C:bD):Prop where
 pos:C.err=0-> ∀e∈C.more,FQ e=true
 err0:0<=C.err
theorem ZQ(a:bD)(b:Ev):(Eu a b).wid=a.wid/\(Eu a b).ao=a.ao/\(Eu a b).cD=a.cD/\(Eu a b).cq=a.cq/\(Eu a b).kept=a.kept/\(Eu a b).au=a.au/\(Eu a b).conds=a.conds/\(Eu a b).now=a.now:=by
 unfold Eu;split
 ·simp
 ·split
  ·simp
  ·split<;>simp
theorem wv {a:bD}{e:Ev}(d:a.err=0)(f:a.more≠ []\/a.st.next<=497\/e.kind=18)(g:(Bj a.st (Ct a e)).1=0):
  Eu a e= {a with st:=(Bj a.st (Ct a e)).2,more:=a.more++ [Ct a e]}:=by
 unfold Eu;rw[if_neg (by simp[d]),if_neg (by
  rintro⟨h,c,i⟩;rcases f with b|b|b
  ·exact b h
  ·unfold iP at c;simp at c;omega
  ·exact i b),if_neg (by simp[g])]
end Go.Lf
