/-
 LIFT, part I: a function's formula gives its contract.
-/
import Derived.Test.YtdmlhpjdmgaggaaGreatDoorLfGToH
import Derived.RangeFuncRecord
import Derived.Test.YtdmlhpjdmgaggaaGreatDoorProg
set_option linter.unusedVariables false
set_option linter.unusedSimpArgs false
namespace Go.Lf
section
variable {F : Fence} {n : Nat} {P : Program} {c : Code} {Q : Exit → Act → World → Prop} {a : Act} {w : World}
def Zk(F:Fence)(n:Nat)(P:Program)(c:Code)(Q:Exit→Act→World→Prop)(a:Act)(w:World):Prop:=
 ∀(b:Frame) (k:List Item) (cs:List Frame),b.roundOf=F.round→F.fn b.fn→F.room (cs.length+1+n)→
  ∃e a' w',Q e a' w'∧ArrivesIn (Machine.fenced P F) P (lone (b.atR a (.inLoop c::k)) cs w) b k cs e a' w'
theorem ABK(h:c.wpIn F n P (Exit.then (Zk F n P c Q) Q) a w)(b:Frame)(k:List Item)(cs:List Frame)(hro:b.roundOf=F.round)(hb:F.fn b.fn)(hr:F.room (cs.length+1+n)):
  ∃e a' w',Q e a' w'∧ArrivesIn (Machine.fenced P F) P (lone (b.atR a (.code c:: .inLoop c::k)) cs w) b k cs e a' w':=by
 obtain⟨e,a₁,w₁,hq,harr⟩:=h b (.inLoop c::k) cs hro hb hr
 cases e with
 |normal=>
  obtain⟨e₂,a₂,w₂,hq₂,harr₂⟩:=hq b k cs hro hb hr
  exact⟨e₂,a₂,w₂,hq₂,.of_steps harr harr₂⟩
 |exit id=>exact⟨_,a₁,w₁,hq,.pass (x:= .inLoop c) rfl (fun _ _=> .inl (by simp)) harr⟩
 |goto l=>exact⟨_,a₁,w₁,hq,.pass (x:= .inLoop c) rfl (fun _ _=> .inl (by simp)) harr⟩
 |ret=>exact⟨_,a₁,w₁,hq,.pass (x:= .inLoop c) rfl (fun _ _=> .inl (by simp)) harr⟩
 |panic ch=>exact⟨_,a₁,w₁,hq,.pass (x:= .inLoop c) rfl (fun _ _=> .inl (by simp)) harr⟩
 |outgrown=>exact⟨_,a₁,w₁,hq,.pass (x:= .inLoop c) rfl (fun _ _=> .inl (by simp)) harr⟩
theorem AFb(h:c.wpIn F n P (Exit.then (Zk F n P c Q) Q) a w):Zk F n P c Q a w:=fun b k cs hro hb hr=>
 let ⟨e,a',w',hq,harr⟩:=ABK h b k cs hro hb hr
 ⟨e,a',w',hq,.of_steps (.one (fenced_calm hb hr rfl) stepR_inLoop) harr⟩
theorem ADL(h:c.wpIn F n P (Exit.then (Zk F n P c Q) Q) a w):(Code.loop c).wpIn F n P Q a w:=fun b k cs hro hb hr=>
 let ⟨e,a',w',hq,harr⟩:=ABK h b k cs hro hb hr
 ⟨e,a',w',hq,.of_steps (.one (fenced_calm hb hr rfl) stepR_loop) harr⟩
end
def Tn(F:Fence)(n:Nat)(P:Program)(c rest:Code)(Q:Exit→Act→World→Prop)(a:Act)(w:World):Prop:=
 ∀(b:Frame) (k:List Item) (cs:List Frame),b.roundOf=F.round→F.fn b.fn→F.room (cs.length+1+n)→
  ∃e a' w',Q e a' w'∧ArrivesIn (Machine.fenced P F) P (lone (b.atR a (.code rest:: .inScope c::k)) cs w) b k cs e a' w'
def AHR(l:Nat)(J:Act→World→Prop)(Q:Exit→Act→World→Prop):Exit→Act→World→Prop
 | .goto l',a,w=>l'=l∧J a w
 |e,a,w=>Q e a w
section
variable {F : Fence} {n : Nat} {P : Program} {Q : Exit → Act → World → Prop} {a : Act} {w : World}
theorem AAW {P:Program}{b:Frame}{a:Act}{k:List Item}{cs:List Frame}{w:World}{c:Code}:step P (lone (b.atR a (.inScope c::k)) cs w)= .next (lone (b.atR a k) cs w):=
 step_lone_go (by simp[stepG,stepG.exec,Frame.atR])
theorem AEC {P:Program}{b:Frame}{a:Act}{k:List Item}{cs:List Frame}{w:World}{c:Code}:step P (lone (b.atR a (.code (.scope c)::k)) cs w)= .next (lone (b.atR a (.code c:: .inScope c::k)) cs w):=
 step_lone_go (by simp[stepG,stepG.exec,Frame.atR])
theorem Xq {c rest x:Code}{l:Nat}(hf:findLabel c l=some rest)(h:x.wpIn F n P (AHR l (Tn F n P c rest Q) Q) a w):Tn F n P c x Q a w:=by
 intro b k cs hro hb hr
 have hg:gotoIn l (.inScope c::k)=some (.code rest:: .inScope c::k):=by simp[gotoIn,hf]
 obtain⟨e,a₁,w₁,hq,harr⟩:=h b (.inScope c::k) cs hro hb hr
 cases e with
 |normal=>exact⟨.normal,a₁,w₁,hq,StepsIn.trans harr (.one (fenced_calm hb hr rfl) AAW)⟩
 |exit id=>
  have hx:exitTo id (.inScope c::k)=exitTo id k:=by simp[exitTo]
  exact⟨.exit id,a₁,w₁,hq,fun k' hk=>harr.1 k' (by rw[hx];exact hk),fun hr' hk=>harr.2 hr' (by rw[hx];exact hk)⟩
 |goto l'=>
  obtain⟨rfl,hJ⟩:=hq
  obtain⟨e₂,a₂,w₂,hq₂,harr₂⟩:=hJ b k cs hro hb hr
  exact⟨e₂,a₂,w₂,hq₂,.of_steps (harr.1 _ hg) harr₂⟩
 |ret=>exact⟨_,a₁,w₁,hq,harr⟩
 |panic ch=>exact⟨_,a₁,w₁,hq,harr⟩
 |outgrown=>exact⟨_,a₁,w₁,hq,harr⟩
theorem AAM {c rest:Code}{l:Nat}(hf:findLabel c l=some rest)(h:c.wpIn F n P (AHR l (Tn F n P c rest Q) Q) a w):(Code.scope c).wpIn F n P Q a w:=fun b k cs hro hb hr=>
 let ⟨e,a',w',hq,harr⟩:=Xq hf h b k cs hro hb hr
 ⟨e,a',w',hq,.of_steps (.one (fenced_calm hb hr rfl) AEC) harr⟩
end
theorem Jr.g {W:List Nat}{nd:Bool}{a a':Act}(h:Jr W a a'):EG W nd a a':=⟨h.get,fun _=>h.ds⟩
theorem ALH(A:Amb)(h:Heap)(n:Nat):(A.at h n).heap=h:=rfl
theorem run_getLoop {P:Program}{A:Amb}{h:Heap}{n l:Nat}{rec:Go.Loop}(hl:h[l]? =some (.loop rec)):(Instr.getLoop l).run P (A.at h n)= .ok rec (A.at h n):=by
 simp[Instr.getLoop,Sem.run_bind,getObj,Sem.run,ALH,hl]
theorem Sm {P:Program}{A:Amb}{h:Heap}{n l:Nat}{rec:Go.Loop}{o:Obj}(hl:h[l]? =some (.loop rec)):(setObj l o).run P (A.at h n)= .ok () (A.at (h.setIfInBounds l o) n):=by
 simp[setObj,Sem.run,hl,Amb.at]
theorem run_beginRound {P:Program}{A:Amb}{h:Heap}{n l:Nat}{rec:Go.Loop}(hl:h[l]? =some (.loop rec))(hs:rec.state= .ready):
  (Instr.beginRound l).run P (A.at h n)= .ok () (A.at (h.setIfInBounds l (.loop {rec with state:= .busy})) n):=by
 simp[Instr.beginRound,Sem.run_bind,run_getLoop hl,Sm hl,hs]
theorem run_endRound {P:Program}{A:Amb}{h:Heap}{n l:Nat}{rec:Go.Loop}{j:Option Code}(hl:h[l]? =some (.loop rec)):
  (Instr.endRound l j).run P (A.at h n)= .ok (.bool j.isNone) (A.at (h.setIfInBounds l (.loop {rec with state:=if j.isNone then .ready else .done,pending:=j})) n):=by
 simp[Instr.endRound,Sem.run_bind,run_getLoop hl,Sm hl]
theorem run_endLoop {P:Program}{A:Amb}{h:Heap}{n l:Nat}{rec:Go.Loop}(hl:h[l]? =some (.loop rec))(hs:rec.state≠ .busy):
  (Instr.endLoop l).run P (A.at h n)= .ok rec.pending (A.at (h.setIfInBounds l (.loop {rec with state:= .exhausted})) n):=by
 simp[Instr.endLoop,Sem.run_bind,run_getLoop hl,Sm hl]
 intro h
 exact absurd h hs
theorem AAo {P:Program}{A:Amb}{h:Heap}{n:Nat}{fn:FuncId}{tmps:Array Value}{ps:Array Tmp}{asg body:Code}:
  (Instr.enterLoop fn tmps ps asg body none).run P (A.at h n)=
   .ok (h.size+1,[V8 h.size]) (A.at ((h.push (.deferred (some []))).push (.loop {state:= .ready,pending:=none,fn,tmps,params:=ps,assign:=asg,body,defers:=h.size})) n):=by
 simp[Instr.enterLoop,Sem.run_bind,newObj,Sem.run,Amb.at,V8]
 rfl
theorem YZ {N:Nat}: ∀(ps:List Tmp) (vs:List Value) (e:Env) (tmps:Array Value),(∀ p∈ps,p<N)→Fits N {tmps:=tmps,defers:= []} e→
  Fits N {tmps:=(ps.zip vs).foldl (fun tmps (t,a)=>tmps.setIfInBounds t a) tmps,defers:= []} (Za e ps vs)
 | [],_,_,_,_,H=>by simpa [Za] using H
 |_::_,[],_,_,_,H=>by simpa [Za] using H
 |p::ps,v::vs,e,tmps,hp,H=>by
  have h1:=H.set (v:=v) (hp p List.mem_cons_self)
  exact YZ ps vs (e.set p v) (tmps.setIfInBounds p v) (fun q hq=>hp q (List.mem_cons_of_mem _ hq)) h1
def Tq(P:Program)(A:Amb)(N:Nat)(c:Code):Prop:= ∀(m:Nat) (inR:Bool) (r:Option Nat) (ann:Ann) (e:Env) (h:Heap) (kn:Env→Heap→Prop) (kb:Jmp→Env→Heap→Prop) (kr:Env→Heap→Prop) (a:Act) (n:Nat),
  (inR=false→r=none)→EQ A P N inR c ann e h kn kb kr→Fits N a e→c.wpIn (Fw r) m P (Post A N (writes c) (Ei c) a kn kb kr) a (A.at h n)
theorem AGu {P:Program}{A:Amb}{N:Nat}{c d body:Code}{l:Nat}(ihc:Tq P A N c)(ihd:Tq P A N d){m:Nat}{inR:Bool}{r:Option Nat}{L:Live}{kept:List Nat}{ax ay:Ann}{e:Env}{h:Heap}{kn:Env→Heap→Prop}{kb:Jmp→Env→Heap→Prop}{kr:Env→Heap→Prop}{a0 a:Act}{n:Nat}{W:List Nat}{nd:Bool}{Q:Exit→Act→World→Prop}{J:Act→World→Prop}
  (hr:inR=false→r=none) (hf:findLabel body l=some (.seq .skip d)) (hkp:KV kept (writes c++writes d)=true) (hn1:Ei c=true) (hn2:Ei d=true)
  (hk:EQ A P N inR c ax e h
     (fun e' h'=>Kb L e' fun xs=>Loop (fun K xs h=>EQ A P N inR d ay (Ev L kept e xs) h kn
      (fun j e' h'=>match j with| .blk i=>kb (.blk i) e' h'| .lab l'=>match Nat.beq l' l with|true=>Kb L e' fun xs=>K xs h'|false=>False) kr) xs h')
     (fun j e' h'=>match j with| .blk i=>kb (.blk i) e' h'| .lab _=>False) kr)
  (H:Fits N a e) (weakS: ∀a2,EG (writes c++writes d) true a a2→EG W nd a0 a2) (hQ:Post A N W nd a0 kn kb kr=Q) (hJ:J=Tn (Fw r) m P body (.seq .skip d) Q):(Code.seq c (.seq (.label l) d)).wpIn (Fw r) m P (AHR l J Q) a (A.at h n):=by
 have hw1: ∀t∈writes c,t∈writes c++writes d:=fun t ht=>List.mem_append.2 (.inl ht)
 have hw2: ∀t∈writes d,t∈writes c++writes d:=fun t ht=>List.mem_append.2 (.inr ht)
 let P1:TyL L→Heap→Prop:=fun xs hh=> ∀a2 n2,Fits N a2 (Ev L kept e xs)→EG (writes c++writes d) true a a2→d.wpIn (Fw r) m P (AHR l J Q) a2 (A.at hh n2)
 refine wpIn_seq (wpIn_mono (ihc m inR r ax e h _ _ kr a n hr hk H) ?_)
 rintro ex a1 w1 ⟨e1,h1,n1,rfl,H1,K1,hx1⟩
 have K1':EG (writes c++writes d) true a a1:=K1.weak hw1 (fun _=>hn1)
 have K1S:=weakS a1 K1'
 cases ex with
 |normal=>
  obtain⟨xs,hy1,hy2⟩:=Gy hx1
  refine wpIn_seq (wpIn_label ?_)
  have hK:=hy2 P1 ?_
  ·exact hK a1 n1 (H.join H1 rfl K1' hkp hy1) K1'
  ·intro xs hh hb a2 n2 H2 K2
   refine wpIn_mono (ihd m inR r ay _ hh _ _ kr a2 n2 hr hb H2) ?_
   rintro ex a3 w3 ⟨e3,h3,n3,rfl,H3,K3,hx3⟩
   have K3':EG (writes c++writes d) true a2 a3:=K3.weak hw2 (fun _=>hn2)
   have K13:EG (writes c++writes d) true a a3:=K2.trans K3' (fun _ h=>h) (fun _ h=>h) (fun _=>⟨rfl,rfl⟩)
   have K13S:=weakS a3 K13
   cases ex with
   |normal=>rw[← hQ];exact⟨e3,h3,n3,rfl,H3,K13S,hx3⟩
   |exit i=>rw[← hQ];exact⟨e3,h3,n3,rfl,H3,K13S,hx3⟩
   |goto l'=>
    simp only at hx3
    split at hx3
    ·rename_i hl
     have hll:=Nat.eq_of_beq_eq_true hl
     subst hll
     obtain⟨ys,hz1,hz2⟩:=Gy hx3
     refine⟨rfl,?_⟩
     have hd:=hz2 a3 n3 (H2.again H3 rfl K3' hkp hz1) K13
     rw[hJ] at hd ⊢
     exact Xq hf (wpIn_seq (wpIn_skip hd))
    ·exact hx3.elim
   |ret=>rw[← hQ];exact⟨e3,h3,n3,rfl,H3,K13S,hx3⟩
   |panic ch=>exact hx3.elim
   |outgrown=>exact hx3.elim
 |exit i=>rw[← hQ];exact⟨e1,h1,n1,rfl,H1,K1S,hx1⟩
 |goto l'=>exact hx1.elim
 |ret=>rw[← hQ];exact⟨e1,h1,n1,rfl,H1,K1S,hx1⟩
 |panic ch=>exact hx1.elim
 |outgrown=>exact hx1.elim
theorem ADr {P:Program}{A:Amb}{N:Nat}{b c d:Code}{l:Nat}(ihb:Tq P A N b)(ihc:Tq P A N c)(ihd:Tq P A N d){m:Nat}{inR:Bool}{r:Option Nat}{L:Live}{kept:List Nat}{a0 ax ay:Ann}{e:Env}{h:Heap}{kn:Env→Heap→Prop}{kb:Jmp→Env→Heap→Prop}{kr:Env→Heap→Prop}{a:Act}{n:Nat}
  (hr:inR=false→r=none) (hfb:(findLabel b l).isNone=true) (hfl:(findLabel c l).isNone=true) (hkp:KV kept (writes c++writes d)=true) (hn0:Ei b=true) (hn1:Ei c=true) (hn2:Ei d=true)
  (hk:EQ A P N inR b a0 e h (fun e h=>EQ A P N inR c ax e h
     (fun e' h'=>Kb L e' fun xs=>Loop (fun K xs h=>EQ A P N inR d ay (Ev L kept e xs) h kn
      (fun j e' h'=>match j with| .blk i=>kb (.blk i) e' h'| .lab l'=>match Nat.beq l' l with|true=>Kb L e' fun xs=>K xs h'|false=>False) kr) xs h')
     (fun j e' h'=>match j with| .blk i=>kb (.blk i) e' h'| .lab _=>False) kr) (fun j e' h'=>match j with| .blk i=>kb (.blk i) e' h'| .lab _=>False) kr)
  (H:Fits N a e):(Code.scope (.seq b (.seq c (.seq (.label l) d)))).wpIn (Fw r) m P (Post A N (writes (.scope (.seq b (.seq c (.seq (.label l) d))))) (Ei (.scope (.seq b (.seq c (.seq (.label l) d))))) a kn kb kr) a (A.at h n):=by
 have hf1:findLabel b l=none:=by simpa using hfb
 have hf2:findLabel c l=none:=by simpa using hfl
 have hf:findLabel (.seq b (.seq c (.seq (.label l) d))) l=some (.seq .skip d):=by simp[findLabel,hf1,hf2]
 have hnS:Ei (.scope (.seq b (.seq c (.seq (.label l) d))))=true:=by simp[Ei,hn0,hn1,hn2]
 have hwb: ∀t∈writes b,t∈writes (.scope (.seq b (.seq c (.seq (.label l) d)))):=fun t ht=>by simp only[writes,List.mem_append];exact .inl ht
 have hwS: ∀t∈writes c++writes d,t∈writes (.scope (.seq b (.seq c (.seq (.label l) d)))):=fun t ht=>by
  rcases List.mem_append.1 ht with h|h
  ·simp only[writes,List.mem_append];exact .inr (.inl h)
  ·simp only[writes,List.mem_append];exact .inr (.inr (.inr h))
 generalize hW:writes (.scope (.seq b (.seq c (.seq (.label l) d))))=W at hwb hwS ⊢
 rw[hnS]
 generalize hQ:Post A N W true a kn kb kr=Q
 obtain⟨J,hJ⟩: ∃J:Act→World→Prop,J=Tn (Fw r) m P (.seq b (.seq c (.seq (.label l) d))) (.seq .skip d) Q:=⟨_,rfl⟩
 refine AAM hf ?_
 rw[← hJ]
 refine wpIn_seq (wpIn_mono (ihb m inR r a0 e h _ _ kr a n hr hk H) ?_)
 rintro ex a1 w1 ⟨e1,h1,n1,rfl,H1,K1,hx1⟩
 have K1S:EG W true a a1:=K1.weak hwb fun _=>hn0
 cases ex with
 |normal=>exact AGu ihc ihd hr hf hkp hn1 hn2 hx1 H1 (fun a2 K2=>K1S.trans K2 (fun _ h=>h) hwS fun _=>⟨rfl,rfl⟩) hQ hJ
 |exit i=>rw[← hQ];exact⟨e1,h1,n1,rfl,H1,K1S,hx1⟩
 |goto l'=>exact hx1.elim
 |ret=>rw[← hQ];exact⟨e1,h1,n1,rfl,H1,K1S,hx1⟩
 |panic ch=>exact hx1.elim
 |outgrown=>exact hx1.elim
theorem AEA {P:Program}{A:Amb}{N:Nat}(hm:P.follows .mixedOrders=true): ∀(k:Nat) (c:Code),SizeOf.sizeOf c<k→ ∀(m:Nat) (inR:Bool) (r:Option Nat) (ann:Ann) (e:Env) (h:Heap) (kn:Env→Heap→Prop) (kb:Jmp→Env→Heap→Prop) (kr:Env→Heap→Prop) (a:Act) (n:Nat),
  (inR=false→r=none)→EQ A P N inR c ann e h kn kb kr→Fits N a e→c.wpIn (Fw r) m P (Post A N (writes c) (Ei c) a kn kb kr) a (A.at h n):=by
 intro k
 induction k with
 |zero=>intro c hc;omega
 |succ k ih=>
  intro c hc
  cases c with
  |skip=>intro m inR r ann e h kn kb kr a n _ hk H;exact wpIn_skip ⟨e,h,n,rfl,H,EG.refl,hk⟩
  |exit id=>intro m inR r ann e h kn kb kr a n _ hk H;exact wpIn_exit ⟨e,h,n,rfl,H,EG.refl,hk⟩
  |ret=>intro m inR r ann e h kn kb kr a n _ hk H;exact wpIn_ret ⟨e,h,n,rfl,H,EG.refl,hk⟩
  |label l=>intro m inR r ann e h kn kb kr a n _ hk H;exact wpIn_label ⟨e,h,n,rfl,H,EG.refl,hk⟩
  |goto l=>intro m inR r ann e h kn kb kr a n _ hk H;exact wpIn_goto ⟨e,h,n,rfl,H,EG.refl,hk⟩
  |refuse y=>intro m inR r ann e h kn kb kr a n _ hk H;simp only[EQ] at hk
  |region id ops d=>
   intro m inR r ann e h kn kb kr a n _ hk H
   have plain: ∀kn',(∀ a' e' h' n',Fits N a' e'→Jr (dstsOf ops.toList) a a'→kn' e' h'→Post A N (writes (.region id ops d)) (Ei (.region id ops d)) a kn kb kr .normal a' (A.at h' n'))→
     Xp A P N ops d e h kn'→(Code.region id ops d).wpIn (Fw r) m P (Post A N (writes (.region id ops d)) (Ei (.region id ops d)) a kn kb kr) a (A.at h n):=
    fun kn' hq hs=>ADC hm hs H hq
   cases ann with
   |reg L kept=>
    simp only[EQ] at hk
    split at hk
    ·rename_i hkp
     have hk:=hk _ (fun _ _ h=>h)
     refine plain _ ?_ hk
     intro a' e' h' n' H' hK hx
     obtain⟨xs,hx1,hx2⟩:=Gy hx
     exact⟨_,h',n',rfl,H.join H' rfl (hK.g (nd:=true)) hkp hx1,hK.g,hx2⟩
    ·exact hk.elim
   |_=>exact plain kn (fun a' e' h' n' H' hK hx=>⟨e',h',n',rfl,H',hK.g,hx⟩) hk
  |seq x y=>
   have ihx:=ih x (by simp at hc;omega)
   have ihy:=ih y (by simp at hc;omega)
   intro m inR r ann e h kn kb kr a n hr hk H
   have tail: ∀(kn':Env→Heap→Prop) (annx anny:Ann),EQ A P N inR x annx e h kn' kb kr→
     (∀ a1 e1 h1,Fits N a1 e1→EG (writes x) (Ei x) a a1→kn' e1 h1→ ∃e2,Fits N a1 e2∧EQ A P N inR y anny e2 h1 kn kb kr)→
     (Code.seq x y).wpIn (Fw r) m P (Post A N (writes (.seq x y)) (Ei (.seq x y)) a kn kb kr) a (A.at h n):=by
    intro kn' annx anny hx hy
    refine wpIn_seq (wpIn_mono (ihx m inR r annx e h kn' kb kr a n hr hx H) ?_)
    intro ex a1 w1 hp
    have hw1: ∀t∈writes x,t∈writes (.seq x y):=fun t ht=>by simp only[writes,List.mem_append];exact .inl ht
    have hw2: ∀t∈writes y,t∈writes (.seq x y):=fun t ht=>by simp only[writes,List.mem_append];exact .inr ht
    have hn:Ei (.seq x y)=true→Ei x=true∧Ei y=true:=fun h=>by simpa [Ei] using h
    cases ex with
    |normal=>
     obtain⟨e1,h1,n1,rfl,H1,K1,hx1⟩:=hp
     obtain⟨e2,H2,hy2⟩:=hy a1 e1 h1 H1 K1 hx1
     refine wpIn_mono (ihy m inR r anny e2 h1 kn kb kr a1 n1 hr hy2 H2) ?_
     rintro ex2 a2 w2 ⟨e3,h3,n3,rfl,H3,K3,hx3⟩
     exact⟨e3,h3,n3,rfl,H3,K1.trans K3 hw1 hw2 hn,hx3⟩
    |exit id=>obtain⟨e1,h1,n1,rfl,H1,K1,hx1⟩:=hp;exact⟨e1,h1,n1,rfl,H1,K1.weak hw1 (fun h=>(hn h).1),hx1⟩
    |ret=>obtain⟨e1,h1,n1,rfl,H1,K1,hx1⟩:=hp;exact⟨e1,h1,n1,rfl,H1,K1.weak hw1 (fun h=>(hn h).1),hx1⟩
    |goto l=>obtain⟨e1,h1,n1,rfl,H1,K1,hx1⟩:=hp;exact⟨e1,h1,n1,rfl,H1,K1.weak hw1 (fun h=>(hn h).1),hx1⟩
    |panic ch=>obtain⟨_,_,_,_,_,_,hx1⟩:=hp;exact hx1.elim
    |outgrown=>obtain⟨_,_,_,_,_,_,hx1⟩:=hp;exact hx1.elim
   cases ann with
   |seq ax ay=>
    simp only[EQ] at hk
    exact tail _ ax ay hk (fun a1 e1 h1 H1 _ hx=>⟨e1,H1,hx⟩)
   |seqJ L kept ax ay=>
    simp only[EQ] at hk
    split at hk
    ·rename_i hkp
     simp only[Bool.and_eq_true] at hkp
     have hk:=hk _ (fun _ _ h=>h)
     refine tail _ ax ay hk ?_
     intro a1 e1 h1 H1 K1 hx
     obtain⟨xs,hx1,hx2⟩:=Gy hx
     exact⟨_,H.join H1 hkp.2 K1 hkp.1 hx1,hx2⟩
    ·exact hk.elim
   |_=>simp only[EQ] at hk
  |cond v x y=>
   have ihx:=ih x (by simp at hc;omega)
   have ihy:=ih y (by simp at hc;omega)
   intro m inR r ann e h kn kb kr a n hr hk H
   cases ann with
   |cond ax ay=>
    simp only[EQ] at hk
    have hk:=BB H hk
    cases hv:a.eval v<;>rw[hv] at hk<;>simp only[] at hk
    rename_i b
    obtain⟨h1,h2⟩:=PIf.mk hk
    refine wpIn_cond hv ?_
    cases b with
    |true=>exact wpIn_mono (ihx m inR r ax e h kn kb kr a n hr (h1 rfl) H) (fun _ _ _ hp=>hp.mono (fun t ht=>by simp only[writes,List.mem_append];exact .inl ht) (fun h=>by simp[Ei] at h;exact h.1) (fun _ _ h=>h) (fun _ _ _ h=>h) (fun _ _ h=>h))
    |false=>exact wpIn_mono (ihy m inR r ay e h kn kb kr a n hr (h2 rfl) H) (fun _ _ _ hp=>hp.mono (fun t ht=>by simp only[writes,List.mem_append];exact .inr ht) (fun h=>by simp[Ei] at h;exact h.2) (fun _ _ h=>h) (fun _ _ _ h=>h) (fun _ _ h=>h))
   |_=>simp only[EQ] at hk
  |block id x=>
   have ih:=ih x (by simp at hc;omega)
   intro m inR r ann e h kn kb kr a n hr hk H
   have tail: ∀(kn':Env→Heap→Prop) (kb':Jmp→Env→Heap→Prop) (ax:Ann),EQ A P N inR x ax e h kn' kb' kr→
     (∀ a1 e1 h1,Fits N a1 e1→EG (writes x) (Ei x) a a1→kn' e1 h1→ ∃e2,Fits N a1 e2∧kn e2 h1)→
     (∀ i a1 e1 h1,Fits N a1 e1→EG (writes x) (Ei x) a a1→kb' (.blk i) e1 h1→(i=id∧ ∃e2,Fits N a1 e2∧kn e2 h1)∨(i≠id∧kb (.blk i) e1 h1))→(∀ l e1 h1,kb' (.lab l) e1 h1→kb (.lab l) e1 h1)→
     (Code.block id x).wpIn (Fw r) m P (Post A N (writes (.block id x)) (Ei (.block id x)) a kn kb kr) a (A.at h n):=by
    intro kn' kb' ax hx h1 h2 h3
    refine wpIn_block (wpIn_mono (ih m inR r ax e h kn' kb' kr a n hr hx H) ?_)
    intro ex a1 w1 hp
    obtain⟨e1,hh,n1,rfl,H1,K1,hx1⟩:=hp
    cases ex with
    |normal=>obtain⟨e2,H2,hy⟩:=h1 a1 e1 hh H1 K1 hx1;exact⟨e2,hh,n1,rfl,H2,K1,hy⟩
    |exit i=>
     simp only[Exit.inBlock]
     rcases h2 i a1 e1 hh H1 K1 hx1 with⟨hi,e2,H2,hy⟩|⟨hi,hy⟩
     ·rw [if_pos hi];exact⟨e2,hh,n1,rfl,H2,K1,hy⟩
     ·rw [if_neg hi];exact⟨e1,hh,n1,rfl,H1,K1,hy⟩
    |ret=>exact⟨e1,hh,n1,rfl,H1,K1,hx1⟩
    |goto l=>exact⟨e1,hh,n1,rfl,H1,K1,h3 l _ _ hx1⟩
    |panic ch=>exact hx1.elim
    |outgrown=>exact hx1.elim
   cases ann with
   |block ax=>
    simp only[EQ] at hk
    refine tail _ _ ax hk (fun a1 e1 h1 H1 _ hx=>⟨e1,H1,hx⟩) ?_ (fun _ _ _ h=>h)
    intro i a1 e1 h1 H1 _ hx
    by_cases hi:i=id
    ·subst hi
     simp only[Nat.beq_refl] at hx
     exact .inl ⟨rfl,e1,H1,hx⟩
    ·simp only[Qs hi] at hx
     exact .inr ⟨hi,hx⟩
   |blockJ L kept ax=>
    simp only[EQ] at hk
    split at hk
    ·rename_i hkp
     simp only[Bool.and_eq_true] at hkp
     have hk:=hk _ (fun _ _ h=>h)
     have fin: ∀a1 e1 h1,Fits N a1 e1→EG (writes x) (Ei x) a a1→Kb L e1 (fun xs=>kn (Ev L kept e xs) h1)→ ∃e2,Fits N a1 e2∧kn e2 h1:=by
      intro a1 e1 h1 H1 K1 hx
      obtain⟨xs,hx1,hx2⟩:=Gy hx
      exact⟨_,H.join H1 hkp.2 K1 hkp.1 hx1,hx2⟩
     refine tail _ _ ax hk fin ?_ (fun _ _ _ h=>h)
     intro i a1 e1 h1 H1 K1 hx
     by_cases hi:i=id
     ·subst hi
      simp only[Nat.beq_refl] at hx
      exact .inl ⟨rfl,fin a1 e1 h1 H1 K1 hx⟩
     ·simp only[Qs hi] at hx
      exact .inr ⟨hi,hx⟩
    ·exact hk.elim
   |_=>simp only[EQ] at hk
  |loop x=>
   have ih:=ih x (by simp at hc;omega)
   intro m inR r ann e h kn kb kr a n hr hk H
   cases ann with
   |loop L kept ax=>
    simp only[EQ] at hk
    split at hk
    ·rename_i hkp
     simp only[Bool.and_eq_true] at hkp
     obtain⟨xs,hx1,hk⟩:=Gy hk
     have hF0:Fits N a (Ev L kept e xs):=H.join H hkp.2 (EG.refl (W:=writes x)) hkp.1 hx1
     let K:TyL L→Heap→Prop:=fun xs h=> ∀a1 n,Fits N a1 (Ev L kept e xs)→EG (writes x) (Ei x) a a1→
      x.wpIn (Fw r) m P (Exit.then (Zk (Fw r) m P x (Post A N (writes x) (Ei x) a kn kb kr)) (Post A N (writes x) (Ei x) a kn kb kr)) a1 (A.at h n)
     have hK:=hk K ?_
     ·exact ADL (hK a n hF0 EG.refl)
     ·intro xs h hb a1 n H1 K1
      refine wpIn_mono (ih m inR r ax _ h _ kb kr a1 n hr hb H1) ?_
      intro ex a2 w2 hp
      obtain⟨e2,h2,n2,rfl,H2,K2,hx2⟩:=hp
      have K12:EG (writes x) (Ei x) a a2:=K1.trans K2 (fun _ h=>h) (fun _ h=>h) (fun h=>⟨h,h⟩)
      cases ex with
      |normal=>
       obtain⟨ys,hy1,hy2⟩:=Gy hx2
       exact AFb (hy2 a2 n2 (H1.again H2 hkp.2 K2 hkp.1 hy1) K12)
      |exit i=>exact⟨e2,h2,n2,rfl,H2,K12,hx2⟩
      |ret=>exact⟨e2,h2,n2,rfl,H2,K12,hx2⟩
      |goto l=>exact⟨e2,h2,n2,rfl,H2,K12,hx2⟩
      |panic ch=>exact hx2.elim
      |outgrown=>exact hx2.elim
    ·exact hk.elim
   |_=>simp only[EQ] at hk
  |rangeFunc f ps asg x=>
   have iha:=ih asg (by simp at hc;omega)
   have ihx:=ih x (by simp at hc;omega)
   intro m inR r ann e h kn kb kr a n hr hk H
   cases ann with
   |range lvs ax ay=>
    simp only[EQ] at hk
    split at hk
    ·rename_i hst
     simp only[Bool.and_eq_true,Bool.not_eq_true',List.all_eq_true] at hst
     obtain⟨⟨hin,hlen⟩,hps⟩:=hst
     have hlen:=Nat.eq_of_beq_eq_true hlen
     have hrn:=hr hin
     subst hrn
     have hk:=BB H hk
     refine wpIn_rangeFunc fun fn _=>?_
     let rec0:Go.Loop:= {state:= .ready,pending:=none,fn,tmps:=a.tmps,params:=ps,assign:=asg,body:=x,defers:=h.size}
     have gen: ∀args:List Value,args.length=ps.size→ ∀(hh:Heap) (R:Value→Heap→Prop),hh[h.size+1]? =some (.loop rec0)→
       EQ A P N true asg ax (Za {get:=e.get,ds:= []} ps.toList args) hh
        (fun e' h'=> ∃rec1,h'[h.size+1]? =some (.loop rec1)∧rec1.state= .ready∧
         EQ A P N true x ay e' (h'.setIfInBounds (h.size+1) (.loop {rec1 with state:= .busy}))
          (fun _ h2=> ∃rec',h2[h.size+1]? =some (.loop rec')∧R (.bool true) (h2.setIfInBounds (h.size+1) (.loop {rec' with state:= .ready,pending:=none})))
          (fun j _ h2=>match j with| .blk i=>(∃ rec',h2[h.size+1]? =some (.loop rec')∧R (.bool false) (h2.setIfInBounds (h.size+1) (.loop {rec' with state:= .done,pending:=some (VP (some i))})))| .lab _=>False)
          (fun _ h2=> ∃rec',h2[h.size+1]? =some (.loop rec')∧R (.bool false) (h2.setIfInBounds (h.size+1) (.loop {rec' with state:= .done,pending:=some (VP none)}))))
        (fun _ _ _=>False) (fun _ _=>False)→
       FE A P (.func (.yield (h.size+1)) #[] #[]) args.toArray hh R:=by
      intro args hal hh R hrec hbody n
      have hrun:(do let d ←Deferred.ofValue (.func (.yield (h.size+1)) #[] #[]) args.toArray;invoke d.target d.args:Sem Next).run P (A.at hh n)=
        .ok (.round (h.size+1) fn ((ps.zip args.toArray).foldl (fun tmps (t,a)=>tmps.setIfInBounds t a) a.tmps) asg x) (A.at hh n):=by
       have hsz: ¬(args.toArray).size≠ps.size:=by simp[hal]
       simp only[Deferred.ofValue,Sem.run_bind,Sem.run_pure,Result.andThen_ok,invoke,Instr.yield,run_getLoop hrec,Array.empty_append]
       show Sem.run P (if(args.toArray).size≠ps.size then _ else _) _=_
       rw[if_neg hsz]
       rfl
      rw[hrun]
      simp only[Next.out]
      have hfits:Fits N {tmps:=(ps.zip args.toArray).foldl (fun tmps (t,a)=>tmps.setIfInBounds t a) a.tmps,defers:= []} (Za {get:=e.get,ds:= []} ps.toList args):=by
       have h0:Fits N {tmps:=a.tmps,defers:= []} {get:=e.get,ds:= []}:=⟨H.size,H.get,rfl⟩
       have:=YZ ps.toList args _ a.tmps (fun p hp=>by simpa using hps p hp) h0
       rw[← Array.foldl_toList,Array.toList_zip]
       exact this
      refine roundIn_of_wpIn trivial (wpIn_mono (iha 0 true (some (h.size+1)) ax _ hh _ _ _ _ n (fun h=>by cases h) hbody hfits) ?_)
      intro ex a1 w1 hp
      obtain⟨e1,h1,n1,rfl,H1,K1,hx1⟩:=hp
      cases ex<;>simp only at hx1
      obtain⟨rec1,hr1,hs1,hb1⟩:=hx1
      refine⟨_,run_beginRound hr1 hs1,?_⟩
      refine wpIn_mono (ihx 0 true (some (h.size+1)) ay _ _ _ _ _ a1 n1 (fun h=>by cases h) hb1 H1) ?_
      intro ex2 a2 w2 hp2
      obtain⟨e2,h2,n2,rfl,H2,K2,hx2⟩:=hp2
      cases ex2<;>simp only at hx2
      ·obtain⟨rec',hr',hR⟩:=hx2
       exact⟨_,_,run_endRound hr',_,rfl,_,_,rfl,hR⟩
      ·obtain⟨rec',hr',hR⟩:=hx2
       exact⟨_,_,run_endRound hr',_,rfl,_,_,rfl,hR⟩
      ·obtain⟨rec',hr',hR⟩:=hx2
       exact⟨_,_,run_endRound hr',_,rfl,_,_,rfl,hR⟩
     obtain⟨f',args',hcal,hcall⟩:=hk rec0 rfl rfl hlen.symm (fun x hh R hrec hbody=>gen (ABq lvs x) ((UZ lvs x).trans hlen) hh R hrec hbody)
     obtain⟨nx,hnx,rfl⟩:=KG hcal
     have hsplit:=hnx (A.at ((h.push (.deferred (some []))).push (.loop rec0)) n)
     rw[Sem.run_bind] at hsplit
     have hres:(resolve a.eval (rangeCall f (h.size+1)) 0)=Deferred.ofValue (a.eval f) #[.func (.yield (h.size+1)) #[] #[]]:=by
      simp[resolve,Act.eval]
     cases hd:(Deferred.ofValue (a.eval f) #[.func (.yield (h.size+1)) #[] #[]]).run P (A.at ((h.push (.deferred (some []))).push (.loop rec0)) n) with
     |halt y w=>rw[hd] at hsplit;cases hsplit
     |ok d w1=>
      rw[hd] at hsplit
      have hw1:w1=A.at ((h.push (.deferred (some []))).push (.loop rec0)) n:=by
       cases hv:a.eval f<;>rw[hv] at hd<;>simp[Deferred.ofValue] at hd<;>first|exact hd.2.symm|(cases hd)
      subst hw1
      refine⟨h.size+1,[V8 h.size],_,d,_,f',args',_,AAo,by rw[hres];exact hd,fun _ _=>trivial,hsplit,fun hn=>by simp at hn,Sv.2 (Calls.mono (hcall n) ?_)⟩
      rintro ee w3 ⟨v,rfl,h2,n2,rfl,rec2,hrec2,hnb,hj⟩
      have hE:Fits N {a with defers:= [V8 h.size]++a.defers} {get:=e.get,ds:=h.size::e.ds}:=⟨H.size,H.get,by simp[H.ds]⟩
      refine⟨rec2.pending,_,run_endLoop hrec2 hnb,?_⟩
      generalize h2.setIfInBounds (h.size+1) (.loop {rec2 with state:= .exhausted})=h4 at hj ⊢
      rcases hj with⟨hp,hkn⟩|⟨j,hp,hkj⟩
      ·rw [hp]
       exact⟨_,_,_,rfl,hE,⟨fun _ _=>rfl,fun h=>by simp[Ei] at h⟩,hkn⟩
      ·rw [hp]
       cases j with
       |none=>exact wpIn_ret ⟨_,_,_,rfl,hE,⟨fun _ _=>rfl,fun h=>by simp[Ei] at h⟩,hkj⟩
       |some i=>exact wpIn_exit ⟨_,_,_,rfl,hE,⟨fun _ _=>rfl,fun h=>by simp[Ei] at h⟩,hkj⟩
    ·exact hk.elim
   |_=>simp only[EQ] at hk
  |scope b=>
   intro m inR r ann e h kn kb kr a n hr hk H
   cases b with
   |seq b0 y0=>
    cases y0 with
    |seq c y=>
     cases y with
     |seq z d=>
      cases z with
      |label l=>
       cases ann with
       |scope L kept a0 ax ay=>
        simp only[EQ] at hk
        split at hk
        ·rename_i hkp
         simp only[Bool.and_eq_true] at hkp
         obtain⟨⟨hf1,hf2⟩,hkp,hn0,hn1,hn2⟩:=hkp
         have ihb:=ih b0 (by simp at hc;omega)
         have ihc:=ih c (by simp at hc;omega)
         have ihd:=ih d (by simp at hc;omega)
         exact ADr ihb ihc ihd hr hf1 hf2 hkp hn0 hn1 hn2 hk H
        ·exact hk.elim
       |_=>simp only[EQ] at hk
      |_=>simp only[EQ] at hk
     |_=>simp only[EQ] at hk
    |_=>simp only[EQ] at hk
   |_=>simp only[EQ] at hk
theorem AGT {P:Program}{A:Amb}{N:Nat}(hm:P.follows .mixedOrders=true)(c:Code)(m:Nat)(inR:Bool)(r:Option Nat)(ann:Ann)(e:Env)(h:Heap)(kn:Env→Heap→Prop)(kb:Jmp→Env→Heap→Prop)(kr:Env→Heap→Prop)(a:Act)(n:Nat)
  (hr:inR=false→r=none) (hk:EQ A P N inR c ann e h kn kb kr) (H:Fits N a e):c.wpIn (Fw r) m P (Post A N (writes c) (Ei c) a kn kb kr) a (A.at h n):=
 AEA hm (SizeOf.sizeOf c+1) c (Nat.lt_succ_self _) m inR r ann e h kn kb kr a n hr hk H
end Go.Lf

/-
 LIFT, part J: a function: its formula, its contract.
-/
namespace Go.Lf
def V7(P:Program):List ResultVar→Env→Heap→(List Value→Prop)→Prop
 | [],_,_,K=>K []
 | .tmp t::r,e,h,K=>match e.get t with|some v=>V7 P r e h fun vs=>K (v::vs)|none=>False
 | .cell a t::r,e,h,K=>match e.get a with
  |some v=>(match v with| .pointer p=>At p fun ad=>loadT P t h ad fun v _=>V7 P r e h fun vs=>K (v::vs)|_=>False)
  |none=>False
def oneOf(vs:List Value)(K:Value→Prop):Prop:=match vs with| [v]=>K v|vs=>K (.tuple vs.toArray)
def ANE(P:Program)(l:List ResultVar)(e:Env)(h:Heap)(K:Value→Prop):Prop:=V7 P l e h fun vs=>oneOf vs K
def AF3:List Nat→Heap→(Heap→Prop)→Prop
 | [],h,K=>K h
 |r::rs,h,K=>h[r]? =some (.deferred (some []))∧AF3 rs (h.setIfInBounds r (.deferred none)) K
def X6:Nat→List Value→Nat→Option Value
 |_,[],_=>none
 |i,v::r,t=>bif Nat.beq t i then some v else X6 (i+1) r t
def AMU(P:Program)(fn:Func)(R:Value→Heap→Prop)(e:Env)(h:Heap):Prop:=AF3 e.ds h fun h'=>ANE P fn.results.toList e h' fun v=>R v h'
def AX(A:Amb)(P:Program)(f:FuncId)(ann:Ann)(args:List Value)(h:Heap)(R:Value→Heap→Prop):Prop:=
 match P.funcs[f]? with
 |none=>False
 |some fn=>match fn.body with
  |none=>False
  |some c=>match Nat.ble args.length fn.ntmps with
   |true=>EQ A P fn.ntmps false c ann {get:=X6 0 args,ds:= []} h (AMU P fn R) (fun _ _ _=>False) (AMU P fn R)
   |false=>False
theorem We: ∀ {l:List Value} {i t:Nat} {v:Value},X6 i l t=some v→i≤t∧l[t-i]? =some v
 | [],_,_,_,h=>by cases h
 |u::r,i,t,v,h=>by
  unfold X6 at h
  by_cases ht:t=i
  ·subst ht
   have hb:Nat.beq t t=true:=by simp
   rw[hb,cond_true] at h
   exact⟨Nat.le_refl _,by simpa using h⟩
  ·rw [Qs ht,cond_false] at h
   obtain⟨h1,h2⟩:=We h
   refine⟨by omega,?_⟩
   have:t-i=(t-(i+1))+1:=by omega
   rw[this,List.getElem?_cons_succ]
   exact h2
section
variable {P : Program} {A : Amb}
def AC1(tmps:Array Value):ResultVar→Sem Value
 | .tmp t=>pure (tmps.getD t undef)
 | .cell x t=>do loadVar t (← asAddr (tmps.getD x undef))
theorem AGo(fn:Func)(tmps:Array Value):results fn tmps=(do let vs ←fn.results.mapM (AC1 tmps);pure (if h:vs.size=1 then vs[0] else .tuple vs)):=rfl
theorem Ob {N:Nat}{a:Act}{e:Env}(H:Fits N a e){h:Heap}{n:Nat}: ∀ {l:List ResultVar} {K:List Value→Prop},V7 P l e h K→
  ∃vs,(l.mapM (AC1 a.tmps)).run P (A.at h n)= .ok vs (A.at h n)∧K vs
 | [],K,hk=>⟨[],rfl,hk⟩
 | .tmp t::r,K,hk=>by
  unfold V7 at hk
  split at hk
  ·rename_i v hv
   obtain⟨vs,hr,hk2⟩:=Ob (n:=n) H hk
   refine⟨v::vs,?_,hk2⟩
   have hg:a.tmps.getD t undef=v:=by have:=H.get t v hv;simp[this]
   rw[List.mapM_cons]
   simp only[Sem.run_bind,Sem.run_pure,Result.andThen_ok,AC1,hr,hg]
  ·exact hk.elim
 | .cell x t::r,K,hk=>by
  unfold V7 at hk
  split at hk
  ·rename_i v hv
   split at hk
   ·rename_i p
    obtain⟨ad,rfl,hk1⟩:=At.mk hk
    obtain⟨u,st,hl,hst,hk2⟩:=WY (A:=A) hk1
    obtain⟨vs,hr,hk3⟩:=Ob (n:=n) H hk2
    refine⟨u::vs,?_,hk3⟩
    have hg:a.tmps.getD x undef= .pointer (some ad):=by have:=H.get x _ hv;simp[this]
    rw[List.mapM_cons]
    simp only[Sem.run_bind,Sem.run_pure,Result.andThen_ok,AC1,hg,asAddr,hl h hst n,hr]
   ·exact hk.elim
  ·exact hk.elim
theorem AGk {N:Nat}{a:Act}{e:Env}(H:Fits N a e){fn:Func}{h:Heap}{n:Nat}{K:Value→Prop}(hk:ANE P fn.results.toList e h K):
  ∃v,(results fn a.tmps).run P (A.at h n)= .ok v (A.at h n)∧K v:=by
 obtain⟨vs,hr,hk⟩:=Ob (A:=A) H (n:=n) hk
 have hrun:(results fn a.tmps).run P (A.at h n)= .ok (if hh:vs.toArray.size=1 then vs.toArray[0] else .tuple vs.toArray) (A.at h n):=by
  rw[AGo,Array.mapM_eq_mapM_toList]
  simp only[Sem.run_bind,Sem.run_map,hr,Result.andThen_ok,Sem.run_pure]
 refine⟨_,hrun,?_⟩
 match vs,hk with
 | [],hk=>exact hk
 | [v],hk=>exact hk
 |u::v::r,hk=>simpa [oneOf] using hk
theorem WV {fn:Func}{tmps:Array Value}{R:Ending→World→Prop}{K:Heap→Prop}(hK: ∀h n,K h→LeavesInM (Fw none) 0 P fn tmps R [] .returning (A.at h n)):
  ∀(l:List Nat) (h:Heap) (n:Nat),AF3 l h K→LeavesInM (Fw none) 0 P fn tmps R (l.map V8) .returning (A.at h n)
 | [],h,n,hk=>hK h n hk
 |r::rs,h,n,⟨hr,hk⟩=>by
  refine⟨by simp,.inl ⟨r,_,rfl,run_takeDeferred (w:=A.at h n) hr,?_⟩⟩
  exact WV hK rs _ n hk
theorem AJ(hm:P.follows .mixedOrders=true){f:FuncId}{ann:Ann}{args:List Value}{h:Heap}{R:Value→Heap→Prop}(hk:AX A P f ann args h R):
  AA A P f args.toArray h R:=by
 intro n
 unfold AX at hk
 split at hk
 ·exact hk.elim
 ·rename_i fn hf
  split at hk
  ·exact hk.elim
  ·rename_i c hb
   split at hk
   ·rename_i hle
    have hle:=Nat.le_of_ble_eq_true hle
    refine Sv.1 (callsIn_of_wp_marks (F:=Fw none) (n:=0) hf hb trivial ?_)
    have H:Fits fn.ntmps {tmps:=args.toArray++Array.replicate (fn.ntmps-args.toArray.size) undef,defers:= []} {get:=X6 0 args,ds:= []}:=by
     refine⟨by simp;omega,fun t v hv=>?_,rfl⟩
     obtain⟨_,h2⟩:=We hv
     have hlt:t<args.length:=(List.getElem?_eq_some_iff.1 (by simpa using h2)).1
     rw[Array.getElem?_append_left (by simpa using hlt)]
     simpa using h2
    refine wpIn_mono (AGT hm c 0 false none ann _ h _ _ _ _ n (fun _=>rfl) hk H) ?_
    intro ex a w hp
    obtain⟨e,h',n',rfl,H',_,hx⟩:=hp
    have fin:AMU P fn R e h'→LeavesInM (Fw none) 0 P fn a.tmps (fun e w'=> ∃v,e= .returned v∧ ∃h' n',w'=A.at h' n'∧R v h') a.defers .returning (A.at h' n'):=by
     intro hr
     rw[H'.ds]
     refine WV ?_ e.ds h' n' hr
     intro h2 n2 h3
     obtain⟨v,hv,hR⟩:=AGk (A:=A) H' (n:=n2) h3
     exact⟨v,hv,v,rfl,h2,n2,rfl,hR⟩
    cases ex<;>simp only at hx
    ·exact fin hx
    ·exact fin hx
   ·exact hk.elim
end
def Pb(k:IntKind)(a b:Int):Int:=k.wrap ((BitVec.ofInt k.bits a &&& BitVec.ofInt k.bits b).toNat:Int)
def bOr(k:IntKind)(a b:Int):Int:=k.wrap ((BitVec.ofInt k.bits a ||| BitVec.ofInt k.bits b).toNat:Int)
def Vq(k:IntKind)(a b:Int):Int:=k.wrap ((BitVec.ofInt k.bits a ^^^ BitVec.ofInt k.bits b).toNat:Int)
end Go.Lf

/-
 The names of functions and types in this translation.
-/
namespace Go.Lf.G
noncomputable abbrev P:Program:=Go.Proofs.Tryz.prog
def Ez:FuncId:=7
def Ej:FuncId:=9
def EL:FuncId:=10
def Eb:FuncId:=11
def FL:FuncId:=12
def EE:FuncId:=13
def GK:FuncId:=14
def CP:FuncId:=15
def EN:FuncId:=16
def Ee:FuncId:=17
def Ht:FuncId:=19
def EW:FuncId:=20
def F4:FuncId:=21
def IE:FuncId:=22
def Gj:FuncId:=23
def JR:FuncId:=24
def IV:FuncId:=25
def DN:FuncId:=27
def Dr:FuncId:=28
def Bw:FuncId:=29
def ED:FuncId:=30
def BF:FuncId:=31
def Dq:FuncId:=32
def Dz:FuncId:=33
def EH:FuncId:=34
def Jw:FuncId:=35
def KM:FuncId:=36
def Hg:FuncId:=37
def FO:FuncId:=38
def FK:FuncId:=39
def DX:FuncId:=40
def Dw:FuncId:=41
def Dp:FuncId:=42
def Jy:FuncId:=43
def Mc:FuncId:=44
def FZ:FuncId:=45
def Df:FuncId:=46
def DW:FuncId:=47
def Az:FuncId:=48
def JN:FuncId:=50
def Ep:FuncId:=51
def G9:FuncId:=52
def J3:FuncId:=53
def MB:FuncId:=54
def LZ:FuncId:=55
def Ff:FuncId:=56
def BI:FuncId:=57
def Cq:FuncId:=58
def FV:FuncId:=59
def Fp:FuncId:=60
def I7:FuncId:=61
def Et:FuncId:=62
def ER:FuncId:=63
def J4:FuncId:=64
def GG:FuncId:=65
def JK:FuncId:=66
def IR:FuncId:=67
def Gb:FuncId:=68
def ES:FuncId:=69
def Mm:FuncId:=70
def Bj:FuncId:=71
def Fb:FuncId:=72
def GD:FuncId:=73
def FJ:FuncId:=74
def Ha:FuncId:=75
def I9:FuncId:=76
def Kw:FuncId:=77
def JF:FuncId:=78
def Br:FuncId:=79
def FN:FuncId:=80
def Aj:FuncId:=81
def Bq:FuncId:=82
def GI:FuncId:=83
def FP:FuncId:=84
def EY:FuncId:=85
def KA:FuncId:=86
def EU:FuncId:=87
def EC:FuncId:=90
def Ox:FuncId:=92
def CG:FuncId:=93
def Dt:FuncId:=94
def Cc:FuncId:=95
def HZ:FuncId:=96
def Gt:FuncId:=97
def Hw:FuncId:=98
def Eo:FuncId:=99
def EP:FuncId:=100
def MQ:FuncId:=101
def GJ:FuncId:=102
def KL:FuncId:=103
def De:FuncId:=104
def Dc:FuncId:=105
def LF:FuncId:=106
def G5:FuncId:=107
def Qx:FuncId:=108
def Cf:FuncId:=109
def EJ:FuncId:=110
def Es:FuncId:=111
def Fa:FuncId:=112
def Gr:FuncId:=113
def JI:FuncId:=114
def BM:FuncId:=115
def Jz:FuncId:=116
def BX:FuncId:=117
def Fh:FuncId:=118
def DD:FuncId:=119
def EI:FuncId:=120
def FC:FuncId:=121
def GX:FuncId:=122
def J5:FuncId:=123
def En:FuncId:=124
def J2:FuncId:=125
def EX:FuncId:=126
def LM:FuncId:=130
def Gq:FuncId:=131
def NW:FuncId:=132
def Ky:FuncId:=133
def Li:FuncId:=134
def Gh:FuncId:=136
def JD:FuncId:=137
def EO:FuncId:=140
def J6:FuncId:=141
def Ef:FuncId:=142
def JH:FuncId:=143
def KI:FuncId:=144
def Mj:FuncId:=145
def Bd:FuncId:=146
def CB:FuncId:=147
def Iz:FuncId:=148
def Cr:FuncId:=149
def Iy:FuncId:=150
def E9:FuncId:=151
def Km:FuncId:=165
def Kn:FuncId:=166
def Bl:FuncId:=177
def t_:TypeId:=0
def BL:TypeId:=3
def Je:TypeId:=4
def Ci:TypeId:=5
def Ad:TypeId:=9
def AV:TypeId:=22
def Bf:TypeId:=23
def Co:TypeId:=32
def BG:TypeId:=34
def CO:TypeId:=42
def AO:TypeId:=44
def GR:TypeId:=53
def Ea:TypeId:=55
def Bv:TypeId:=61
def DL:TypeId:=66
def Dh:TypeId:=67
def ACw:TypeId:=76
def JA:TypeId:=80
def Nw:TypeId:=81
def Qu:TypeId:=87
def BH:TypeId:=88
def WT:TypeId:=90
def KJ:TypeId:=93
def ADZ:TypeId:=103
def Lu:TypeId:=105
def Dl:TypeId:=108
def DZ:TypeId:=109
def UC:TypeId:=111
def AAL:TypeId:=119
def Ae:TypeId:=121
def Du:TypeId:=123
def Au:TypeId:=127
def BN:TypeId:=144
def Am:TypeId:=153
def WR:TypeId:=164
def Cu:TypeId:=166
def Ow:TypeId:=168
def Wv:TypeId:=170
def Rx:TypeId:=172
def J7:TypeId:=175
def Xd:TypeId:=183
def Hl:TypeId:=194
def Cn:TypeId:=215
def Pw:TypeId:=276
def DJ:TypeId:=278
def Dv:TypeId:=280
theorem mixed:P.follows .mixedOrders=true:=by decide +kernel
end Go.Lf.G

