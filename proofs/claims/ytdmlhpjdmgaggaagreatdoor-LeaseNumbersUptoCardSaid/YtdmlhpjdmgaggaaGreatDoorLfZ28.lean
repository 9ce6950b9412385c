/-
 A store, hosts over it, and blocks of one's own beside them (chapter 18).
-/
import Derived.Test.YtdmlhpjdmgaggaaGreatDoorLfZ27
set_option linter.unusedVariables false
set_option linter.unusedSimpArgs false
set_option maxRecDepth 100000
set_option linter.unusedVariables false
set_option linter.unusedSimpArgs false
namespace Go.Lf.G
open Go
open M (Sorted Ag DR BJ Ai BD CV Ap OkL Ba atK Bc)
structure Hs where
 p:Nat
 bh:Nat
 bu:Nat
 name:ByteArray
 f:Nat→Nat
 u:Nat→Nat
def Hs.mine(x:Hs)(c:Nat):Prop:=c=x.p∨c=x.bh∨c=x.bu
structure AEu (g h:Heap) (k:Nat→Nat) (s sh N:Nat) (l:List Hs):Prop where
 host: ∀(i:Nat) x,l[i]? =some x→Cg g h k s x.p x.bh x.bu x.name sh x.f x.u N
 dis: ∀(i j:Nat) x y,l[i]? =some x→l[j]? =some y→i≠j→ ∀c,x.mine c→ ¬y.mine c
def LW(B:Bud)(g h:Heap)(s a N sh:Nat)(l:List Hs)(mp:List Pr)(O:Nat→Prop):Prop:=
 ∃(q:Hp) (k:Nat→Nat) (st:Db) (m:Bx) (D:BO) (nn:Nat),D6 B g h s q k st m D (1+3*a) (64*a) nn∧nn≤a∧Bp st=mp∧AEu g h k s sh N l∧N≤1000000∧ ∀c,O c→k c=0∧c<h.size∧g.size≤c∧c≠s∧ ∀x∈l,¬x.mine c
section
variable {A : Amb} {B : Bud} {g h : Heap} {s a N sh : Nat} {l : List Hs} {mp : List Pr} {O : Nat → Prop} {R : Value → Heap → Prop}
theorem AEu.step {h':Heap}{k k':Nat→Nat}{S:Nat→Prop}(H:AEu g h k s sh N l)(md:Mod S h h')(hS: ∀c,S c→k c≠0∨h.size≤c∨c=s∨ ∀x∈l,¬x.mine c)(kk: ∀c,k' c≠0→k c≠0∨h.size≤c):AEu g h' k' s sh N l:=
 ⟨fun i x hx=>(H.host i x hx).step md (fun c hc=>by
  rcases hS c hc with h|h|h|h
  ·exact .inl h
  ·exact .inr (.inl h)
  ·exact .inr (.inr (.inl h))
  ·exact .inr (.inr (.inr (h x (List.mem_of_getElem? hx))))) kk,H.dis⟩
theorem AEu.set {h':Heap}{k k':Nat→Nat}{S:Nat→Prop}{i N':Nat}{x x':Hs}(H:AEu g h k s sh N l)(hx:l[i]? =some x)(md:Mod S h h')(hS: ∀c,S c→k c≠0∨h.size≤c∨c=s∨x.mine c)(kk: ∀c,k' c≠0→k c≠0∨h.size≤c)(hx':Cg g h' k' s x'.p x'.bh x'.bu x'.name sh x'.f x'.u N')(same: ∀c,x'.mine c↔x.mine c)(hN:N≤N'∧N'≤1000000):AEu g h' k' s sh N' (l.set i x'):=by
 have hil:=(List.getElem?_eq_some_iff.1 hx).1
 refine⟨fun j y hy=>?_,fun j1 j2 y1 y2 h1 h2 hne c hc=>?_⟩
 ·by_cases e:i=j
  ·subst e
   rw[List.getElem?_set_self hil] at hy
   cases hy;exact hx'
  ·rw [List.getElem?_set_ne e] at hy
   refine((H.host j y hy).step md (fun c hc=>?_) kk).more hN.1 hN.2
   rcases hS c hc with h|h|h|h
   ·exact .inl h
   ·exact .inr (.inl h)
   ·exact .inr (.inr (.inl h))
   ·exact .inr (.inr (.inr (H.dis i j x y hx hy e c h)))
 ·have go: ∀ {j:Nat} {y:Hs},(l.set i x')[j]? =some y→ ∃y0,l[j]? =some y0∧ ∀c,y.mine c↔y0.mine c:=fun {j y} hy=>by
   by_cases e:i=j
   ·subst e
    rw[List.getElem?_set_self hil] at hy
    cases hy;exact⟨x,hx,same⟩
   ·rw [List.getElem?_set_ne e] at hy
    exact⟨y,hy,fun _=>Iff.rfl⟩
  obtain⟨z1,e1,m1⟩:=go h1
  obtain⟨z2,e2,m2⟩:=go h2
  exact fun h=>H.dis j1 j2 z1 z2 e1 e2 hne c ((m1 c).1 hc) ((m2 c).1 h)
theorem LW.ext(W:LW B g h s a N sh l mp O):Ext g h:=by
 obtain⟨q,k,st,m,D,nn,C,_⟩:=W
 exact C.db.mem.ext
theorem LW.sorted(W:LW B g h s a N sh l mp O):Sorted mp:=by
 obtain⟨q,k,st,m,D,nn,C,_,rfl,_⟩:=W
 exact C.db.sorted
theorem LW.len(W:LW B g h s a N sh l mp O):mp.length≤100000:=by
 obtain⟨q,k,st,m,D,nn,C,_,rfl,_⟩:=W
 exact C.db.frlen.2.2.2
theorem LW.own {h':Heap}{O':Nat→Prop}(W:LW B g h s a N sh l mp O)(md:Mod O h h')(hO: ∀c,O' c→O c∨(h.size≤c∧c<h'.size)):LW B g h' s a N sh l mp O':=by
 obtain⟨q,k,st,m,D,nn,C,hn,e,Al,hN,out⟩:=W
 have szg:=C.db.mem.ext.size
 have sz:=md.size
 have hs:=C.lt
 refine⟨q,k,st,m,D,nn,C.beside md (fun c hc=>⟨(out c hc).1,(out c hc).2.2.1⟩) (fun h=>(out s h).2.2.2.1 rfl),hn,e,Al.step md (fun c hc=> .inr (.inr (.inr (out c hc).2.2.2.2))) (fun c hc=> .inl hc),hN,fun c hc=>?_⟩
 rcases hO c hc with h|⟨h1,h2⟩
 ·obtain⟨o1,o2,o3,o4,o5⟩:=out c h
  exact⟨o1,by omega,o3,o4,o5⟩
 ·refine⟨C.db.free h1,h2,by omega,by omega,fun x hx hm=>?_⟩
  obtain⟨i,hi⟩:=List.getElem?_of_mem hx
  have:=(Al.host i x hi).lt c hm
  omega
theorem LW.on {h':Heap}(W:LW B g h s a N sh l mp O)(x:Ext h h'):LW B g h' s a N sh l mp O:=W.own (x.weak fun _ _ h=>h.elim) fun c hc=> .inl hc
theorem LW.less {O':Nat→Prop}(W:LW B g h s a N sh l mp O)(hO: ∀c,O' c→O c):LW B g h s a N sh l mp O':=by
 obtain⟨q,k,st,m,D,nn,C,hn,e,Al,hN,out⟩:=W
 exact⟨q,k,st,m,D,nn,C,hn,e,Al,hN,fun c hc=>out c (hO c hc)⟩
theorem LW.put {a' N':Nat}(W:LW B g h s a N sh l mp O)(h1:a≤a')(h2:64*a'≤B.C)(h3:N≤N')(h4:N'≤1000000):LW B g h s a' N' sh l mp O:=by
 obtain⟨q,k,st,m,D,nn,C,hn,e,Al,hN,out⟩:=W
 exact⟨q,k,st,m,D,nn,C.put (by omega) (by omega) h2,by omega,e,⟨fun i x hx=>(Al.host i x hx).more h3 h4,Al.dis⟩,h4,out⟩
abbrev LWS(g:Heap)(O:Nat→Prop):Nat→Prop:=fun c=>g.size≤c∧ ¬O c
theorem LW.stepped {h':Heap}{S:Nat→Prop}{i a' N' nn nn':Nat}{x x':Hs}{q q':Hp}{k k':Nat→Nat}{st st':Db}{m m':Bx}{D D':BO}(C:D6 B g h s q k st m D (1+3*a) (64*a) nn)(Al:AEu g h k s sh N l)(out: ∀c,O c→k c=0∧c<h.size∧g.size≤c∧c≠s∧ ∀x∈l,¬x.mine c)
  (hx:l[i]? =some x) (C':D6 B g h' s q' k' st' m' D' (1+3*a') (64*a') nn') (hn':nn'≤a') (md:Mod S h h') (hS: ∀c,S c→k c≠0∨h.size≤c∨c=s∨x.mine c) (kk: ∀c,k' c≠0→k c≠0∨h.size≤c) (hx':Cg g h' k' s x'.p x'.bh x'.bu x'.name sh x'.f x'.u N') (same: ∀c,x'.mine c↔x.mine c) (hN:N≤N'∧N'≤1000000):
  LW B g h' s a' N' sh (l.set i x') (Bp st') O∧Mod (LWS g O) h h':=by
 have szg:=C.db.mem.ext.size
 have hs:=C.lt
 have sz:=md.size
 have hxm:=List.mem_of_getElem? hx
 refine⟨⟨q',k',st',m',D',nn',C',hn',rfl,Al.set hx md hS kk hx' same hN,hN.2,fun c hc=>?_⟩,md.weak fun c hlt hc=>⟨?_,fun ho=>?_⟩⟩
 ·obtain⟨o1,o2,o3,o4,o5⟩:=out c hc
  refine⟨Decidable.byContradiction fun h3=>?_,by omega,o3,o4,fun y hy hm=>?_⟩
  ·rcases kk c h3 with h|h
   ·exact h o1
   ·omega
  ·rcases List.mem_or_eq_of_mem_set hy with h|rfl
   ·exact o5 y h hm
   ·exact o5 x hxm ((same c).1 hm)
 ·rcases hS c hc with h|h|h|h
  ·exact(C.db.mem.own c h).1
  ·omega
  ·have:=C.base;omega
  ·exact((Al.host i x hx).mine c h).2.1
 ·obtain⟨o1,o2,o3,o4,o5⟩:=out c ho
  rcases hS c hc with h|h|h|h
  ·exact h o1
  ·omega
  ·exact o4 h
  ·exact o5 x hxm h
theorem LW.start {b:Nat}{Sb:Nat→Prop}{m:Bx}(E:Evn g)(Bx0:BU h b Sb m)(hx:Ext g h)(hSb: ∀c,Sb c→g.size≤c)(hd:m.down=false)(hfu:m.fuel= -1)(hl: ∀n,ff m (fnB nl n)=none)(hn: ∀n,ff m (fnB nn n)=none)(ht: ∀x,ff m x≠none→(bl x).head? ≠some 116)(hA:1≤B.A)(hw:wtF m.files≤B.W0)
  (H1: ∀h' s,LW B g h' s 0 0 sh [] [] (fun _=>False)→Ext g h'→h.size≤s→R (.tuple #[Aq s,.int .i64 0]) h'):AA A P EE #[Aq b] h R:=
 Vj (B:=B) E Bx0 hx hSb hd hfu hl hn ht hA hw fun h' s q' k' st' m' D' eb C mp md kk hs=>H1 h' s ⟨q',k',st',m',D',0,C,Nat.le_refl _,mp,⟨fun i x hx=>by simp at hx,fun i j x y hx=>by simp at hx⟩,by omega,fun c hc=>hc.elim⟩ C.db.mem.ext hs
theorem LW.host {name:ByteArray}(W:LW B g h s a N sh l mp O)(hn:GV name=true)(hs:1≤sh∧sh≤16)
  (H: ∀h' p bh bu,LW B g h' s a N sh (l++ [⟨p,bh,bu,name,fun _=>0,fun _=>0⟩]) mp O→Ext h h'→R (.tuple #[Aq p,.int .i64 0]) h'):AA A P Dr #[Aq s,.string name,.int .i64 (sh:Int)] h R:=by
 obtain⟨q,k,st,m,D,nn,C,hn2,e,Al,hN,out⟩:=W
 refine AK3 C hn hs fun h' p bh bu HH fresh x=>H h' p bh bu ⟨q,k,st,m,D,nn,C.on x,hn2,e,⟨fun i y hy=>?_,fun i j y1 y2 h1 h2 hne c hc hc2=>?_⟩,hN,fun c hc=>?_⟩ x
 ·rw [List.getElem?_append] at hy
  split at hy
  ·exact(Al.host i y hy).on x
  ·rw [List.getElem?_singleton] at hy
   split at hy
   ·cases hy;exact HH.more (Nat.zero_le _) hN
   ·cases hy
 ·have go: ∀ {j:Nat} {y:Hs},(l++ [⟨p,bh,bu,name,fun _=>0,fun _=>0⟩])[j]? =some y→(j<l.length∧l[j]? =some y)∨(j=l.length∧ ∀c,y.mine c→h.size≤c):=fun {j y} hy=>by
   rw[List.getElem?_append] at hy
   split at hy
   ·rename_i hlt;exact .inl ⟨hlt,hy⟩
   ·rename_i hlt
    rw[List.getElem?_singleton] at hy
    split at hy
    ·rename_i h0
     cases hy
     exact .inr ⟨by omega,fun c hc=>(fresh c hc).1⟩
    ·cases hy
  rcases go h1 with⟨l1,e1⟩|⟨l1,e1⟩<;>rcases go h2 with⟨l2,e2⟩|⟨l2,e2⟩
  ·exact Al.dis i j y1 y2 e1 e2 hne c hc hc2
  ·have:=(Al.host i y1 e1).lt c hc
   have:=e2 c hc2
   omega
  ·have:=(Al.host j y2 e2).lt c hc2
   have:=e1 c hc
   omega
  ·omega
 ·obtain⟨o1,o2,o3,o4,o5⟩:=out c hc
  have:=x.size
  refine⟨o1,by omega,o3,o4,fun y hy hm=>?_⟩
  rcases List.mem_append.1 hy with h|h
  ·exact o5 y h hm
  ·rw [List.mem_singleton.1 h] at hm
   have:=(fresh c hm).1
   omega
def Hs.got(x:Hs)(n r:Nat):Hs:= {x with f:=upN x.f n r,u:=upN x.u n 0}
def Hs.lost(x:Hs)(n:Nat):Hs:= {x with f:=upN x.f n 0}
def Hs.gave(x:Hs)(n:Nat):Hs:= {x with u:=upN x.u n (x.u n+1)}
theorem LW.holds {i n:Nat}{x:Hs}(W:LW B g h s a N sh l mp O)(hx:l[i]? =some x)(H:R (.int .i64 (x.f n:Int)) h):AA A P BF #[Aq x.p,.int .i64 (n:Int)] h R:=by
 obtain⟨q,k,st,m,D,nn,C,hn2,e,Al,hN,out⟩:=W
 exact WA (Al.host i x hx) H
theorem LW.look {i n r:Nat}{x:Hs}{nm:ByteArray}(W:LW B g h s a N sh l mp O)(hx:l[i]? =some x)(hn:n<sh)(L:BQ mp n r nm)(H: ∀h',Ext h h'→R (.tuple #[.int .i64 (r:Int),.string nm,.int .i64 0]) h'):AA A P Dz #[Aq x.p,.int .i64 (n:Int)] h R:=by
 obtain⟨q,k,st,m,D,nn,C,hn2,rfl,Al,hN,out⟩:=W
 exact AE6 C (Al.host i x hx) hn L H
theorem LW.release {i n:Nat}{x:Hs}(W:LW B g h s a N sh l mp O)(hx:l[i]? =some x)(H: ∀h',LW B g h' s a N sh (l.set i (x.lost n)) mp O→Mod (LWS g O) h h'→R (.tuple #[]) h'):AA A P Dq #[Aq x.p,.int .i64 (n:Int)] h R:=by
 obtain⟨q,k,st,m,D,nn,C,hn2,rfl,Al,hN,out⟩:=W
 have HH:=Al.host i x hx
 refine ADg HH fun h' H' md=>?_
 have hm:=HH.mine x.bh (.inr (.inl rfl))
 have:=LW.stepped (x':=x.lost n) C Al out hx (C.beside md (fun c hc=>by subst hc;exact⟨hm.1,hm.2.1⟩) fun e=>hm.2.2 e.symm) hn2 md (fun c hc=> .inr (.inr (.inr (.inr (.inl hc))))) (fun c hc=> .inl hc) H' (fun _=>Iff.rfl) ⟨Nat.le_refl _,hN⟩
 exact H h' this.1 this.2
theorem LW.acquire {i n r:Nat}{x:Hs}{nm:ByteArray}(E:Evn g)(W:LW B g h s a N sh l mp O)(hx:l[i]? =some x)(hn:n<sh)(L:BQ mp n r nm)(hr:r+1≤2147483647)(hA:4+3*a≤B.A)(hC:64*a+64≤B.C)(ha:a+1≤1000000)(hN1:N+1≤1000000)
  (H: ∀h',LW B g h' s (a+1) (N+1) sh (l.set i (x.got n (r+1))) (wrL mp [⟨Bu n,Fe (r+1) x.name,false⟩]) O→Mod (LWS g O) h h'→R (.tuple #[.int .i64 ((r+1:Nat):Int),.int .i64 0]) h'):
  AA A P Bw #[Aq x.p,.int .i64 (n:Int)] h R:=by
 obtain⟨q,k,st,m,D,nn,C,hn2,rfl,Al,hN,out⟩:=W
 have HH:=Al.host i x hx
 refine AEn E C HH hn L hr (by omega) (by omega) (by omega) hN1 fun h' q' k' st' m' D' ed eb C' mp' H' md kk=>?_
 have:=LW.stepped (x':=x.got n (r+1)) (a':=a+1) C Al out hx (C'.put (by omega) (by omega) (by omega)) (by omega) md (fun c hc=>by
  rcases hc with h|h|h|h|h
  ·exact .inl h
  ·exact .inr (.inl h)
  ·exact .inr (.inr (.inl h))
  ·exact .inr (.inr (.inr (.inr (.inl h))))
  ·exact .inr (.inr (.inr (.inr (.inr h))))) kk H' (fun _=>Iff.rfl) ⟨Nat.le_succ _,hN1⟩
 rw[mp'] at this
 exact H h' this.1 this.2
theorem LW.number {i n:Nat}{x:Hs}(W:LW B g h s a N sh l mp O)(hx:l[i]? =some x)(hf:x.f n≤2147483647)(hu:x.u n+1<16777216)(hN1:N+1≤1000000)
  (H0:x.f n=0→R (.int .u64 0) h)
  (H1:x.f n≠0→ ∀h',LW B g h' s a (N+1) sh (l.set i (x.gave n)) mp O→Mod (LWS g O) h h'→R (.int .u64 ((x.f n*16777216+(x.u n+1):Nat):Int)) h'):
  AA A P EH #[Aq x.p,.int .i64 (n:Int)] h R:=by
 obtain⟨q,k,st,m,D,nn,C,hn2,rfl,Al,hN,out⟩:=W
 have HH:=Al.host i x hx
 refine AFm HH hf hu hN1 H0 fun h0 h' H' md=>?_
 have hm:=HH.mine x.bu (.inr (.inr rfl))
 have:=LW.stepped (x':=x.gave n) C Al out hx (C.beside md (fun c hc=>by subst hc;exact⟨hm.1,hm.2.1⟩) fun e=>hm.2.2 e.symm) hn2 md (fun c hc=> .inr (.inr (.inr (.inr (.inr hc))))) (fun c hc=> .inl hc) H' (fun _=>Iff.rfl) ⟨Nat.le_succ _,hN1⟩
 exact H1 h0 h' this.1 this.2
theorem LW.change {i n:Nat}{x:Hs}{conds sl:Sl}{cl lp:List Pr}(E:Evn g)(W:LW B g h s a N sh l mp O)(hx:l[i]? =some x)(hn:n<256)(hf:x.f n≤2147483647)(hA:4+3*a≤B.A)(hC:64*a+64≤B.C)(ha:a+1≤1000000)(vc:View Ak h conds cl)(hcl:cl.length≤1000000)(v:View Ak h sl lp)(hs:lp≠ []→ ∀b,sl.blk=some b→b<g.size∨O b)(hk: ∀x∈cl,x.key.size≤1099511627776)
  (H0:x.f n=0→R (.int .i64 170) h)
  (Hf:x.f n≠0→CL mp (MX n (x.f n) x.name)=false→ ∀h',LW B g h' s a N sh (l.set i (x.lost n)) mp O→Mod (LWS g O) h h'→R (.int .i64 170) h')
  (He:x.f n≠0→CL mp (MX n (x.f n) x.name)=true→doC mp (MX n (x.f n) x.name::cl) lp≠0→ ∀h',Ext h h'→R (.int .i64 (doC mp (MX n (x.f n) x.name::cl) lp)) h')
  (H1:x.f n≠0→CL mp (MX n (x.f n) x.name)=true→doC mp (MX n (x.f n) x.name::cl) lp=0→ ∀h',LW B g h' s (a+1) N sh l (wrL mp lp) O→Mod (LWS g O) h h'→R (.int .i64 0) h'):
  AA A P ED #[Aq x.p,.int .i64 (n:Int),.slice conds.p conds.len conds.cap,.slice sl.p sl.len sl.cap] h R:=by
 obtain⟨q,k,st,m,D,nn,C,hn2,rfl,Al,hN,out⟩:=W
 have HH:=Al.host i x hx
 have szg:=C.db.mem.ext.size
 refine AMu E C HH hn hf (by omega) (by omega) (by omega) vc hcl v (fun hne b hb=>?_) hk H0 (fun h0 hfl h' C' H' md=>?_) He fun h0 htr hz h' q' k' st' m' D' ed eb C' mp' H' md kk=>?_
 ·rcases hs hne b hb with h|h
  ·refine⟨by omega,C.db.base h,?_⟩
   have:=(HH.mine x.bh (.inr (.inl rfl))).2.1
   omega
  ·obtain⟨o1,o2,o3,o4,o5⟩:=out b h
   exact⟨o2,o1,fun e=>o5 x (List.mem_of_getElem? hx) (.inr (.inl e))⟩
 ·have:=LW.stepped (x':=x.lost n) C Al out hx C' hn2 md (fun c hc=>by
   rcases hc with h|h
   ·exact .inr (.inl h)
   ·exact .inr (.inr (.inr (.inr (.inl h))))) (fun c hc=> .inl hc) H' (fun _=>Iff.rfl) ⟨Nat.le_refl _,hN⟩
  exact Hf h0 hfl h' this.1 this.2
 ·have:=LW.stepped (x':=x) (a':=a+1) C Al out hx (C'.put (by omega) (by omega) (by omega)) (by omega) md (fun c hc=>by
   rcases hc with h|h|h
   ·exact .inl h
   ·exact .inr (.inl h)
   ·exact .inr (.inr (.inl h))) kk H' (fun _=>Iff.rfl) ⟨Nat.le_refl _,hN⟩
  rw[mp',show l.set i x=l from by
   obtain⟨hi,e⟩:=List.getElem?_eq_some_iff.1 hx
   rw[← e,List.set_getElem_self]] at this
  exact H1 h0 htr hz h' this.1 this.2
end
end Go.Lf.G

