/-
 Contracts: a world is made (chapter 24).
-/
import Derived.Test.YtfiljlifdlfkkaaGreatDoorLfE12ToP4
import Derived.Test.YtfiljlifdlfkkaaGreatDoorLfU2ToX2
import Derived.Lib.SliceRun
import Derived.Test.YtfiljlifdlfkkaaGreatDoorLfZ2ToC1
import Derived.Test.YtfiljlifdlfkkaaGreatDoorLfG1
set_option maxRecDepth 100000
set_option linter.unusedVariables false
set_option linter.unusedSimpArgs false
open Go.IntKind renaming i64→J9,wrap→J8
open Go.Value renaming string→J7,int→J6,pointer→J5,slice→J4,bool→J3,tuple→J1
open Go.Obj renaming cells→J2
open Go renaming Value→J0,Addr→Q6,TypeId→Q7,FuncId→Q8,Program→Q1
open Go.Addr renaming add→Q9,mk→Q5
namespace Go.Lf.G
open Go
open M (Sorted Ab Bw BJ Af Ak BN Ah ba BB aH Az)
def yt:cr (Option Nat) where
 w:=1
 enc p:= [nY p]
 len _:=rfl
 pos:=by decide
 one:=λx v a=>by rw[List.mem_singleton.1 a];rfl
theorem yu {z:J0}: ∀(n a:Nat) {b:Array J0},(∀ c,c<n->b[a+c]? =some z)->fT b a (List.replicate n z)=b
 |0,_,_,_=>rfl
 |n+1,a,b,h=>by
  have d:b[a]? =some z:=h 0 (by omega);have f:=(Array.getElem?_eq_some_iff.1 d).1;have e:b.setIfInBounds a z=b:=by
   apply Array.ext_getElem?;intro i;rw[Array.getElem?_setIfInBounds];split
   ·rename_i hi;subst hi;exact d.symm
   ·rfl
  rw[S7];show fT (b.setIfInBounds a z) (a+1) _=_;rw[e];exact yu n (a+1) λc j=>by have:=h (c+1) (by omega);rwa [show a+1+c=a+(c+1) by omega]
theorem AWR {A:ao}{t i T:Q7}{z:J0}(l:P.underlying t=some (.slice T))(m:(zeroValue T).calc P=some z)(o:z.cells= #[z])(p:MH z=true){h:aa}{b n j:Nat}{K:A2X}(q:0<n)
  (c:h[b]? =some (J2 (List.replicate n z).toArray T (0,0))) (r: ∀a,a[b]? =some (J2 (List.replicate n z).toArray T (0,0))->Mod (· =b) h a->K (J1 #[]) a):
  Ad A P (Builtin.clear_ #[t] i #[J4 (some ⟨b,0,none⟩) n j]) h K:=by
 intro d;have k:=Lib.run_clear_slice (P:=P) (A.at h d) t T i z l (DZ m) o (Nk p) b 0 n j q
  (λe f=>by
   show(af h ⟨b,0+e,none⟩).isSome=true;rw[Gs c,DP (by simp;omega)];rfl)
  (λe f=>NR c)
 obtain⟨a,s,u,v,w⟩:=ct (A:=A) (List.replicate n z) 0 (n:=d) c;rw[s] at k;refine⟨_,a,d,k,r a ?_ v⟩;rw[u,yu n 0 λe f=>by simp[f]]
section
variable {A : ao} {B : cX} {g h : aa} {R : A2X} {O : Nat -> Prop}
theorem LW.jq {sh b:Nat}{Sb:Nat->Prop}{m:Bx}(j:bR g)(k:Dw h b Sb m)(a:Ext g h)(l: ∀c,Sb c->g.size<=c)(n:Calm m)(e:m.files= [])(o: ∀c,O c->g.size<=c/\c<h.size/\ ¬Sb c)
  (p: ∀d s,LW B g d s 0 0 sh [] [] O->Mod (λc=>Sb c\/h.size<=c) h d->h.size<=s->R (J1 #[Ap s,J6 J9 0]) d):AA A P UH #[Ap b] h R:=
 APm (B:=B) j k a l n e λd s q r t u v G w y f z C=>p d s ⟨q,r,t,u,v,0,w,A0 _,y,⟨λi x a=>by simp at a,λi H x I a=>by simp at a⟩,by omega,λc D=>by
  obtain⟨E,J,F⟩:=o c D;refine⟨Decidable.byContradiction λe=>?_,by have:=f.size;omega,E,by omega,λx a=>by cases a⟩;rcases z c e with h|h
  ·exact F h
  ·omega⟩ f C
abbrev iw(a b:Nat):Nat->Prop:=λq=>q=a\/q=b
theorem ATc {b f d i nt sh:Nat}{Sb:Nat->Prop}{m:Bx}{now:Int}{E F:Q2}{dn:Bool}(G:bR g)(x:Ext g h)(H:Dw h b Sb m)(I: ∀c,Sb c->g.size<=c)(J:Calm m)(K:m.files= [])
  (l:h[f]? =some (J2 #[Ap b,J5 E,J5 F,J4 (some ⟨d,0,none⟩) i i,J6 J9 (sh:Int),J6 J9 now,Ap nt,J3 dn] Iu (0,0)))
  (t:h[d]? =some (J2 (List.replicate i (J5 none)).toArray JS (0,0))) (ne:f≠d) (L:0<i) (n:g.size<=f/\ ¬Sb f) (o:g.size<=d/\ ¬Sb d)
  (M: ∀k s a,LW PO g k s 0 0 sh [] [] (iw f d)->Wo k f ⟨b,s,a,d,sh,nt,now⟩ (List.replicate i none)->h.size<=k.size->R (J6 J9 0) k):AA A P Ia #[Ap f] h R:=by
 have lw:=Ai l;have N:=Ai t;refine Xd ?_;unfold QK;refine aA (AY.mk (AO l rfl) (LW.jq (B:=PO) (sh:=sh) (O:=iw f d) G H x I J K (λc e=>?_) λp s Q q af=>⟨_,_,rfl,ab.no rfl ?_⟩))
 ·rcases e with rfl|rfl
  ·exact⟨n.1,lw,n.2⟩
  ·exact⟨o.1,N,o.2⟩
 have u:=q.ag l λe=>e.elim n.2 λh=>by omega
 have S:=q.ag t λe=>e.elim o.2 λh=>by omega
 refine aA (AY.mk (AO u rfl) ?_);refine AEj ?_;unfold YB;refine ai.mk λag _ ah r aj=>⟨_,rfl,?_⟩
 have T:=r.ag u λh=>h
 refine aA (ae.bE (j:=1) T (of_decide_eq_true rfl) rfl λak U V al=>aA (ae.bE (j:=2) U (of_decide_eq_true rfl) rfl λam W X an=>aA (ae.bE (j:=7) (dm:=ru ⟨b,s,p.size,d,sh,nt,now⟩ i) W (of_decide_eq_true rfl) rfl λao v Y ap=>aA (AV.mk (s:=⟨some ⟨d,0,none⟩,i,i⟩) (AB v rfl) ?_))));have w:=(V.trans X).trans Y;have Z:=w.ag (r.ag S λh=>h) λaa=>ne aa.symm
 refine AWR (z:=J5 none) (by kernel_rfl) (by kernel_rfl) rfl rfl L Z λy ac C=>⟨rfl,?_⟩
 have D:Mod (iw f d) p y:=(r.mod.trans (w.ak λc _ e=> .inl e)).trans (C.ak λc _ e=> .inr e);have aq:=q.size;have ar:=D.size;refine M y s p.size (Q.own D λc e=> .inl e) ⟨?_,?_,ne⟩ (by omega)
 ·rw[V0];exact C.ag v ne
 ·rw[ac,List.map_replicate];rfl
theorem AP2 {T:Q7}{h:aa}{b a:Nat}(f:Own yt T h ⟨some ⟨b,0,none⟩,a,a⟩ (List.replicate a none)):h[b]? =some (J2 (List.replicate a (J5 none)).toArray T (0,0)):=by
 rcases f.row with⟨i,-⟩|⟨g,d,j,k,-,-,e,c⟩
 ·cases i
 ·cases j;rw[k];have e:d.size=a*1:=e;have c:d.toList.take (a*1)=_:=c;rw[AD (by rw[Ds];omega),rX (v:=J5 none) rfl] at c;rw[<- c]
theorem yw {n sh:Nat}(E:bR h)(ao:1<=n/\n<=8)(ap:1<=sh/\sh<=16)
  (l: ∀d i b s a j nt,LW PO h d s 0 0 sh [] [] (iw i j)->Wo d i ⟨b,s,a,j,sh,nt,0⟩ (List.replicate n none)->h.size<=d.size->R (J1 #[Ap i,J6 J9 0]) d):AA A P RF #[J6 J9 (n:Int),J6 J9 (sh:Int)] h R:=by
 refine AII ?_;unfold wx;refine ah.mk λK L=>ab.no (decide_eq_false (by omega)) (ab.no (decide_eq_false (by omega)) (ab.no (decide_eq_false (by omega)) ?_))
 rw[decide_eq_false (p:=((sh:Nat):Int)>16) (by omega)];refine L _ _ (ab.no rfl (ah.mk λM N=>?_));have fin: ∀ {k:aa} {b j nt i:Nat} {Sb:Nat->Prop},Ext h k->Dw k b Sb jQ->(∀ c,Sb c->h.size<=c)->k[j]? =some (J2 (List.replicate n (J5 none)).toArray JS (0,0))->
   k[i]? =some (J2 #[Ap b,J5 none,J5 none,J4 (some ⟨j,0,none⟩) n n,J6 J9 (sh:Int),J6 J9 0,Ap nt,J3 false] Iu (0,0))->i≠j->h.size<=i/\ ¬Sb i->h.size<=j/\ ¬Sb j->M (some ⟨i,0,none⟩,()) k:=λ{k b j nt i Sb} x Q f S U ne V W=>
  N _ _ (ATc E x Q f ⟨rfl,rfl⟩ rfl U S ne (by omega) V W λd s a X Y z=>⟨_,rfl,l d i b s a j nt X Y (by have:=x.size;omega)⟩)
 have mk: ∀ {e:aa} {K:Sl->aa->Prop},(∀ d,d[e.size]? =some (J2 (List.replicate n (J5 none)).toArray JS (0,0))->Ext e d->d.size=e.size+1->K ⟨some ⟨e.size,0,none⟩,n,n⟩ d)->Ad A P (Instr.makeSlice Gm (J6 J9 (n:Int)) (J6 J9 (n:Int))) e λv d=> ∃s:Sl,v=J4 s.p s.len s.cap/\K s d:=λ{e K} l=>
  oK (E:=yt) (x0:=none) (v:=J5 none) (z:=J5 none) (T:=JS) (B:=8) (by kernel_rfl) (by kernel_rfl) rfl rfl rfl (by omega) (by simp only[maxLen];omega) λd Z x z=>l d (AP2 Z) x z
 have q: ∀ {e:aa} {K:Q2->aa->Prop},(∀ d,Ext e d->d.size=e.size+1->K (some ⟨e.size,0,none⟩) d)->AA A P Pe #[] e λv d=> ∃p:Q2,v=J5 p/\K p d:=λ{e K} l=>by
  refine ALg ?_;unfold wA;exact ai.mk λd _ _ x z=>⟨_,rfl,l d x z⟩
 refine⟨tV λb aq Sb m o D=>⟨_,rfl,?_,?_⟩,?_⟩
 ·have ac:=o.size;have lt:=λc=>m.lt (c:=c)
  refine mk λar ae F au=>q λav r aw=>ai.mk λk _ af t ax=>fin (((o.trans F).trans r).trans t) (((m.ext F).ext r).ext t) D ((r.trans t).ag ae λh=>h) af (by omega) ⟨by omega,λh=>?_⟩ ⟨by omega,λh=>?_⟩
  ·have:=lt _ h;omega
  ·have:=lt _ h;omega
 ·have ac:=o.size;have lt:=λc=>m.lt (c:=c)
  refine q λay G az=>mk λaA ag H aC=>ai.mk λaD _ aj u aE=>fin (((o.trans G).trans H).trans u) (((m.ext G).ext H).ext u) D (u.ag ag λh=>h) aj (by omega) ⟨by omega,λh=>?_⟩ ⟨by omega,λh=>?_⟩
  ·have:=lt _ h;omega
  ·have:=lt _ h;omega
 ·refine mk λaF ak al aG=>tV λb aH Sb I w J=>⟨_,rfl,?_⟩
  have aI:=w.size;have lt:=λc=>I.lt (c:=c)
  refine q λaJ y aK=>ai.mk λaL _ am C aM=>fin (((al.trans w).trans y).trans C) ((I.ext y).ext C) (λc an=>by have:=J c an;omega) (((w.trans y).trans C).ag ak λh=>h) am (by omega) ⟨by omega,λh=>?_⟩ ⟨A0 _,λh=>?_⟩
  ·have:=lt _ h;omega
  ·have:=J _ h;omega
end
structure Rp (R:A2X) (b:Nat) (r:aS) (h:aa):Prop where
 cell:h[b]? =some (J2 aS.z.c Aw (0,0))
 go: ∀h9,Mod (· =b) h h9->R r.v h9
section
variable {A : ao} {h : aa} {w p : Nat} {x : eM} {ps : List (Option Nat)} {q : bN} {R : A2X}
theorem om {i:Nat}(r:Wo h w x ps)(hi:ps[i]? =some (some p))
  (s: ∀d b (l:A2X),Ext h d->h.size<=b->d[b]? =some (J2 aS.z.c Aw (0,0))->(∀ e a,a.err≠30->Rp R b a e->l a.v e)->AA A P Cf #[Ap w,Ap p,q.v] d l):
  AA A P BK #[Ap w,J6 J9 (i:Int),q.v] h R:=by
 refine Oi ?_;unfold LJ;refine ai.mk λt _ u f E=>ai.mk λd _ v g F=>yj ((r.ext f).ext g) hi ⟨_,_,rfl,ab.no rfl (MB.mk q (Bz (g.ag u λh=>h) rfl) ?_)⟩
 refine s d t.size _ (f.trans g) f.size v λe a y j=>?_
 refine DX.mk a ⟨rfl,ai.mk λG _ z m H=>aD.mk z (A0 9) λI k o J=>?_⟩;rw[KI] at k;have lt:=Ai j.cell;refine AC.mk (n:=a.err) (AO k rfl) (ASr y ⟨_,rfl,Bb.mk a (Hr k) (KL (x:=a) (o.ag (m.ag j.cell λh=>h) (by omega)) λB C=>j.go B ((m.more o λc D=>by subst D;exact A0 _).mod.trans C))⟩)
theorem ARn(o:Wo h w x ps)(y:q.kind<5\/11<q.kind)
  (r: ∀a b (i:A2X),Ext h a->h.size<=b->a[b]? =some (J2 aS.z.c Aw (0,0))->(∀ e c,Rp R b c e->i c.v e)->AA A P Gc #[Ap p,.iface Cv (Ap x.a),J6 J9 x.now,q.v] a i):
  AA A P Cf #[Ap w,Ap p,q.v] h R:=by
 refine Ez ?_;unfold ES;refine ai.mk λj _ s f z=>ai.mk λa _ t g B=>?_
 have k:=g.ag s λh=>h
 have l:=(o.ext f).ext g;have n: ∀d:Int,5<=d->d<=11->(q.kind==d)=false:=λd j a=>by simp;omega
 refine AC.mk (n:=q.kind) (AO k rfl) ?_;refine ab.no (n 5 (by decide) (by decide)) (ab.no (n 6 (by decide) (by decide)) (ab.no (n 7 (by decide) (by decide)) (ab.no (n 8 (by decide) (by decide)) (ab.no (n 9 (by decide) (by decide)) (ab.no (n 10 (by decide) (by decide)) (ab.no (n 11 (by decide) (by decide)) ?_))))));refine aA (AY.mk (AB l.cell rfl) (aA (AC.mk (n:=x.now) (AB l.cell rfl) (MB.mk q (Bz k rfl) ?_))));exact r a j.size _ (f.trans g) f.size t λe c m=>DX.mk c ⟨rfl,KL (x:=c) m.cell λu v=>m.go u v⟩
theorem AVQ(m:Wo h w x ps)(d:q.kind=7)
  (o: ∀a b (i:A2X),Ext h a->h.size<=b->a[b]? =some (J2 aS.z.c Aw (0,0))->(∀ e c,Rp R b c e->i c.v e)->AA A P O0 #[Ap p,Ap x.a,J6 J9 x.now,J7 q.name] a i):
  AA A P Cf #[Ap w,Ap p,q.v] h R:=by
 refine Ez ?_;unfold ES;refine ai.mk λr _ s f y=>ai.mk λa _ t g z=>?_
 have j:=g.ag s λh=>h
 have k:=(m.ext f).ext g;refine AC.mk (n:=q.kind) (AO j rfl) (ab.no (by simp[d]) (ab.no (by simp[d]) (ab.yes (by simp[d]) ?_)));refine aA (AY.mk (AB k.cell rfl) (aA (AC.mk (n:=x.now) (AB k.cell rfl) (AL.mk (n:=q.name) (AB j rfl) ?_))));exact o a r.size _ (f.trans g) f.size t λe c l=>DX.mk c ⟨rfl,KL (x:=c) l.cell λu v=>l.go u v⟩
theorem APi(m:Wo h w x ps)(d:q.kind=8)
  (o: ∀a b (i:A2X),Ext h a->h.size<=b->a[b]? =some (J2 aS.z.c Aw (0,0))->(∀ e c,Rp R b c e->i c.v e)->AA A P Jw #[Ap p,.iface Cv (Ap x.a),J6 J9 x.now,q.v] a i):
  AA A P Cf #[Ap w,Ap p,q.v] h R:=by
 refine Ez ?_;unfold ES;refine ai.mk λr _ s f y=>ai.mk λa _ t g z=>?_
 have j:=g.ag s λh=>h
 have k:=(m.ext f).ext g;refine AC.mk (n:=q.kind) (AO j rfl) (ab.no (by simp[d]) (ab.no (by simp[d]) (ab.no (by simp[d]) (ab.yes (by simp[d]) ?_))));refine aA (AY.mk (AB k.cell rfl) (aA (AC.mk (n:=x.now) (AB k.cell rfl) (MB.mk q (Bz j rfl) ?_))));exact o a r.size _ (f.trans g) f.size t λe c l=>DX.mk c ⟨rfl,KL (x:=c) l.cell λu v=>l.go u v⟩
abbrev gL(a b:Int):aS:=⟨a,0,b,⟨0,⟨#[]⟩,0,0⟩,⟨#[]⟩,⟨none,0,0⟩⟩
theorem AWI(l:Wo h w x ps)(a:q.kind=10)
  (m: ∀c b (i:A2X),Ext h c->h.size<=b->c[b]? =some (J2 aS.z.c Aw (0,0))->(∀ e n d,Rp R b (gL d n) e->i (J1 #[J6 J9 n,J6 J9 d]) e)->AA A P PK #[Ap p,Ap x.a,J6 J9 q.aj] c i):
  AA A P Cf #[Ap w,Ap p,q.v] h R:=by
 refine Ez ?_;unfold ES;refine ai.mk λo _ r f y=>ai.mk λc _ s g z=>?_
 have j:=g.ag r λh=>h
 have t:=(l.ext f).ext g;refine AC.mk (n:=q.kind) (AO j rfl) (ab.no (by simp[a]) (ab.no (by simp[a]) (ab.no (by simp[a]) (ab.no (by simp[a]) (ab.no (by simp[a]) (ab.yes (by simp[a]) ?_))))));refine aA (AY.mk (AB t.cell rfl) (AC.mk (n:=q.aj) (AB j rfl) ?_));exact m c o.size _ (f.trans g) f.size s λe n d k=>⟨_,_,rfl,KL (x:=gL d n) k.cell λu v=>k.go u v⟩
theorem AWN(m:Wo h w x ps)(a:q.kind=11)
  (o: ∀c b (i:A2X),Ext h c->h.size<=b->c[b]? =some (J2 aS.z.c Aw (0,0))->(∀ e n d,Rp R b (gL d n) e->i (J1 #[J6 J9 n,J6 J9 d]) e)->AA A P Oy #[Ap p,Ap x.a,J6 J9 q.aj,J6 J9 x.now] c i):
  AA A P Cf #[Ap w,Ap p,q.v] h R:=by
 refine Ez ?_;unfold ES;refine ai.mk λr _ s f y=>ai.mk λc _ t g z=>?_
 have j:=g.ag s λh=>h
 have k:=(m.ext f).ext g;refine AC.mk (n:=q.kind) (AO j rfl) (ab.no (by simp[a]) (ab.no (by simp[a]) (ab.no (by simp[a]) (ab.no (by simp[a]) (ab.no (by simp[a]) (ab.no (by simp[a]) (ab.yes (by simp[a]) ?_)))))));refine aA (AY.mk (AB k.cell rfl) (AC.mk (n:=q.aj) (AB j rfl) (aA (AC.mk (n:=x.now) (AB k.cell rfl) ?_))));exact o c r.size _ (f.trans g) f.size t λe n d l=>⟨_,_,rfl,KL (x:=gL d n) l.cell λu v=>l.go u v⟩
end
theorem APM {A:ao}{g h:aa}{s k:Nat}{mp:List Pr}{fl:cn}{an:cL}{O:Nat->Prop}{R:A2X}{a:Q2}{c i:Nat}{now:Int}{l:List Hs}{y:Hs}(d:EW g h s k 2 l mp fl an O)(f:l[i]? =some y)(B:c<2)(C:0<=now/\now<=1099511627776)(D:y.f c≠0)(p:GQ (Hm c) mp= [])(r: ∀j,Ext h j->R (J1 #[J6 J9 0,J6 J9 0]) j):AA A P Oy #[Ap y.p,J5 a,J6 J9 (c:Int),J6 J9 now] h R:=by
 refine AGv ?_;unfold Za;refine ah.mk λK t=>ab.no rfl (ab.no (decide_eq_false (by omega)) (d.w.aC f ⟨_,rfl,ab.no (decide_eq_false (by show ¬(2:Int)<=(c:Int);omega)) (ab.no (decide_eq_false (by omega)) (t _ _ (ab.no (decide_eq_false (by show ¬1099511627776<now;omega)) ?_)))⟩))
 refine d.w.holds f ⟨_,rfl,ab.no (by simp;omega) (d.w.store f ⟨_,rfl,AP6 (by omega) λE n=>⟨_,rfl,?_⟩⟩)⟩;refine(d.on n).w.scan (by unfold Hm;rw[AP];show 2<=1099511627776;decide) λps u o F v=>⟨_,_,rfl,ab.no rfl ?_⟩
 rw[ql,p] at o;have e:=o.len;refine Loop.rule (λm x z=>m=0/\x=((0:Int),())/\u=z) ?_ ⟨rfl,rfl,rfl⟩;rintro G m _ _ ⟨rfl,rfl,rfl⟩ H;have e:ps.len=0:=e;refine ab.no (by rw[e];rfl) ?_;rw[e];exact r _ (n.trans v)
structure WQ (g hh:aa) (w:Nat) (x:eM) (k:Nat) (y:Hs) (mp:List Pr) (fl:cn) (an:cL) (O:Nat->Prop) (T:TT) (L:List Tq):Prop where
 q:QW g hh x.s k y mp fl an O T L
 wo:Wo hh w x [some y.p]
 ow:O w/\O x.hb
 sh:x.sh=2
 now:x.now=0
section
variable {A : ao} {g h h2 h3 h4 : aa} {w b : Nat} {x : eM} {k : Nat} {y : Hs} {mp : List Pr} {fl : cn} {an : cL} {O : Nat -> Prop} {T : TT} {L : List Tq} {R : A2X} {q : bN}
theorem WQ.lt(a:WQ g h w x k y mp fl an O T L){c:Nat}(d:O c):c<h.size:=(a.q.w.w.out d).1
theorem WQ.ext(a:WQ g h w x k y mp fl an O T L):Ext g h:=a.q.w.w.ext
theorem WQ.on(a:WQ g h w x k y mp fl an O T L)(m:Ext h h2):WQ g h2 w x k y mp fl an O T L:= {a with q:=a.q.on m,wo:=a.wo.ext m}
theorem WQ.less {O':Nat->Prop}(a:WQ g h w x k y mp fl an O T L)(d: ∀c,O' c->O c)(ow:O' w/\O' x.hb):WQ g h w x k y mp fl an O' T L:= {a with q:=a.q.less d,ow:=ow}
theorem WQ.wider(a:WQ g h w x k y mp fl an O T L)(m:Ext h h2)(d:h.size<=b/\b<h2.size):WQ g h2 w x k y mp fl an (λc=>O c\/c=b) T L:=
 {a with q:=a.q.dV m.mod λc e=>e.imp id λf=>(by subst f;exact d),wo:=a.wo.ext m,ow:=⟨.inl a.ow.1,.inl a.ow.2⟩}
theorem WQ.bA(a:WQ g h w x k y mp fl an O T L)(m:Mod (· =b) h h2)(d:O b)(ne:w≠b/\x.hb≠b):WQ g h2 w x k y mp fl an O T L:=
 {a with q:=a.q.dV (m.ak λc _ h=>by subst h;exact d) λc e=> .inl e,wo:=a.wo.mod m ne.1 ne.2}
theorem QD(d:Ext h h2)(e:Mod (aR g λc=>O c\/c=b) h2 h3)(f:Mod (· =b) h3 h4)(i:h.size<=b)(lt: ∀c,O c->c<h.size)(j:Ext g h):Mod (aR g O) h h4:=
 d.mod.trans ((e.ak λc _ a=>⟨a.1,λh=>a.2 (.inl h)⟩).trans (f.ak λc _ a=>by subst a;exact⟨AK j.size i,λh=>by have:=lt _ h;omega⟩))
theorem WQ.call(a:WQ g h w x k y mp fl an O T L)
  (C: ∀h2 b (f:A2X),WQ g h2 w x k y mp fl an (λc=>O c\/c=b) T L->(∀ h3 (d:aS) j l m n o p r,d.err≠30->WQ g h3 w x j l m n o (λc=>O c\/c=b) p r->Mod (aR g λc=>O c\/c=b) h2 h3->
   (∀ e,WQ g e w x j l m n o O p r->Mod (aR g O) h e->R d.v e)->f d.v h3)->AA A P Cf #[Ap w,Ap y.p,q.v] h2 f):
  AA A P BK #[Ap w,J6 J9 0,q.v] h R:=by
 refine om (i:=0) a.wo rfl λh2 b f t u v D=>?_
 have E:=Ai v;have ne:w≠b/\x.hb≠b:=⟨λF=>by have:=a.lt a.ow.1;omega,λF=>by have:=a.lt a.ow.2;omega⟩;refine C h2 b f (a.wider t ⟨u,E⟩) λh3 d j l m n o p r G H z I=>D h3 d G ⟨aR.aF z v (.inr rfl),λe B=>I e ?_ ?_⟩
 ·exact(H.bA B (.inr rfl) ne).less (λc s=> .inl s) a.ow
 ·exact QD t z B u (λc s=>a.lt s) a.ext
theorem WQ.jk {c:Nat}(s:bR g)(t:WQ g h w x k y mp fl an O T L)(e:c<2)(u:k+8<=490)(v:q.kind=10)(z:q.aj=(c:Int))
  (B: ∀i f,WQ g i w x (k+8) y f fl an O (cI T c ((T c).drop 8)) (VZ c ((T c).take 8) L)->Mod (aR g O) h i->(∀ l,GQ (Hm l) mp= []->GQ (Hm l) f= [])->R (gL 0 (((T c).take 8).length:Nat)).v i):AA A P BK #[Ap w,J6 J9 0,q.v] h R:=by
 refine t.call λh2 b Q a C=>AWI a.wo v λh3 m S n o p D=>?_
 have E:=Ai p;have ne:w≠m/\x.hb≠m:=⟨λF=>by have:=a.lt a.ow.1;omega,λF=>by have:=a.lt a.ow.2;omega⟩;have d:=a.wider n ⟨o,E⟩;rw[z];refine AUp s d.q e u λh4 f G j U H=>D h4 _ 0 ⟨aR.aF j p (.inr rfl),λI r=>?_⟩
 have J:WQ g h4 w x (k+8) y f fl an _ (cI T c ((T c).drop 8)) (VZ c ((T c).take 8) L):=⟨G,d.wo.step j d.ow.1 d.ow.2,d.ow,d.sh,d.now⟩;exact C I (gL 0 _) _ _ _ _ _ _ _ (show(0:Int)≠30 by decide) ((J.bA r (.inr rfl) ne).less (λc e=> .inl e) a.ow) (QD n j r o (λc e=>a.lt e) a.ext) λK M N=>B K f M N H
theorem WQ.tick {c:Nat}(e:WQ g h w x k y mp fl an O T L)(d:c<2)(s:GQ (Hm c) mp= [])(t:q.kind=11)(u:q.aj=(c:Int))
  (v: ∀f,WQ g f w x k y mp fl an O T L->Mod (aR g O) h f->R (gL 0 0).v f):AA A P BK #[Ap w,J6 J9 0,q.v] h R:=by
 refine e.call λh2 b I a z=>AWN a.wo t λh3 l J m n o B=>?_
 have C:=Ai o;have ne:w≠l/\x.hb≠l:=⟨λD=>by have:=a.lt a.ow.1;omega,λD=>by have:=a.lt a.ow.2;omega⟩;have p:=a.wider m ⟨n,C⟩;rw[u,e.now];refine APM (i:=0) p.q.w rfl d (by decide) (by rw[(e.q.own c d).2];decide) s λh4 j=>B h4 0 0 ⟨j.ag o λh=>h,λE r=>?_⟩
 exact z E (gL 0 0) _ _ _ _ _ _ _ (show(0:Int)≠30 by decide) (((p.on j).bA r (.inr rfl) ne).less (λc d=> .inl d) a.ow) (QD m j.mod r n (λc d=>a.lt d) a.ext) λF G H=>v F G H
theorem WQ.start {p:bL}(H:bR g)(a:WQ g h w x k y mp fl an O T L)(I:k+1<=490)(J:q.kind=1)(V:View TF h q.steps p.steps)(K:q.au=p.au)(M:p.au=0)(len:p.steps.length<=1099511627776)(N:RZ q p=0)(Q:an q.bj=none)(S:fl q.wid=none)(U:Am q.wid=true)
  (W: ∀o j l r,WQ g o w x (k+1) j l (cU fl q.wid [⟨1,1,0,0,0,0,false,Ae (Ce p)⟩,⟨2,2,0,0,0,0,false,⟨#[]⟩⟩]) (cU an q.bj (Mf q p,0,3)) O (cI T (Ao q.wid 2) (T (Ao q.wid 2)++ [(r,q.wid)])) L->j.p=y.p->Mod (aR g O) h o->(∀ v,GQ (Hm v) mp= []->GQ (Hm v) l= [])->R (dy 0 0 3).v o):
  AA A P BK #[Ap w,J6 J9 0,q.v] h R:=by
 refine om (i:=0) a.wo rfl λh2 b al s z B X=>?_
 have Y:=Ai B;have Z:w≠b/\x.hb≠b:=⟨λt=>by have:=a.lt a.ow.1;omega,λt=>by have:=a.lt a.ow.2;omega⟩;have d:=a.wider s ⟨z,Y⟩;refine ARn d.wo (.inl (by omega)) λh3 C am m D E aa=>?_
 have ab:=Ai E;have ac:w≠C/\x.hb≠C:=⟨λt=>by have:=d.lt d.ow.1;omega,λt=>by have:=d.lt d.ow.2;omega⟩;have e:=d.wider m ⟨D,ab⟩;rw[a.now];refine e.q.start H I J ((V.ext s).ext m) K M len N Q S U λh4 j l r ae F n _ af=>aa h4 _ ⟨aR.aF n E (.inr rfl),λag u=>X ag _ (show(0:Int)≠30 by decide) ⟨u.ag (aR.aF n (m.ag B λh=>h) (.inl (.inr rfl))) (by omega),λah G=>?_⟩⟩
 have ai:WQ g h4 w x (k+1) j l _ _ _ _ L:=⟨ae,by rw[F];exact e.wo.step n e.ow.1 e.ow.2,e.ow,e.sh,e.now⟩;have aj:=(ai.bA u (.inr rfl) ac).less (O':=λc=>O c\/c=b) (λc f=> .inl f) d.ow;have ak:=QD m n u D (λc f=>d.lt f) d.ext;exact W ah j l r ((aj.bA G (.inr rfl) Z).less (λc f=> .inl f) a.ow) F (QD s ak G z (λc f=>a.lt f) a.ext) af
theorem WQ.pz {c J:Nat}{wid:A2Y}(K:bR g)(a:WQ g h w x k y mp fl an O T ((c,J,wid)::L))(M:k+1<=490)(l:q.kind=7)(N:q.name=⟨#[]⟩)
  (Q: ∀r m s j p n,fl wid=some j->BP j=bZ p 0->WQ g r w x (k+1) m s (cU fl wid (j++ [Qc])) an (λq=>O q\/n.ag=some q) T L->m.p=y.p->Mod (aR g O) h r->View dd r n (j++ [Qc])->R (⟨0,0,0,⟨1,wid,3,0⟩,⟨#[]⟩,n⟩:aS).v r):
  AA A P BK #[Ap w,J6 J9 0,q.v] h R:=by
 refine om (i:=0) a.wo rfl λh2 b ai C D E S=>?_
 have U:=Ai E;have W:w≠b/\x.hb≠b:=⟨λf=>by have:=a.lt a.ow.1;omega,λf=>by have:=a.lt a.ow.2;omega⟩;have d:=a.wider C ⟨D,U⟩;refine AVQ d.wo l λh3 z aj t F G X=>?_
 have Y:=Ai G;have Z:w≠z/\x.hb≠z:=⟨λf=>by have:=d.lt d.ow.1;omega,λf=>by have:=d.lt d.ow.2;omega⟩;have e:=d.wider t ⟨F,Y⟩;rw[a.now,N];refine AO1 K e.q M λh4 m s j p n aa ab ac H u V I=>X h4 _ ⟨aR.aF u G (.inr rfl),λae v=>S ae _ (show(0:Int)≠30 by decide) ⟨v.ag (aR.aF u (t.ag E λh=>h) (.inl (.inr rfl))) (by omega),λaf B=>?_⟩⟩
 have ag:WQ g h4 w x (k+1) m s _ an _ T L:=⟨ac,by rw[H];exact e.wo.step u e.ow.1 e.ow.2,⟨.inl e.ow.1,.inl e.ow.2⟩,e.sh,e.now⟩;have ah:=QD t u v F (λc o=>d.lt o) d.ext;exact Q af m s j p n aa ab (((ag.bA v (.inl (.inr rfl)) Z).bA B (.inl (.inl (.inr rfl))) W).less (λc o=>o.imp (λh=> .inl (.inl h)) id) ⟨.inl a.ow.1,.inl a.ow.2⟩) H (QD C ah B D (λc o=>a.lt o) a.ext)
  ((V.mod v λq l f=>by have:=I q l;have:q=z:=f;omega).mod B λq l f=>by have:=I q l;have:q=b:=f;have:=t.size;omega)
end
theorem AVg {K:J0->Prop}{a:Nat}(d:a<2)(c:K (J6 J9 (if a=0 then 11 else 10))):Oh P (Instr.index nU (.agg #[J6 J9 11,J6 J9 10]) (J6 J9 (a:Int))) K:=by
 rcases(by omega:a=0\/a=1) with rfl|rfl
 ·have b:(Instr.index nU (.agg #[J6 J9 11,J6 J9 10]) (J6 J9 ((0:Nat):Int))).calc P=some (J6 J9 11):=by kernel_rfl
  unfold Oh;rw[b];exact c
 ·have b:(Instr.index nU (.agg #[J6 J9 11,J6 J9 10]) (J6 J9 ((1:Nat):Int))).calc P=some (J6 J9 10):=by kernel_rfl
  unfold Oh;rw[b];exact c
def j4(T:TT)(m:Nat):TT:=λa=>if a<m then(T a).drop 8 else T a
def j5(T:TT)(L:List Tq):Nat->List Tq
 |0=>L
 |m+1=>VZ m ((T m).take 8) (j5 T L m)
def eS(T:TT):Nat->Nat
 |0=>0
 |m+1=>eS T m+((T m).take 8).length
theorem AVo {T:TT}{m:Nat}:j4 T m m=T m:=if_neg (by omega)
theorem ARJ {T:TT}{m:Nat}:cI (j4 T m) m ((T m).drop 8)=j4 T (m+1):=by
 funext a;unfold cI j4;by_cases b:a=m
 ·subst b;rw[if_pos rfl,if_pos (by omega)]
 ·rw[if_neg b];by_cases h:a<m
  ·rw[if_pos h,if_pos (by omega)]
  ·rw[if_neg h,if_neg (by omega)]
theorem AWY {T:TT}{m:Nat}:eS T m<=8*m:=by
 induction m with
 |zero=>exact A0 _
 |succ m a=>
  unfold eS;have:((T m).take 8).length<=8:=by rw[Ax];omega
  omega
section
variable {A : ao} {g h : aa} {w : Nat} {x : eM} {k : Nat} {y : Hs} {mp : List Pr} {fl : cn} {an : cL} {O : Nat -> Prop} {T : TT} {L : List Tq} {R : A2X}
theorem WQ.turn(W:bR g)(e:WQ g h w x k y mp fl an O T L)(au:k+16<=490)(f: ∀n,GQ (Hm n) mp= [])
  (X: ∀p d,WQ g p w x (k+16) y d fl an O (j4 T 2) (j5 T L 2)->Mod (aR g O) h p->(∀ n,GQ (Hm n) d= [])->R (J1 #[J6 J9 ((eS T 2:Nat):Int),J6 J9 0]) p):AA A P GL #[Ap w,J6 J9 0] h R:=by
 refine Ol ?_;unfold LH;refine yj (i:=0) e.wo rfl ⟨_,_,rfl,ab.no rfl (aA (AC.mk (n:=(x.sh:Int)) (AB e.wo.cell rfl) ?_))⟩;rw[e.sh];refine Loop.rule (λt s z=> ∃(m:Nat) (d:List Pr),s=(((eS T m:Nat):Int),(m:Int),())/\t=2-m/\m<=2/\WQ g z w x (k+8*m) y d fl an O (j4 T m) (j5 T L m)/\Mod (aR g O) h z/\ ∀n,GQ (Hm n) d= []) ?_
  ⟨0,mp,rfl,rfl,A5 _,e,Mod.refl,f⟩
 rintro K t _ z ⟨m,mp,rfl,rfl,av,e,M,f⟩ Y;dsimp only;refine ab.intro (λl=>?_) (λl=>?_);rotate_left
 ·have r:m=2:=by have:=of_decide_eq_false l;omega
  subst r;exact X z mp e M f
 have r:m<2:=by have:=of_decide_eq_true l;omega
 have nl:=AWY (T:=T) (m:=m);refine ah.mk λaw Z=>e.q.w.w.holds (i:=0) rfl ⟨_,rfl,ab.no (by rw[(e.q.own m r).2];rfl) ?_⟩
 refine Loop.rule (λt s B=> ∃(a:Nat) (d:List Pr),s=((if a=2 then((eS T (m+1):Nat):Int) else((eS T m:Nat):Int)),(a:Int),())/\t=2-a/\a<=2/\(if a=2 then WQ g B w x (k+8*(m+1)) y d fl an O (j4 T (m+1)) (j5 T L (m+1)) else WQ g B w x (k+8*m) y d fl an O (j4 T m) (j5 T L m))/\Mod (aR g O) h B/\ ∀n,GQ (Hm n) d= []) ?_
  ⟨0,mp,rfl,rfl,A5 _,e,M,f⟩
 rintro N t _ B ⟨a,mp,rfl,rfl,ax,C,E,f⟩ Q;dsimp only;refine ab.intro (λl=>?_) (λl=>?_);rotate_left
 ·have F:a=2:=by have:=of_decide_eq_false l;omega
  subst F;rw[if_pos rfl];refine Z _ _ ?_;dsimp only;rw[Ac (by omega)];exact Y (2-(m+1)) _ _ (by omega) ⟨m+1,mp,rfl,rfl,r,by simpa using C,E,f⟩
 have F:a<2:=by have:=of_decide_eq_true l;omega
 have S: ¬a=2:=by omega
 rw[if_neg S] at C;rw[if_neg S];have U: ∀(n:Nat) (G:Int×Int×Unit->aa->Prop) (o:aa),n<=8->(∀ p,Ext o p->G (((eS T m+n:Nat):Int),((a+1:Nat):Int),()) p)->
   ai o (J2 aS.z.c Aw) λb V=>aD V (ad b) (gL 0 (n:Int)).l λj=>ah (λ(ac:Bool×Unit) D=>ab ac.1 (AC J9 D (ad b) λae=>R (J1 #[J6 J9 ((eS T m:Nat):Int),J6 J9 ae]) D) (AC J9 D ((ad b).add 2) λaf=>G ((J8 J9 (((eS T m:Nat):Int)+af)),(J8 J9 ((a:Int)+(1:Int))),()) D)) λH=>
    AC J9 j (ad b) λag=>ab (ag != (0:Int)) (AC J9 j (ad b) λaj=>H ((aj != (170:Int)),()) j) (H (false,()) j):=λn G o ay ak=>by
  refine ai.mk λV _ al am az=>aD.mk al (A0 9) λj I ao aC=>ah.mk λH ap=>?_
  rw[KI] at I;refine AC.mk (n:=0) (AO I rfl) (ab.no rfl (ap _ _ (ab.no rfl (AC.mk (n:=(n:Int)) (AB I rfl) ?_))));rw[show((eS T m:Nat):Int)+(n:Int)=((eS T m+n:Nat):Int) by omega,Fz (by omega),Ac (by omega)];exact ak j (am.more ao λc aq=>by subst aq;exact A0 _)
 refine AVg F ?_;rcases(by omega:a=0\/a=1) with rfl|rfl
 ·refine C.tick (q:=⟨11,⟨#[]⟩,⟨#[]⟩,⟨#[]⟩,⟨none,0,0⟩,0,⟨none,0,0⟩,0,0,0,(m:Int),false⟩) r (f m) rfl rfl λo u J=>DX.mk (gL 0 0) ⟨rfl,U 0 N o (by omega) λj v=>?_⟩
  exact Q 1 _ _ (by omega) ⟨1,mp,rfl,rfl,by omega,u.on v,(E.trans J).trans v.mod,f⟩
 ·refine C.jk W (q:=⟨10,⟨#[]⟩,⟨#[]⟩,⟨#[]⟩,⟨none,0,0⟩,0,⟨none,0,0⟩,0,0,0,(m:Int),false⟩) r (by omega) rfl rfl λo d u J ar=>?_
  rw[AVo] at u ⊢;rw[ARJ] at u;refine DX.mk (gL 0 _) ⟨rfl,U ((T m).take 8).length N o (by rw[Ax];omega) λj v=>?_⟩;exact Q 0 _ _ (by omega) ⟨2,d,rfl,rfl,A0 _,u.on v,(E.trans J).trans v.mod,λn=>ar n (f n)⟩
end
section
variable {A : ao} {h : aa} {R : A2X}
theorem AWU {K:Sl->aa->Prop}(c: ∀a b,Ext h a->K ⟨some ⟨b,0,none⟩,0,0⟩ a):Ad A P (Instr.makeSlice Ar (J6 J9 ((0:Nat):Int)) (J6 J9 ((0:Nat):Int))) h λv a=> ∃s:Sl,v=J4 s.p s.len s.cap/\K s a:=
 oK (E:=Jh) (x0:=0) (v:=J6 J9 0) (z:=J6 J9 0) (T:=BM) (B:=8) (n:=0) (by kernel_rfl) (by kernel_rfl) rfl rfl rfl (by decide) (by decide) λa _ x _=>c a _ x
def j6(h:aa)(e:Nat):Prop:= ∃(a:Sl) (lim:Int) (d c:Sl) (f g:Nat),a.len=0/\c.len=0/\h[e]? =some (J2 #[J4 a.p a.len a.cap,J6 J9 lim,J4 d.p d.len d.cap,J4 c.p c.len c.cap,.map (some f),J4 none 0 0,.map (some g),J3 false] BI (0,0))
theorem j6.on {a:aa}{c:Nat}(d:j6 h c)(x:Ext h a):j6 a c:=by obtain⟨e,lim,f,g,i,j,k,l,m⟩:=d;exact⟨e,lim,f,g,i,j,k,l,x.ag m λh=>h⟩
structure eB (h hh:aa) (b:Nat) (pp:Q2) (cc:Nat) (lim:Int):Prop where
 ext:Ext h hh
 pr:hh[b]? =some (J2 #[J4 pp 0 cc,J6 J9 lim] Cy (0,0))
section
variable {hh : aa} {b cc : Nat} {pp : Q2} {lim : Int}
theorem eB.g0(a:eB h hh b pp cc lim):af hh ⟨b,0,none⟩=some (J4 pp 0 cc):=AO a.pr rfl
theorem eB.g1(a:eB h hh b pp cc lim):af hh ((⟨b,0,none⟩:Q6).add 1)=some (J6 J9 lim):=AB a.pr rfl
theorem eB.mk0 {K:Sl->aa->Prop}(d:eB h hh b pp cc lim)(e: ∀a c,eB h a b pp cc lim->K ⟨some ⟨c,0,none⟩,0,0⟩ a):Ad A P (Instr.makeSlice Ar (J6 J9 ((0:Nat):Int)) (J6 J9 ((0:Nat):Int))) hh λv a=> ∃s:Sl,v=J4 s.p s.len s.cap/\K s a:=
 AWU λa c x=>e a c ⟨d.ext.trans x,x.ag d.pr λh=>h⟩
theorem eB.map {K:Nat->aa->Prop}(d:eB h hh b pp cc lim)(e: ∀c a,eB h a b pp cc lim->K c a):ai hh (.map #[] 0) K:=ai.mk λa _ _ x _=>e _ a ⟨d.ext.trans x,x.ag d.pr λh=>h⟩
theorem eB.fin {K:Q2×Unit->aa->Prop}{e d:Sl}{f g:Nat}(j:eB h hh b pp cc lim)(k:d.len=0)(l: ∀i a,Ext h a->j6 a i->K (some ⟨i,0,none⟩,()) a):
  ai hh (J2 #[J4 pp 0 cc,J6 J9 lim,J4 e.p e.len e.cap,J4 d.p d.len d.cap,.map (some f),J4 none 0 0,.map (some g),J3 false] BI) λc a=>K (some (ad c),()) a:=
 ai.mk λa _ m x _=>l _ a (j.ext.trans x) ⟨⟨pp,0,cc⟩,lim,e,d,f,g,rfl,k,m⟩
end
theorem ARK {pp:Q2}{cc:Nat}{lim:Int}{l:Sl}{a:List Ev}(V:View dd h l a)(S:a.length<=1000)(q: ∀g∈a,g.kind<=5)(x: ∀f e,Ext h f->j6 f e->R (Ap e) f):AA A P Uy #[.agg #[J4 pp 0 cc,J6 J9 lim],J4 l.p l.len l.cap] h R:=by
 refine AJV (ck:=⟨pp,0,cc⟩) ?_;unfold wP;refine ai.mk λy _ z B T=>ah.mk λK C=>?_
 have i:eB h y h.size pp cc lim:=⟨B,z⟩;have fin: ∀e f,Ext h f->j6 f e->K (some ⟨e,0,none⟩,()) f:=λe U D j=>by
  refine C _ _ ?_;refine Loop.rule (λm s hh=> ∃d:Nat,s=((d:Int),())/\m=a.length-d/\d<=a.length/\Ext h hh/\j6 hh e) ?_ ⟨0,rfl,rfl,A5 _,D,j⟩;rintro W m _ hh ⟨d,rfl,rfl,X,k,j⟩ E;dsimp only;have Y:=V.len;refine ab.intro (λr=>?_) (λr=>x hh e k j);have t:d<a.length:=by have:=of_decide_eq_true r;omega
  have o:a[d]? =some a[d]:=A2 t;have u:=AG o;generalize a[d]=g at o u;have q:=q g u;refine ah.mk λZ F=>(V.ext k).idx o λaa _ G=>Nh.mk g G (ai.mk λac _ H I ae=>aD.mk H (A0 8) λJ v L af=>?_)
  rw[ni] at v;have w:Ext hh J:=I.more L λc M=>by subst M;exact A0 _
  have n: ∀p:Int,5<p->(g.kind==p)=false:=λp h=>by simp;omega
  refine AC.mk (n:=g.kind) (AB v rfl) (ah.mk λag N=>ah.mk λaj ak=>ab.no (n 6 (by decide)) (ab.no (n 10 (by decide)) (ah.mk λal O=>ab.no (n 7 (by decide)) ?_)));rw[n 11 (by decide)];refine O _ _ (ab.no rfl (ab.no (n 9 (by decide)) (ab.no (n 12 (by decide)) (ah.mk λam Q=>ab.no (n 13 (by decide)) ?_))));rw[n 14 (by decide)];refine Q _ _ (ab.no rfl (N _ _ (F _ _ ?_)));rw[Ac (by omega)];exact E (a.length-(d+1)) _ _ (by omega) ⟨d+1,rfl,rfl,t,k.trans w,j.on w⟩
 refine AV.mk (s:=⟨pp,0,cc⟩) i.g0 (AC.mk (n:=lim) i.g1 (AV.mk (s:=⟨pp,0,cc⟩) i.g0 (AV.mk (s:=⟨pp,0,cc⟩) i.g0 ?_)))
 repeat' (first
  |exact eB.g0 (by assumption)
  |exact eB.g1 (by assumption)
  |exact eB.fin (by assumption) rfl fin
  |refine eB.map (by assumption) λ_ _ _=>?_
  |refine eB.mk0 (by assumption) λ_ _ _=>?_
  |refine And.intro ?_ ?_)
theorem ANE {d:Nat}(f:j6 h d)(g: ∀a b,Ext h a->h.size<=b->a[b]? =some (J2 #[J6 J9 3,J6 J9 0,J3 false] DU (0,0))->R (J1 #[J4 (some ⟨b,0,none⟩) 1 1,J3 true,J3 false]) a):AA A P JA #[Ap d] h R:=by obtain⟨i,lim,r,j,t,u,k,l,e⟩:=f;refine TN ?_;unfold Mh;refine aA (AV.mk (s:=j) (AB e rfl) ?_);refine Loop.rule (λm s hh=>s=((0:Int),())/\hh=h) ?_ (m:=0) ⟨rfl,rfl⟩;rintro K _ _ _ ⟨rfl,rfl⟩ v;refine ab.no (by rw[l];rfl) (ai.mk λn _ _ c _=>aA (AV.mk (s:=i) (AO (c.ag e λh=>h) rfl) ?_));refine Loop.rule (λm s hh=>s=((0:Int),())/\hh=n) ?_ (m:=0) ⟨rfl,rfl⟩;rintro w _ _ _ ⟨rfl,rfl⟩ x;exact ab.no (by rw[k];rfl) (ai.mk λo _ p q _=>g o _ (c.trans q) c.size p)
theorem yx {l:Sl}{d:List Ev}(e:OW d)(V:View dd h l d)(p:(BP d).status=0)(q:(BP d).prog.steps= [])(r: ∀g∈d,g.kind<=5)
  (t: ∀i b,Ext h i->h.size<=b->i[b]? =some (J2 #[J6 J9 3,J6 J9 0,J3 false] DU (0,0))->R (J1 #[J4 (some ⟨b,0,none⟩) 1 1,J6 J9 0]) i):AA A P Q4 #[J4 l.p l.len l.cap] h R:=by
 have u:=e.len;have v:=e.next.2;refine AJB ?_;unfold wE;refine Yk V u (λg w=>by
   obtain⟨x,y⟩:=DG w;have:=R6 (v x g y).2;omega) e.ok λz a b c j B S=>GV.mk _ ⟨_,_,rfl,?_⟩
 refine ai.mk λT _ C D U=>aD.mk C (A0 12) λE f F W=>?_
 rw[OY] at f;have k:Ext z E:=D.more F λc G=>by subst G;exact A0 _
 have H:a.len=0:=by have:=B.steps.len;rw[q] at this;exact this
 have I:(((l.len:Nat):Int)==(0:Int))=false:=by have:=V.len;have:d≠ []:=e.ne;have:0<d.length:=List.length_pos_iff.2 this;simp;omega
 refine ah.mk λK J=>ab.no rfl ?_
 rw[I];refine J _ _ (ab.no rfl (AC.mk (n:=(BP d).status) (AB f rfl) (ab.no (by rw[p];rfl) (AV.mk (s:=a) (AO f rfl) (AC.mk (n:=(BP d).prog.au) (AB f rfl) ?_)))));rw[H];refine ARK ((V.ext j).ext k) (by omega) r λX Y m L=>⟨_,rfl,ANE L λM o N O Q=>⟨⟨some ⟨o,0,none⟩,1,1⟩,_,_,rfl,ab.no rfl (t M o (((j.trans k).trans m).trans N) (AK ((j.trans k).trans m).size O) Q)⟩⟩
end
def kH(p:bL):aW:=⟨p,0,5,0,0,0,false,[],[],false,false⟩
def rz(p:bL):aW:=⟨p,1,6,0,0,0,false,[],[],false,false⟩
abbrev lM(a:Int):Ev:=⟨0,4,0,a,0,0,false,⟨#[]⟩⟩
abbrev lN:Ev:=⟨0,15,0,0,0,0,false,⟨#[]⟩⟩
abbrev nZ:Ev:=⟨4,4,0,3,0,0,false,⟨#[]⟩⟩
abbrev o0:Ev:=⟨5,15,0,0,0,0,false,⟨#[]⟩⟩
theorem yn:Er nZ=true:=by decide
theorem yo:Er o0=true:=by decide
theorem rA {a:bd}{p:bL}(e:a.err=0)(b:a.st=dD p 0)(f:a.now=0):Di a (lM 3)= {a with st:=kH p,more:=a.more++ [nZ]}:=by
 have c:CU a (lM 3)=nZ:=by unfold CU;rw[b,f];rfl
 have d:Bh a.st (CU a (lM 3))=(0,kH p):=by rw[c,b];unfold Bh;rw[if_neg (by simp[yn]),if_neg (by simp[dD]),if_neg (by simp[dD]),if_neg (by simp[dD])];rfl
 rw[lX e (.inr (.inl (by rw[b];exact(by decide:(4:Int)<=497)))) (by rw[d]),d,c]
theorem AU1 {a:bd}{p:bL}(e:a.err=0)(b:a.st=kH p)(f:a.now=0):Di a lN= {a with st:=rz p,more:=a.more++ [o0]}:=by
 have c:CU a lN=o0:=by unfold CU;rw[b,f];rfl
 have d:Bh a.st (CU a lN)=(0,rz p):=by rw[c,b];unfold Bh;rw[if_neg (by simp[yo]),if_neg (by simp[kH]),if_neg (by simp[kH]),if_neg (by simp[kH])];rfl
 rw[lX e (.inr (.inl (by rw[b];exact(by decide:(5:Int)<=497)))) (by rw[d]),d,c]
theorem AWp:P.underlying DU=some (.struct (P.fieldsOf DU)):=by kernel_rfl
theorem AUy(a b:Int)(c:Bool):kL P DU [.i a,.i b,.b c]=true:=by kernel_rfl
section
variable {A : ao} {h : aa} {R : A2X}
theorem ARx {d:Nat}{b:Sl}{a:Q6}(e:h[d]? =some (J2 #[J6 J9 3,J6 J9 0,J3 false] DU (0,0)))(i:b.p=some a/\b.len=1)(j:af h a=some (J6 J9 3))(k:af h (a.add 1)=some (J6 J9 0))(l:af h (a.add 2)=some (J3 false))
  (o:R (J3 true) h):AA A P Cz #[J4 (some ⟨d,0,none⟩) 1 1,J4 b.p b.len b.cap] h R:=by
 obtain⟨p,f⟩:=i;refine HZ (s1:=⟨some ⟨d,0,none⟩,1,1⟩) ?_;unfold Ed;refine ab.no (by rw[f];rfl) ?_;refine Loop.rule (λm s q=> ∃c:Nat,s=((c:Int),())/\m=1-c/\c<=1/\q=h) ?_ ⟨0,rfl,rfl,A5 _,rfl⟩;rintro K m _ _ ⟨c,rfl,rfl,u,rfl⟩ r;dsimp only;refine ab.intro (λg=>?_) (λg=>o);have t:c=0:=by have:=of_decide_eq_true g;omega
 subst t;refine⟨_,rfl,⟨by decide,by decide⟩,?_⟩;refine AC.mk (n:=3) (AO e rfl) (AC.mk (n:=0) (AB e rfl) (Aa.mk (n:=false) (AB e rfl) ?_));rw[p,f];refine⟨_,rfl,⟨by decide,by decide⟩,?_⟩;have z:a.add (((0:Nat):Int).toNat*3)=a:=add_zero a;refine AC.mk (n:=3) (z.symm▸j) (AC.mk (n:=0) (z.symm▸k) (Aa.mk (n:=false) (z.symm▸l) ?_));refine AUs (xs:= [.i 3,.i 0,.b false]) (ys:= [.i 3,.i 0,.b false]) AWp (AUy 3 0 false) rfl rfl rfl ⟨_,rfl,ab.no (by simp) ?_⟩;rw[Ac (by omega)];exact r 0 _ _ (by omega) ⟨1,rfl,rfl,A0 _,rfl⟩
end
section
variable {A : ao} {g h : aa} {s k : Nat} {y : Hs} {mp : List Pr} {fl : cn} {an : cL} {O : Nat -> Prop} {R : A2X}
theorem APr {wid:A2Y}{e:List Ev}{G:J0}(o:EW g h s k 2 [y] mp fl an O)(B:Am wid=true)(C:fl wid=some e)(Y:y.f (Ao wid 2)≠0)(H:(BP e).status=0)
  (I: ∀l j a b c,Ext h l->View dd l j e->JQ l (BP e) a b c->(∀ x,a.ag=some x\/b.ag=some x\/c.ag=some x->h.size<x)->(∀ x,j.ag=some x->h.size<x)->(∀ x z,j.ag=some x->a.ag=some z\/b.ag=some z\/c.ag=some z->x<z)->
   R (J1 #[(⟨wid,(Ao wid 2:Int),⟨(BP e).status,(BP e).next,false⟩,j,(BP e).V a b c⟩:bH).v,J6 J9 0]) l):AA A P OO #[Ap y.p,G,J7 wid] h R:=by
 refine ABk ?_;unfold Uc;refine ai.mk λJ _ K p Z=>qc (i:=0) (o.on p).w rfl o.m (λL=>absurd (L.symm.trans B) (by decide)) λ_ aa M=>?_
 rw[C];refine MG.mk (⟨wid,(Ao wid 2:Nat),⟨(BP e).status,(BP e).next,false⟩,gU,bz.z⟩:bH) ⟨_,rfl,ai.mk λac _ N Q ae=>aD.mk N (A0 18) λS r T af=>ab.no rfl ?_⟩;rw[VP] at r;have t:Ext J S:=M.trans (Q.more T λc u=>by subst u;exact A0 _);have v:=(o.on p).on t;refine AC.mk (n:=(Ao wid 2:Nat)) (AB r rfl) (v.w.holds (i:=0) rfl ⟨_,rfl,ab.no (by simp;omega) (AC.mk (n:=(BP e).status) (AB r rfl) (ab.no (by rw[H];rfl) ?_))⟩);have D:=t.ag K λh=>h
 have lt:=Ai D;refine qd (i:=0) v.w rfl v.m B C λag j a b c E V U m F W=>MG.mk _ ⟨_,rfl,lA (E.ag D λh=>h) λX w=>?_⟩
 exact I X j a b c ((p.trans (t.trans E)).more w λc u=>by subst u;exact A0 _) (V.mod w λq d f=>by have:=F q d;have:q=h.size:=f;omega)
  (U.mod w (λq d f=>by have:=m q (.inl d);have:q=h.size:=f;omega) (λq d f=>by have:=m q (.inr (.inl d));have:q=h.size:=f;omega) (λq d f=>by have:=m q (.inr (.inr d));have:q=h.size:=f;omega))
  (λq d=>by have:=m q d;omega) (λq d=>by have:=F q d;omega) W
theorem AP8 {u k' v:Nat}{z:Nat->Nat}{x:dR}{a:bd}(L:bR g)(w:CW PO g h s k v 2 [y] 0 y mp O u z x a)(M:Jc mp fl an)(B: ∀d,y.u d<=3*k/\y.f d<=k)(N:k+1<=k')(Q:v+2<=3*k')(S: ∀d,y.u d+2<=3*k')(T:k'<=490)(ow:gC mp y a.aj)(U:a.aj<256)(C:Zl mp fl a)(i:a.conds= [])
  (V: ∀j f l m e,e=BA a l m->EW g j s k' 2 [f] (cu mp (Dh e++e.ar)) (cU fl a.wid ((fl a.wid).getD []++e.more)) an O->y.cK f->(∀ d D E,Be (cu mp (Dh e++e.ar)) (FW d D E)=Be mp (FW d D E))->BP ((fl a.wid).getD []++e.more)=e.st->Mod (aR g O) h j->R (dy 0 (DF a).1 (DF a).2).v j):
  AA A P OG #[Ap u] h R:=by
 refine ABQ ?_;unfold Ug;have nx:0<=a.st.next/\a.st.next<=501:=by have:=C.next;omega
 refine ai.mk λau _ W n av=>vD (w.on n) nx λX o=>DX.mk (dy 0 (DF a).1 (DF a).2) ⟨rfl,ai.mk λaw _ Y Z ax=>aD.mk Y (A0 9) λp r aa ay=>?_⟩
 rw[KI] at r;have F:Ext X p:=Z.more aa λc i=>by subst i;exact A0 _
 have G:=(n.trans o).trans F;have H:=(o.trans F).ag W λh=>h
 have ac:=Ai H;have az:=n.size;have aA:=o.size;have ae:=Ai r;have af:=w.wider (O':=λq=>O q\/(h.size<=q/\q<p.size)) G.mod λq b=>b
 refine EW.gj (k':=k') L af M (λaC ag d=>by rw[List.mem_singleton.1 ag];exact B d) (λd=>⟨S d,(B d).2⟩) N Q T ow U C (λ_ aE f l m e ah aj ak al am t=>⟨_,rfl,ab.no rfl ?_⟩) λao=>absurd (λc I=>by rw[i] at I;cases I) ao
 refine Bb.mk (dy 0 (DF a).1 (DF a).2) (Hr (aR.aF t r (.inr ⟨by omega,ae⟩))) (KL (aR.aF t H (.inr ⟨A0 _,ac⟩)) λJ K=>?_);have ap:Mod (λq=>aR g O q\/h.size<=q) h J:=G.mod.trans ((t.ak λq _ b=> .inl (aR.less b λq aq=> .inl aq)).trans (K.ak λq _ b=> .inr (by have:q=h.size:=b;omega)));refine V J f l m e ah ((aj.own (O':=λq=>O q\/(h.size<=q/\q<p.size)) (K.ak λq _ b=> .inr ⟨by have:q=h.size:=b;omega,by have:q=h.size:=b;omega⟩) λq b=> .inl b).own (O':=O) Mod.refl λq b=> .inl (.inl b)) ak al am (ap.ak λq ar b=>b.elim id λh=>absurd ar (by omega))
end
def lO(wid:A2Y)(c:Nat)(p:bL):bd:= {Gy wid c 0 4 false (dD p 0) 0 with st:=rz p,more:= [nZ,o0]}
theorem yp {wid:A2Y}{c:Nat}{p:bL}:Di (Di (Gy wid c 0 4 false (dD p 0) 0) (lM 3)) lN=lO wid c p:=by rw[rA rfl rfl rfl,AU1 rfl rfl rfl];rfl
theorem AML {mp:List Pr}{fl:cn}{wid:A2Y}{c:Nat}{p:bL}{b:List Ev}(j:Am wid=true)(f:fl wid=some b)(l:OW b)(i:BP b=dD p 0)(d:DI (dD p 0) 3):Zl mp fl (lO wid c p):= {
 wid:=j
 fits:=by show((lO wid c p).fits ((fl wid).getD []));rw[f,<-yp];refine Ma (Ma ?_);show Ew TM (b++ [])=some (dD p 0);rw[AI];exact l.ok.trans (congrArg some i)
 more:=by intro h;cases h
 st:=⟨A5 _,A5 _,d.steps,d.au,d.aO,(by decide:(0:Int)<=6/\(6:Int)<=501),(by decide:(0:Int)<=1/\(1:Int)<=4),d.waits⟩
 ok:=λm e=>by
  rcases List.mem_cons.1 e with rfl|e
  ·exact⟨yn,(by decide:0<1099511627776)⟩
  ·rw[List.mem_singleton.1 e];exact⟨yo,(by decide:0<1099511627776)⟩
 len:=⟨(by decide:2+0<=50),(by decide:0<=50)⟩
 keys:=λq a=>by cases a
 base:=by show nf (lO wid c p) (fl wid);rw[f];show(0:Int)=(BP b).status/\(4:Int)=(BP b).next/\false=false/\(0:Int)<4;rw[i];exact⟨rfl,rfl,rfl,by decide⟩
 bW:=(by decide:(0:Int)<=0/\(0:Int)<=4)
 bP:=(by decide:(0:Int)<=4/\(4:Int)<=501)
 now:=(by decide:(0:Int)<=0/\(0:Int)<=1099511627776)
 next:=(by decide:(2:Int)<=6/\(6:Int)<=500)
 err:=rfl
 bes:=⟨λq a=>(by cases a),λq a=>(by cases a),λq a=>by cases a⟩}
section
variable {A : ao} {g h : aa} {s k : Nat} {y : Hs} {mp : List Pr} {fl : cn} {an : cL} {O : Nat -> Prop} {R : A2X}
set_option maxHeartbeats 400000 in
theorem AMA {q:bN}{ev:List Ev}{p:bL}{aM:J0}{a2:Q6}(aN:bR g)(r:EW g h s k 2 [y] mp fl an O)(aO:k+1<=490)(own:gC mp y (Ao q.wid 2)/\y.f (Ao q.wid 2)=1)(am:Am q.wid=true)(L:fl q.wid=some ev)(t:BP ev=dD p 0)(aP:p.steps= [])(aQ: ∀e∈ev,e.kind<=5)(aS:ev.length=3)(ao:q.ref=3)
  (aT:q.bT.p=some a2/\q.bT.len=1) (aU:af h a2=some (J6 J9 3)) (aV:af h (a2.add 1)=some (J6 J9 0)) (aW:af h (a2.add 2)=some (J3 false))
  (aX: ∀u M aY aZ,EW g u s (k+1) 2 [M] aY aZ an O->Mod (aR g O) h u->R (dy 0 1 6).v u):AA A P Jw #[Ap y.p,aM,J6 J9 0,q.v] h R:=by
 have N:=r.m.cR _ _ L;have d:=Tc q.wid (n:=2) (by decide);have v:DI (dD p 0) 3:=by have:=Qz DI.zero N.ok;rw[t,aS] at this;exact this.up (by omega)
 refine AAG ?_;unfold Sw;refine ai.mk λE _ ap Q bK=>ai.mk λS _ a0 B bM=>AL.mk (n:=q.wid) (AB (B.ag ap λh=>h) rfl) ?_
 have a1:=B.ag ap λh=>h
 refine APr ((r.on Q).on B) am L (by rw[own.2];decide) (by rw[t];rfl) λF f a b T aq V U a3 bO bP=>MG.mk _ ⟨_,rfl,ai.mk λbQ _ a4 a5 bS=>aD.mk a4 (A0 18) λW o a6 bT=>ab.no rfl ?_⟩
 rw[VP] at o;rw[t] at o U;have G:Ext F W:=a5.more a6 λc d=>by subst d;exact A0 _
 have X:=aq.trans G;have ar:=X.ag a1 λh=>h
 have a7:=X.ag a0 λh=>h
 have au:af W ((⟨h.size,0,none⟩:Q6).add 7)=some (J6 J9 3):=by rw[<- ao];exact AB ar rfl
 have bU:=V.len;have vc:=V.cap;refine ah.mk λK a8=>?_
 refine AC.mk (n:=3) (by rw[add_add];exact AB o rfl) ?_;refine ab.no rfl ?_;refine AC.mk (n:=3) (by rw[add_add];exact AB o rfl) ?_;refine AC.mk (n:=3) au ?_;refine a8 _ _ ?_;refine ab.no rfl ?_;refine AV.mk (s:=f) (AB o rfl) ?_;refine AC.mk (n:=3) au ?_;refine⟨⟨by decide,by omega⟩,?_⟩;have a9:View dd W ⟨BC f.p f.cap 0 8,3,f.cap⟩ ev:=by have:=(V.ext G).sub (lo:=0) (hi:=3) (by omega) (by omega);rw[HP,AD (by omega)] at this;exact this
 rw[show(3:Int).toNat-0=3 from rfl,Gk];refine yx (l:=⟨BC f.p f.cap 0 8,3,f.cap⟩) N a9 (by rw[t];rfl) (by rw[t];exact aP) aQ λH ba w bV Y=>?_
 refine⟨⟨some ⟨ba,0,none⟩,1,1⟩,0,rfl,?_⟩;refine ab.no rfl ?_;have av:=w.ag ar λh=>h
 have bb:=w.ag a7 λh=>h
 have bc:=w.ag o λh=>h
 have C:Ext h H:=((Q.trans B).trans X).trans w;refine AV.mk (s:=q.bT) (AB av rfl) (ARx Y aT (C.af aU) (C.af aV) (C.af aW) ⟨_,rfl,ab.no rfl ?_⟩);refine EL.mk (⟨q.wid,(Ao q.wid 2:Nat),⟨0,4,false⟩,f,(dD p 0).V a b T⟩:bH) (Nf bc) ?_;have bW:=Q.size;have bX:=B.size;have bY:=aq.size;have bZ:=G.size;have b0:=w.size;have b1:=Ai o;have b2:=Ai Y
 let x:Nat->Prop:=λc=>O c\/(h.size<=c/\c<H.size/\ ¬TV (dD p 0) a b T c)
 have Z: ∀c,TV (dD p 0) a b T c->S.size<c/\c<F.size:=λc I=>⟨a3 c (by rcases I with⟨_,h⟩|⟨_,h⟩|⟨_,h⟩<;>simp[h]),U.lt I⟩
 have aw: ∀c,h.size<=c->c<H.size->c<=S.size\/F.size<=c->x c:=λc bd E b3=> .inr ⟨bd,E,λhi=>by have:=Z c hi;omega⟩
 refine qB (l:= [y]) (i:=0) (y:=y) (O:=x) (aj:=Ao q.wid 2) (now:=0) (r.w.own C.mod λc I=>?_) (by simp) (U.ext (G.trans w)) (λc hi ac=>?_) λb4 be z b5 bf J=>⟨_,rfl,?_⟩
 ·rcases I with(h|h)|h
  ·exact .inl h
  ·exact .inr ⟨h.1,h.2.1⟩
  ·have:=Z c h;exact .inr ⟨by omega,by omega⟩
 ·rcases ac with h|h
  ·have:=(r.w.out h).1;have:=Z c hi;omega
  ·exact h.2.2 hi
 have aF: ∀ {c:Nat} {ax:Obj} {u ay:aa},u[c]? =some ax->h.size<=c->c<H.size->c<=S.size\/F.size<=c->Mod (aR g x) u ay->ay[c]? =some ax:=λbg g1 bh bi m=>aR.aF m bg (aw _ g1 bh bi)
 have bj:=J.ag av λh=>h
 have bk:=J.ag bb λh=>h
 have bm:=J.ag Y λh=>h
 refine AC.mk (n:=3) (by rw[<- ao];exact AB bj rfl) ?_;refine Uw (n:=4) (e:=lM 3) bf (v.up (by omega)) (by decide) (by show 0<1099511627776;decide) (by show 0<1000;decide) λaz b6 b7 bn ag=>⟨rfl,?_⟩
 have bo:=aF bk (by omega) (by omega) (by omega) ag;have ak:=aF bm (by omega) (by omega) (.inr (by omega)) ag;refine Loop.rule (λal aA D=>(aA=((0:Int),())/\al=1/\D=az)\/(aA=((1:Int),())/\al=0/\Mod (aR g x) az D/\ ∃aC aE,CW PO g D s k (3*k) 2 [y] 0 y mp x be aC aE (lO q.wid (Ao q.wid 2) p))) ?_ (.inl ⟨rfl,rfl,rfl⟩);rintro b8 al _ D (⟨rfl,rfl,rfl⟩|⟨rfl,rfl,aG,aC,aE,bp⟩) bq
 ·refine ab.yes rfl ⟨_,rfl,⟨by decide,(by decide:(0:Int)<((1:Nat):Int))⟩,AC.mk (n:=3) (AO ak rfl) (AC.mk (n:=0) (AB ak rfl) (Aa.mk (n:=false) (AB ak rfl) (ai.mk λb9 _ br bs ca=>?_)))⟩;refine ae.mk br (by simp) λcb bt bu cc=>ae.bE (j:=1) bt (by simp) rfl λcd bv bw ce=>ae.bE (j:=2) (dm:= #[J6 J9 3,J6 J9 0,J3 false]) bv (by simp) rfl λbx bz bA cf=>?_
  have aH:Ext D bx:=bs.more ((bu.trans bw).trans bA) λc d=>by subst d;exact A0 _
  refine AC.mk (n:=3) (AO bz rfl) (ah.mk λcg bB=>ab.no rfl (ab.no rfl (ab.yes rfl ?_)));refine Uw (n:=5) (e:=lN) (bn.on aH) ?_ (by decide) (by show 0<1099511627776;decide) ?_ λch bC bD aI bE=>⟨rfl,bB _ _ ?_⟩
  ·rw[rA rfl rfl rfl];exact⟨A5 _,A5 _,v.steps,v.au,v.aO,(by decide:(0:Int)<=5/\(5:Int)<=501),(by decide:(0:Int)<=0/\(0:Int)<=4),v.waits⟩
  ·rw[rA rfl rfl rfl];show 1<1000;decide
  rw[yp] at aI;exact bq 0 _ _ (by omega) (.inr ⟨rfl,rfl,aH.mod.trans bE,bC,bD,aI⟩)
 ·refine ab.no rfl ?_;have bF:=aF bo (by omega) (by omega) (by omega) aG;have ub:=r.all y (by simp);refine AP8 (k':=k+1) aN bp r.m ub (by omega) (by omega) (λn=>by have:=ub n;omega) aO own.1 (by show Ao q.wid 2<256;omega) (AML am L N t v) rfl λci M cj ck cl cm bG cn _ _ aJ=>DX.mk (dy 0 1 6) ⟨rfl,KL (aF bF (by omega) (by omega) (by omega) aJ) λaK aL=>?_⟩
  have bI:Mod (λc=>aR g O c\/h.size<=c) h aK:=C.mod.trans (J.mod.trans ((((ag.trans aG).trans aJ).ak λc _ d=> .inl (aR.less d λc ac=> .inl ac)).trans (aL.ak λc _ d=> .inr (by have:c=E.size:=d;omega))));exact aX aK M _ _ ((bG.own (O':=x) (aL.ak λc _ d=>by have e:c=E.size:=d;subst e;exact aw _ (by omega) (by omega) (.inl (by omega))) λc d=> .inl d).own (O':=O) Mod.refl λc d=> .inl (.inl d)) (bI.ak λc bJ d=>d.elim id λh=>absurd bJ (by omega))
end
theorem ASc {a:List Ev}{p:bL}(c:OW a)(d:BP a=bZ p 0):BP (a++ [Qc])=dD p 0:=by
 have ok:Er Qc=true:=uT.1;have b:Bh (bZ p 0) Qc=(0,dD p 0):=by unfold Bh;rw[if_neg (by simp[ok]),if_neg (by simp[bZ]),if_neg (by simp[bZ]),if_neg (by simp[bZ])];rfl
 have h:=zD (e:=Qc) (c.ok.trans (congrArg some d)) (by rw[b]);rw[b] at h;unfold BP;rw[h];rfl
section
variable {A : ao} {g h : aa} {w : Nat} {x : eM} {k : Nat} {y : Hs} {mp : List Pr} {fl : cn} {an : cL} {O : Nat -> Prop} {T : TT} {L : List Tq} {R : A2X}
theorem WQ.decide {c G:Nat}{wid:A2Y}{ev:List Ev}{p:bL}(H:bR g)(f:WQ g h w x k y mp fl an O T ((c,G,wid)::L))(aT:k+2<=490)(I:fl wid=some ev)(ae:BP ev=bZ p 0)(J:p.steps= [])(af: ∀b∈ev,b.kind<=5)(ag:ev.length=2)
  (ah: ∀K,Mod (aR g O) h K->R (dy 0 1 6).v K):AA A P FR #[Ap w,J6 J9 0] h R:=by
 obtain⟨a,o,-,r,-⟩:=f.q.ok.one (c,G,wid) (ZN (by simp));have r:Am wid=true:=r;have o:Ao wid 2=c:=o;have a:c<2:=a;have t:=ASc (f.q.w.m.cR _ _ I) ae;refine Mq ?_;unfold JU;refine ai.mk λaU _ M u aV=>?_
 have aj:=f.wider u ⟨A0 _,Ai M⟩;have aW:=u.size;refine aj.pz (q:=⟨7,⟨#[]⟩,⟨#[]⟩,⟨#[]⟩,⟨none,0,0⟩,0,⟨none,0,0⟩,0,0,0,0,false⟩) H (by omega) rfl rfl λak al aX am aY N ao aZ Q a0 v ap=>DX.mk (⟨0,0,0,⟨1,wid,3,0⟩,⟨#[]⟩,N⟩:aS) ⟨rfl,ai.mk λa1 _ aq ar a3=>aD.mk aq (A0 9) λau j av a4=>?_⟩
 rw[KI] at j;obtain rfl:ev=am:=Bk (I.symm.trans ao);have d:Ext ak au:=ar.more av λc a=>by subst a;exact A0 _
 have aw:=Q.on d;have a5:=v.size;have a6:=d.size;have ax:=Q.q.w.m.cR wid _ IB;have S: ∀b∈ev++ [Qc],b.kind<=5:=λb ay=>(List.mem_append.1 ay).elim (af b) λh=>by rw[List.mem_singleton.1 h];decide
 refine AC.mk (n:=0) (AO j rfl) (ab.no rfl (AV.mk (s:=N) (AB j rfl) ?_));refine yx ax (ap.ext d) (by rw[t];rfl) (by rw[t];exact J) S λa7 l e a8 az=>⟨⟨some ⟨l,0,none⟩,1,1⟩,_,rfl,ab.no rfl ?_⟩
 have U:=e.ag j λh=>h
 refine AL.mk (n:=wid) (by rw[add_add];exact AB U rfl) (AC.mk (n:=3) (by rw[add_add];exact AB U rfl) ?_);have V:=aw.on e;have a9:=e.size;refine om (q:=⟨8,⟨#[]⟩,wid,⟨#[]⟩,⟨none,0,0⟩,0,⟨some ⟨l,0,none⟩,1,1⟩,3,0,0,0,false⟩) (i:=0) V.wo rfl λba aA bb z aC W aE=>?_
 have aF:=Ai W;have X:=V.wider z ⟨aC,aF⟩;refine APi X.wo rfl λbc aG bd B aH Y aI=>?_
 have aJ:=Ai Y;have Z:=X.wider B ⟨aH,aJ⟩;have C:=z.trans B;have D:=C.ag az λh=>h
 have own:=Z.q.own c a;have aK:=(d.trans (e.trans C)).ag (aR.aF v M (.inr rfl)) λh=>h
 rw[f.now];refine AMA (q:=⟨8,⟨#[]⟩,wid,⟨#[]⟩,⟨none,0,0⟩,0,⟨some ⟨l,0,none⟩,1,1⟩,3,0,0,0,false⟩) (ev:=ev++ [Qc]) (p:=p) (a2:=⟨l,0,none⟩) H Z.q.w (by omega) (by show gC _ _ (Ao wid 2)/\al.f (Ao wid 2)=1;rw[o];exact own) r IB t J S (by rw[A1,ag];rfl) rfl ⟨rfl,rfl⟩ (AO D rfl) (AB D rfl) (AB D rfl) λaL be bf bg bh m=>aI aL _ ⟨aR.aF m Y (.inr rfl),λaM E=>aE aM _ (show(0:Int)≠30 by decide) ⟨E.ag (aR.aF m (B.ag W λh=>h) (.inl (.inr rfl))) (by omega),λbi aa=>?_⟩⟩
 have aN:=aa.ag (E.ag (aR.aF m aK (.inl (.inl (.inl (.inr rfl))))) (by omega)) (by omega);refine DX.mk (dy 0 1 6) ⟨rfl,KL aN λac aO=>ah ac ?_⟩;have aP:Mod (λc=>aR g O c\/h.size<=c) h ac:=u.mod.trans ((v.ak λc _ a=> .inl (aR.less a λc F=> .inl F)).trans ((d.trans (e.trans C)).mod.trans ((m.ak λc _ a=> .inl (aR.less a λc F=> .inl (.inl (.inl (.inl F))))).trans ((E.ak λc _ a=> .inr (by have:c=aG:=a;have:=z.size;omega)).trans ((aa.ak λc _ a=> .inr (by have:c=aA:=a;omega)).trans (aO.ak λc _ a=> .inr (by have:c=h.size:=a;omega)))))));exact aP.ak λc aQ a=>a.elim id λh=>absurd aQ (by omega)
end
theorem pre_nil {b:List Pr}{a:UInt8}{q:List UInt8}(s:Sorted b)(c: ∀q,BL q≠108->Ab q b=none)(d:a≠108):GQ (Ae (a::q)) b= []:=by
 refine List.filter_eq_nil_iff.2 λp e f=>?_
 have:=c p.key (by rw[nv f];exact d);rw[s.find e] at this;cases this
theorem ATr(p m:Nat):ga (cw [some p]) m=some 0:=by
 cases b:ga (cw [some p]) m with
 |none=>have a:=uh b;cases a
 |some i=>
  have a:=(List.getElem?_eq_some_iff.1 (pP b).1).1;have a:i<1:=a;rw[show i=0 by omega]
theorem AXB(i:Nat):(⟨#[]⟩:A2Y)≠cH i:=λb=>by
 have a:=congrArg ByteArray.size b;unfold cH at a;rw[Fm] at a;have c:km.size=4:=rfl;have d:(⟨#[]⟩:A2Y).size=0:=rfl;omega
theorem rB(p m:Nat)(l:List Hs)(ix:Nat->Nat):eA (cw [some p]) ix l (λ_=>(0,⟨#[]⟩)) m=some 0:=by unfold eA;rw[ATr];exact if_neg λa=>AXB 0 a.1
abbrev rW:A2Y:=⟨#[119]⟩
theorem AXZ:BP [⟨1,1,0,0,0,0,false,Ae (Ce ⟨[],0⟩)⟩,⟨2,2,0,0,0,0,false,⟨#[]⟩⟩]=bZ ⟨[],0⟩ 0:=by kernel_rfl
theorem ASh {c num:Nat}(a:c<2):eS (cI (λ_=> []) c [(num,rW)]) 2=1/\j5 (cI (λ_=> []) c [(num,rW)]) [] 2= [(c,num,rW)]:=by
 rcases(by omega:c=0\/c=1) with rfl|rfl
 ·constructor
  ·simp[eS,cI]
  ·simp[j5,cI,VZ,gV]
 ·constructor
  ·simp[eS,cI]
  ·simp[j5,cI,VZ,gV]
theorem AMw {W:ao}{d:aa}{J:A2X}(h:bR d)(X: ∀K,Ext d K->J (J3 true) K):AA W P KE #[] d J:=by
 refine VH ?_;unfold Oc;refine yw (n:=1) (sh:=2) h (by decide) (by decide) λY g b s a e nt Z ac aJ=>⟨_,_,rfl,?_⟩
 refine yl (i:=0) (x:=⟨b,s,a,e,2,nt,0⟩) h Z ac rfl (show 1<=2/\2<=16 by decide) (by decide) (.inl rfl) (.inr rfl) λj p u v w y aK=>⟨_,rfl,?_⟩
 have y:Wo j g ⟨b,s,a,e,2,nt,0⟩ [some p]:=y;have w:LW PO d j s 0 0 2 [⟨p,u,v,cH 0,λ_=>0,λ_=>0⟩] [] (iw g e):=w;have ae:WW d j g ⟨b,s,a,e,2,nt,0⟩ [some p] 0 [⟨p,u,v,cH 0,λ_=>0,λ_=>0⟩] [] (iw g e) (λ_=>0) (λ_=>(0,⟨#[]⟩)):= {
  lw:=w
  wo:=y
  own:=⟨.inl rfl,.inr rfl⟩
  tie:=λi q hi=>by
   have Y:i<1:=(List.getElem?_eq_some_iff.1 hi).1;obtain rfl:i=0:=by omega
   cases hi;exact⟨_,rfl,rfl,rfl⟩
  ls:=λm _=> .inl ⟨rfl,rfl,rfl⟩
  le:=λm _=>A0 _
  sh:=(show 1<=2/\2<=16 by decide)
  n:=by show(1:Nat)<=8;decide
  all:=λr k m=>by rw[List.mem_singleton.1 k];exact⟨A5 _,A5 _⟩
  em:=Jc.empty
  row:=λq _=>rfl}
 have z:QZ (cw [some p]) (λ_=>0) [⟨p,u,v,cH 0,λ_=>0,λ_=>0⟩] (λ_=>(0,⟨#[]⟩)) 2=2:=by rw[SA,SA,rB,rB];rfl
 refine APJ h ae (by show 0+QZ _ _ _ _ 2<=490;rw[z];decide) λL af M ag f ah aj aL=>⟨_,_,rfl,?_⟩
 have f:WW d L g ⟨b,s,a,e,2,nt,0⟩ [some p] (0+2) af M (iw g e) (λ_=>0) ag:=f.up (by show 0+QZ _ _ _ _ 2<=2;exact Nat.le_of_eq (by rw[z])) (by decide);obtain⟨A,rfl⟩:=List.length_eq_one_iff.1 aj;obtain⟨r,k,ak,al⟩:=f.tie 0 p rfl;obtain rfl:A=r:=Bk k;have G:=λm (B:m<2)=>(ah m B).goes 0 (rB p m _ _)
 have C: ∀m,m<2->A.f m=1:=λm B=>(G m B).2
 have D:=f.lw.sorted;have am:WQ d L g ⟨b,s,a,e,2,nt,0⟩ 2 A M (λ_=>none) (λ_=>none) (iw g e) (λ_=> []) []:= {
  q:=⟨⟨f.lw.put (A0 _) (by show 64*2<=32000;decide) (show 0+2<=3*2 by decide) (by decide),f.em,λr k n=>f.all r k n⟩,⟨λc _=>pre_nil D f.row (by decide),by rw[SQ];exact pre_nil D f.row (by decide)⟩,λn l=>by
   have ls:=f.ls n l;rw[(G n l).1,<-al] at ls;exact⟨⟨by rw[C n l];decide,by rw[C n l];exact ls.holds (A0 _)⟩,C n l⟩,⟨λq an=>(by cases an),RT,RT⟩⟩
  wo:=by rw[ak];exact f.wo
  ow:=⟨.inl rfl,.inr rfl⟩
  sh:=rfl
  now:=rfl}
 have ap:RZ ⟨1,⟨#[114]⟩,rW,⟨#[]⟩,⟨none,0,0⟩,0,⟨none,0,0⟩,0,0,0,0,false⟩ ⟨[],0⟩=0:=by
  unfold RZ;rw[if_neg (λd=>by have j:=d.2;exact absurd j (by decide)),if_neg];rintro(d|d|d)
  ·exact absurd d.1 (show ¬(1:Int)=2 by decide)
  ·exact absurd d (show ¬Am ⟨#[119]⟩=false by decide)
  ·exact absurd d (show ¬Am ⟨#[114]⟩=false by decide)
 refine am.start (q:=⟨1,⟨#[114]⟩,rW,⟨#[]⟩,⟨none,0,0⟩,0,⟨none,0,0⟩,0,0,0,0,false⟩) (p:=⟨[],0⟩) h (by decide) rfl View.nil rfl rfl (by decide) ap rfl rfl (by show Am ⟨#[119]⟩=true;decide) λt aq aM num o aN aO ar=>DX.mk (dy 0 0 3) ⟨rfl,ai.mk λaP _ N au aQ=>aD.mk N (A0 9) λaS O av aT=>?_⟩
 rw[KI] at O;have aw:g≠t.size/\e≠t.size:=⟨λQ=>by have:g<t.size:=o.lt o.ow.1;omega,λQ=>by have:e<t.size:=o.lt o.ow.2;omega⟩;have R:=(o.wider au ⟨A0 _,Ai N⟩).bA av (.inr rfl) aw;have ax:=Tc rW (n:=2) (by decide);refine R.turn h (by decide) (λn=>ar n (pre_nil D f.row (by decide))) λay az E S aU=>⟨_,_,rfl,?_⟩
 obtain⟨aA,aC⟩:=ASh (num:=num) ax;have E:WQ d ay g ⟨b,s,a,e,2,nt,0⟩ (2+1+16) aq az _ _ _ _ [(Ao rW 2,num,rW)]:=aC▸E;refine E.decide h (by decide) IB AXZ rfl (λQ F=>by
  rcases List.mem_cons.1 F with rfl|F
  ·exact(by decide:(1:Int)<=5)
  ·rw[List.mem_singleton.1 F];exact(by decide:(2:Int)<=5)) rfl λaE T=>DX.mk (dy 0 1 6) ⟨rfl,ai.mk λaV _ aF aG aW=>aD.mk aF (A0 9) λU H aH aX=>?_⟩
 rw[KI] at H;have V:Ext aE U:=aG.more aH λc I=>by subst I;exact A0 _
 have aI:=V.ag (aR.aF T (aR.aF S O (.inr rfl)) (.inr rfl)) λd=>d
 refine ab.yes rfl (ab.yes rfl (ab.yes rfl (ab.yes (by show(((QZ _ _ _ _ 2:Nat):Int)==2)=true;rw[z];rfl) (AC.mk (n:=0) (AO aI rfl) (ab.yes rfl (ab.yes rfl (ab.yes ?_ (AC.mk (n:=0) (AO H rfl) (ab.yes rfl (AC.mk (n:=1) (AB H rfl) ?_))))))))))
 ·show(((eS (cI (λ_=> []) (Ao rW 2) [(num,rW)]) 2:Nat):Int)==1)=true;rw[aA];rfl
 ·refine X U ?_;exact((R.ext.more (S.trans T) λc I=>I.1)).trans V
section
variable {A : ao} {g h : aa} {R : A2X}
theorem yy {a:Int}(b: -9223372036854775808<=a)(c:a<=9223372036854775807):(((⟨#[104,111,115,116]⟩:A2Y).size+(⟨(Lib.itoa a).toArray⟩:A2Y).size:Nat):Int)<=IntKind.max J9:=by
 have:=Lib.itoa_length_le a b c;have d:ByteArray.size ⟨#[104,111,115,116]⟩=4:=rfl;have e:ByteArray.size ⟨(Lib.itoa a).toArray⟩=(Lib.itoa a).length:=by show Array.size _=_;simp
 rw[d,e,max_i64];omega
abbrev yz(i:Int):A2Y:=(⟨#[104,111,115,116]⟩:A2Y)++⟨(Lib.itoa (if(0:Int)>i then 0 else i)).toArray⟩
theorem AP9(t:cW h){i:Int}(hi:i<=9223372036854775807)(b: ∀a,Ext h a->R (J7 (yz i)) a):AA A P En #[J6 J9 i] h R:=by refine Xj ?_;unfold Tf;exact Wy t (by split<;>omega) (by split<;>omega) λc d=>⟨_,rfl,yy (by split<;>omega) (by split<;>omega),b c d⟩
theorem AQC(t:cW h){i:Int}(hi:i<=9223372036854775807)(b: ∀a,Ext h a->R (J7 (yz i)) a):AA A P GH #[J6 J9 i] h R:=by refine XM ?_;unfold QL;exact Wy t (by split<;>omega) (by split<;>omega) λc d=>⟨_,rfl,yy (by split<;>omega) (by split<;>omega),b c d⟩
theorem AQb {d:Nat}{x:eM}{ps:List (Option Nat)}{i:Int}(e:Wo h d x ps)(hi:i<0\/(ps.length:Int)<=i)(f:R (J6 J9 230) h):AA A P EO #[Ap d,J6 J9 i] h R:=by
 refine KP ?_;unfold IY;refine ah.mk λK j=>ab.no rfl ?_
 have key: ∀b:Bool,b=true->K (b,()) h:=λb k=>by subst k;exact j _ _ (ab.yes rfl f)
 refine ab.intro (λa=>key _ rfl) λa=>aA (e.sl (ab.intro (λc=>key _ rfl) λc=>?_))
 have a:=of_decide_eq_false a;have c: ¬((ps.length:Nat):Int)<=i:=of_decide_eq_false c;omega
theorem AJe {i:Int}{q:bN}{aF:Sl}(x:bR h)(hi: -9223372036854775808<=i/\i<=9223372036854775807)(S: ∀y,Ext h y->R (J3 true) y):AA A P Ld #[J6 J9 i,q.v,J4 aF.p aF.len aF.cap] h R:=by
 refine Ro ?_;unfold Lp;refine ai.mk λT _ z l aC=>AMw (x.ext l) λm B=>⟨_,rfl,ab.no rfl ?_⟩
 have C:=B.ag z λh=>h
 refine ARr ⟨rfl,ATm Rz ⟨_,_,rfl,AMP ⟨_,_,rfl,MB.mk q (Bz C rfl) (ARe λaE U=>⟨_,_,rfl,AKf λaG V=>DX.mk aS.z ⟨_,rfl,ai.mk λaH _ W X aI=>aD.mk W (A0 9) λY aJ Z aK=>AT7 Rz ⟨_,_,rfl,?_⟩⟩⟩)⟩⟩⟩;have D:Ext m Y:=(U.trans V).trans (X.more Z λc e=>by subst e;exact A0 _);have aa:=D.ag C λh=>h
 refine ah.mk λK ac=>ARm ⟨_,rfl,ab.no rfl (AP4 ⟨_,rfl,ab.no rfl (ab.no rfl (ab.no rfl (ab.no rfl (ab.no rfl (ab.no rfl (MB.mk q (Bz aa rfl) (og Rz λaL ae=>DX.mk (RJ 230) ⟨rfl,ab.no rfl (APf Rz λaM af=>DX.mk (RJ 230) ⟨rfl,ab.no rfl (ATv Rz λo ag=>DX.mk (RJ 230) ⟨rfl,ab.no rfl (AP0 ⟨_,rfl,ab.no rfl (ARw ⟨_,rfl,ab.no rfl (ARf ⟨_,rfl,ab.no rfl (AT5 ⟨_,rfl,ab.no rfl (AUE ⟨_,rfl,ab.no rfl (AOz Rz ⟨_,rfl,ab.no rfl (ALd ⟨_,rfl,ac _ _ (ab.no rfl ?_)⟩)⟩)⟩)⟩)⟩)⟩)⟩)⟩)⟩)⟩)))))))⟩)⟩
 have r:Ext T o:=B.trans (D.trans ((ae.trans af).trans ag));have ka:=x.ext (l.trans r);refine yw (n:=2) (sh:=2) ka (by decide) (by decide) λaj ak b s a al nt E F aN=>⟨_,_,rfl,ah.mk λaO am=>?_⟩
 have an:Ext o aj:=E.ext;have ao:=(r.trans an).ag z λh=>h
 have ap:i<0\/((List.replicate 2 (none:Option Nat)).length:Int)<=i\/ ∃G:Nat,i=G/\(List.replicate 2 (none:Option Nat))[G]? =some none:=by
  by_cases f:i<0
  ·exact .inl f
  ·by_cases m:(2:Int)<=i
   ·exact .inr (.inl m)
   ·refine .inr (.inr ⟨i.toNat,by omega,?_⟩);rcases(by omega:i.toNat=0\/i.toNat=1) with d|d<;>rw[d]<;>rfl
 refine MB.mk q (Bz ao rfl) (og (AWT F ap) λaP H=>DX.mk (RJ 230) ⟨rfl,ab.no rfl (yq (.inl (by decide)) ⟨_,rfl,ab.no rfl (yq (.inr (by decide)) ⟨_,rfl,ab.no rfl (ART (n:=1000) (F.ext H) (by decide) (show(0:Int)<=0/\(0:Int)<=549755813888 by decide) λI t aq=>⟨_,rfl,ab.no rfl (AUJ t ⟨_,rfl,am _ _ (ab.no rfl ?_)⟩)⟩)⟩)⟩)⟩);have u:=(E.on H).own (O':=iw ak al) (aq.ak λc _ e=> .inl e) λc e=> .inl e
 have ar:Lib.itoa 0= [48]:=by unfold Lib.itoa;rw[if_neg (by decide),Lib.decDigits_one (by decide)];rfl
 have names: ∀j,Ext o j->AA A P En #[J6 J9 i] j λau J=> ∃L:A2Y,au=J7 L/\(AA A P GH #[J6 J9 i] J λav v=> ∃M:A2Y,av=J7 M/\(ab (bB L M) (AA A P Li #[J6 J9 0] v λaw N=> ∃O:A2Y,aw=J7 O/\R (Value.bool (bB O (⟨#[115,104,97,114,100,32,48]⟩:A2Y))) N) (R (Value.bool false) v))):=λj k=>by
  refine AP9 (ka.ext k).dx hi.2 λJ w=>⟨_,rfl,AQC (ka.ext (k.trans w)).dx hi.2 λv Q=>⟨_,rfl,ab.yes (by rw[Bl];simp) (uf (ka.ext ((k.trans w).trans Q)).dx (by decide) λN ax=>⟨_,rfl,?_⟩)⟩⟩
  rw[if_neg (by decide),ar];have d:(⟨#[115,104,97,114,100,32]⟩:A2Y)++⟨#[48]⟩=⟨#[115,104,97,114,100,32,48]⟩:=Nd (by rw[HK];rfl);show R (Value.bool (bB ((⟨#[115,104,97,114,100,32]⟩:A2Y)++⟨#[48]⟩) _)) _;rw[d,Bl,decide_eq_true rfl];exact S _ ((l.trans r).trans (((k.trans w).trans Q).trans ax))
 by_cases ay:0<=i/\i<2
 ·obtain⟨n,rfl⟩: ∃n:Nat,i=n:=⟨i.toNat,by omega⟩;have az:(List.replicate 2 (none:Option Nat))[n]? =some none:=by rcases(by omega:n=0\/n=1) with d|d<;>rw[d]<;>rfl
  refine yl (i:=n) ka u t az (show 1<=2/\2<=16 by decide) (by decide) (.inl rfl) (.inr rfl) λj p aQ aR aA aT aU=>⟨_,rfl,ab.yes (decide_eq_true (by omega)) (ab.yes ?_ (names j aA.ext))⟩
  rw[decide_eq_true ay.2];rfl
 ·refine AQb t (by show i<0\/(2:Int)<=i;omega) ⟨_,rfl,ab.intro (λf=>ab.yes ?_ (names I u.ext)) λf=>ab.yes rfl (names I u.ext)⟩;have f:=of_decide_eq_true f;rw[decide_eq_false (by omega)];rfl
end
section
variable {A : ao} {g h : aa} {R : A2X}
end
structure AXj (up:List Bool) (ix:Nat->Nat) (l:List Hs) (Ls:ey) (sh:Nat):Prop where
 own: ∀m,m<sh-> ∀i,ga up m=some i->(Ls m).2=cH i/\(Ls m).1=dH l ix i m/\1<=(Ls m).1
 nil: ∀m,m<sh->(Ls m).1=0->(Ls m).2=⟨#[]⟩
section
variable {A : ao} {g h : aa} {w : Nat} {x : eM} {ps : List (Option Nat)} {R : A2X} {O : Nat -> Prop} {k : Nat} {l : List Hs} {mp : List Pr} {ix : Nat -> Nat} {Ls : ey}
end
section
variable {A : ao} {g h : aa} {w ub n : Nat} {x : eM} {ps ps' : List (Option Nat)} {R : A2X} {O : Nat -> Prop} {k : Nat} {l l2 : List Hs} {mp : List Pr} {ix : Nat -> Nat} {Ls L2 : ey}
end
open Go Go.ChangeShapes Go.WideShapes Go.ChangeAt Go.RowKit Go.Proofs.YtfiljlifdlfkkaaGreatDoor
theorem AVU:fieldsOf P Cy=some [(Ef,0),(BM,1)]:=by kernel_rfl
theorem yi:fieldsOf P Cs=some [(BM,0),(BD,1),(BD,2),(BD,3),(Cy,4),(NQ,6),(BM,7),(BM,8),(BM,9),(BM,10),(lK,11)]:=by kernel_rfl
theorem AWw:P.cellsOf Cs=12/\P.cellsOf Cy=2/\P.cellsOf lK=1/\P.cellsOf Ef=1/\P.cellsOf NQ=1:=⟨by kernel_rfl,by kernel_rfl,by kernel_rfl,by kernel_rfl,by kernel_rfl⟩
theorem AWQ:P.underlying Ef=some (.slice CG):=by kernel_rfl
theorem AV5:P.underlying NQ=some (.slice DU):=by kernel_rfl
theorem AWn: ∃b,P.underlying Cs=some (.struct b):=by
 have a:=yi;unfold fieldsOf at a;split at a
 ·exact⟨_,by assumption⟩
 ·cases a
theorem AWc {e:Type}{M:Q7×J0->e}{f:World}{base:Nat}{v:J0}{N:DataW e}{ps:List MemPlace}(O:Value.okWide P f .any base Cs v)(Q:DataW.Trod M P f 0 (λ_=>true) true Cs v N ps):
  ∃(s:bN) (l:Unit),v=s.v/\True/\True:=by
 obtain⟨av,R⟩:=AWn;obtain⟨d,rfl,aw⟩:=okWide_struct R O;obtain⟨ax,g⟩:=Q;have S:(Value.agg d).cells.toList=d.toList:=rfl;rw[S] at g;obtain⟨T,m,ay,h,U,a⟩:=yh yi g;obtain⟨V,W,X,Y,Z⟩:=AWw;rw[V] at h;obtain⟨aa⟩:=d
 match aa,h with
 | [az,aA,aC,aD,ab,ac,ae,aE,aF,aG,aH,aI],_=>
  match T,U with
  | [aJ,aK,aL,aM,aN,aO,aP,aQ,aR,aS,aT],_=>
   have k0:=a 0 _ rfl;have i:=a 1 _ rfl;have j:=a 2 _ rfl;have k:=a 3 _ rfl;have n:=a 4 _ rfl;have o:=a 5 _ rfl;have p:=a 6 _ rfl;have q:=a 7 _ rfl;have r:=a 8 _ rfl;have t:=a 9 _ rfl;have u:=a 10 _ rfl;simp only[yc,rp,W,X,Z] at k0 i j k n o p q r t u;obtain⟨af,w,_,_⟩:=DataW.trod_int iY k0;obtain⟨ag,x,g1,_⟩:=DataW.trod_string nW i;obtain⟨ah,y,aU,_⟩:=DataW.trod_string nW j;obtain⟨ai,z,aV,_⟩:=DataW.trod_string nW k;obtain⟨aj,aW,aX,_,ak,A⟩:=yh AVU n;obtain⟨b,al⟩:=yg AV5 o;obtain⟨am,B,_,_⟩:=DataW.trod_int iY p;obtain⟨an,C,_,_⟩:=DataW.trod_int iY q;obtain⟨ao,D,_,_⟩:=DataW.trod_int iY r;obtain⟨ap,E,_,_⟩:=DataW.trod_int iY t;obtain⟨aq,F,_⟩:=DataW.trod_bool ya u
   match aj,ak with
   | [aY,aZ],_=>
    have G:=A 0 _ rfl;have H:=A 1 _ rfl;simp only[Y,rp] at G H;obtain⟨c,ar⟩:=yg AWQ G;obtain⟨I,au,_,_⟩:=DataW.trod_int iY H;have J: [ab]= [.slice c.p c.len c.cap]:=ar;have K: [ac]= [.int J9 I]:=au;have L: [ae]= [.slice b.p b.len b.cap]:=al;simp at w x y z J K L B C D E F;subst w x y z J K L B C D E F;exact⟨⟨af,ag,ah,ai,c,I,b,am,an,ao,ap,aq⟩,(),rfl,trivial,trivial⟩
end Go.Lf.G
