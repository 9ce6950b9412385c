/-
 Contracts: owners on the ring (chapter 11).
-/
import Derived.Test.YtfiljlifdlfkkaaGreatDoorLfZ2ToC1
import Derived.Test.YtfiljlifdlfkkaaGreatDoorLfU2ToX2
import Derived.Test.YtfiljlifdlfkkaaGreatDoorLfY7ToZ1
import Derived.Test.YtfiljlifdlfkkaaGreatDoorLfG1
import Derived.Test.YtfiljlifdlfkkaaGreatDoorLfKToGA
import Derived.WideKeyEntry
set_option maxRecDepth 100000
set_option linter.unusedVariables false
set_option linter.unusedSimpArgs false
open Go.IntKind renaming i64→J9,wrap→J8
open Go.Value renaming string→J7,int→J6,pointer→J5,slice→J4,bool→J3,tuple→J1
open Go.Obj renaming cells→J2
open Go renaming Value→J0,Addr→Q6,TypeId→Q7,FuncId→Q8,Program→Q1
open Go.Addr renaming add→Q9,mk→Q5
namespace Go.Lf.G
open Go
theorem js.mk {k:FloatKind}{b:aa}{a:Q6}{K:Nat×Nat->Prop}{n:Nat×Nat}(c:af b a=some (.complex k n.1 n.2))(d:K n):js k b a K:=⟨n,c,d⟩
theorem tL {c:ao}{a:aa}{x:Int}{b:A30}(d:b (J3 false) a):AA c P Hu #[J6 J9 x] a b:=by
 refine Wt ?_;unfold PS;have:(x != x)=false:=by simp
 rw[this];exact d
theorem tM {c:ao}{a:aa}{x:A31}{b:A30}(d:b (J3 false) a):AA c P F6 #[J7 x] a b:=by
 refine Rx ?_;unfold MB;have:(!bD x x)=false:=by rw[Bj];simp
 rw[this];exact d
def jX(x a:Int):Int:=if x<a then -1 else if a<x then 1 else 0
def kT(x a:A31):Int:=if aG x a then -1 else if x=a then 0 else 1
theorem AKK {f:ao}{d:aa}{x c:Int}{e:A30}(a:e (J6 J9 (jX x c)) d):AA f P JF #[J6 J9 x,J6 J9 c] d e:=by
 refine Tk ?_;unfold Mv;unfold jX at a;refine tL ⟨_,rfl,tL ⟨_,rfl,ae.no rfl (ae.no rfl ?_)⟩⟩;refine ae.intro (λb=>?_) (λb=>?_)
 ·rw[if_pos (of_decide_eq_true b)] at a;exact a
 ·rw[if_neg (of_decide_eq_false b)] at a;refine ae.intro (λb=>?_) (λb=>?_)
  ·have:c<x:=of_decide_eq_true b;rw[if_pos this] at a;exact a
  ·have: ¬c<x:=of_decide_eq_false b;rw[if_neg this] at a;exact a
theorem AJe {f:ao}{c:aa}{x d:A31}{e:A30}(a:e (J6 J9 (kT x d)) c):AA f P HY #[J7 x,J7 d] c e:=by
 refine Ql ?_;unfold Ko;unfold kT at a;refine tM ⟨_,rfl,tM ⟨_,rfl,ae.no rfl (ae.no rfl ?_)⟩⟩;refine ae.intro (λb=>?_) (λb=>?_)
 ·rw[if_pos b] at a;exact a
 ·rw[if_neg (by simp[b])] at a;rw[b,Hb,Bj];refine ae.intro (λb=>?_) (λb=>?_)
  ·rw[if_neg (by simpa using b)] at a;exact a
  ·rw[if_pos (by simpa using b)] at a;exact a
theorem AVb {o:ao}{e:aa}{s:Sl}{c f:Int}{k:A30}(v:View GI e s [c,f])(b:k (J6 J9 (if c≠0 then c else f)) e):AA o P Nb #[J4 s.p s.len s.cap] e k:=by
 refine AAw ?_;unfold TN;have h:s.len=2:=v.len;refine Loop.rule (λm x l=> ∃i:Nat,x=((i:Int),())/\l=e/\m=2-i/\(i=0\/(i=1/\c=0)\/(i=2/\c=0/\f=0))) ?_ ⟨0,rfl,rfl,rfl,.inl rfl⟩;rintro K m _ l ⟨i,rfl,p,rfl,hi⟩ n;subst p;rcases hi with rfl|⟨rfl,g⟩|⟨rfl,g,hd⟩
 ·refine ae.yes (by rw[h];rfl) (v.idx (i:=0) (x:=c) rfl λa _ j=>AC.mk j.int ?_);refine ae.intro (λd=>?_) (λd=>?_)
  ·rw[if_pos (by simpa using d)] at b;exact b
  ·exact n 1 _ _ (by omega) ⟨1,rfl,rfl,rfl,.inr (.inl ⟨rfl,by simpa using d⟩)⟩
 ·rw[if_neg (by simpa using g)] at b;refine ae.yes (by rw[h];rfl) (v.idx (i:=1) (x:=f) rfl λa _ j=>AC.mk j.int ?_);refine ae.intro (λd=>?_) (λd=>?_)
  ·exact b
  ·exact n 0 _ _ (by omega) ⟨2,rfl,rfl,rfl,.inr (.inr ⟨rfl,g,by simpa using d⟩)⟩
 ·rw[if_neg (by simpa using g),hd] at b;exact ae.no (by rw[h];rfl) b
theorem ARc(key a b:A31):decide ((if jX (FX key a:Int) (FX key b:Int)≠0 then jX (FX key a:Int) (FX key b:Int) else kT a b)<0)=cF key a b:=by
 unfold cF jX kT;by_cases d:FX key a<FX key b
 ·simp[d]
 ·by_cases e:FX key b<FX key a
  ·have c: ¬FX key a=FX key b:=by omega
   simp[d,e,c]
  ·have c:FX key a=FX key b:=by omega
   simp only[c,Int.lt_irrefl,if_false,ne_eq,not_true_eq_false,Nat.lt_irrefl,decide_false,Hb,decide_true,Ek];cases g:aG a b
   ·by_cases f:a=b<;>simp[f]
   ·simp
theorem AT9 {i:ao}{c:aa}{b:Nat}{T:Q7}{fr:Nat×Nat}{key x a:A31}{p:Nat×Nat}{d:A30}(j:c[b]? =some (J2 #[.complex .f64 p.1 p.2] T fr))(e:CP p (Hl key))(k:x.size<=1099511627776)(m:a.size<=1099511627776)
  (n: ∀f h,decide (f<0)=cF key x a->Ext c h->d (J6 J9 f) h):AA i P LC #[J7 x,J7 a,Ar b] c d:=by
 refine ACD ?_;unfold Ur;have g:af c ⟨b,0,none⟩=some (.complex .f64 p.1 p.2):=AO j rfl;refine aA (js.mk g (aA (js.mk g (pb k λo q=>⟨o,rfl,g,g,?_⟩))));refine tK e q ⟨_,rfl,g,pb m λr t=>⟨r,rfl,g,?_⟩⟩;refine tK e t ⟨_,rfl,AKK ⟨_,rfl,AJe ⟨_,rfl,aj.mk λu _ v w z=>?_⟩⟩⟩;have y:=(Own.lit (E:=GI) (l:= [jX (FX key x:Int) (FX key a:Int),kT x a]) v rfl (by simp[maxLen])).view;exact AVb (s:=⟨some ⟨c.size,0,none⟩,2,2⟩) y ⟨_,rfl,n _ u (ARc key x a) w⟩
abbrev VJ(key:A31):A31->A31->A31:=λm a=>if cF key a m then a else m
theorem AK9 {w:ao}{e:aa}{b:Nat}{T:Q7}{fr:Nat×Nat}{s:Sl}{l:List A31}{key:A31}{p:Nat×Nat}{q:A30}(y:e[b]? =some (J2 #[.complex .f64 p.1 p.2] T fr))(z:CP p (Hl key))(v:View Ih e s l)(A:l≠ [])
  (r: ∀x∈l,x.size<=1099511627776) (B:l.length<=1099511627776) (C: ∀t,Ext e t->q (J7 (LH key l)) t):AA w P Du #[J4 s.p s.len s.cap,.func (.func LC) #[] #[Ar b]] e q:=by
 refine Jn ?_;unfold Fb;obtain⟨d,c,rfl⟩: ∃f c,l=f::c:=by cases l with|nil=>exact absurd rfl A|cons f c=>exact⟨f,c,rfl⟩
 refine ah.mk λK D=>?_
 have Z:c.length+1<=1099511627776:=B;have E:s.len=c.length+1:=by have:=v.len;simpa using this
 refine ae.no (by rw[E,decide_eq_false_iff_not];omega) (D _ _ ?_);refine v.idx (i:=0) (x:=d) rfl λab _ F=>AL.mk F.str ?_
 refine Loop.rule (λm x n=> ∃a:Nat,x=((c.take a).foldl (VJ key) d,((a+1:Nat):Int),())/\m=c.length-a/\a<=c.length/\Ext e n) ?_ ⟨0,rfl,rfl,by omega,Mod.refl⟩;rintro ac m _ n ⟨a,rfl,rfl,af,j⟩ G;have H: ∀a,(c.take a).foldl (VJ key) d∈d::c:=λa=>by
  rcases(Uz key (c.take a) d).1 with o|o
  ·have I:(c.take a).foldl (VJ key) d=d:=o;rw[I];exact B8
  ·exact AI _ (DA o)
 refine ae.intro (λg=>?_) (λg=>?_)
 ·have h:a<c.length:=by have J:((a+1:Nat):Int)<((s.len:Nat):Int):=of_decide_eq_true g;omega
  have k:(d::c)[a+1]? =some c[a]:=by simp[h]
  generalize L:c[a]=f at k;have M:f∈d::c:=AG k;refine ah.mk λN O=>?_
  have Q:=v.ext j;refine Q.idx (i:=a+1) k λag _ R=>AL.mk R.str ?_
  have S:=j.ag y (λe=>e);refine Er.func (first:= #[]) (bN:= #[Ar b]) (by kernel_rfl) ?_;refine AT9 S z (r f M) (r _ (H a)) λU V W X=>⟨U,rfl,?_⟩
  have u:=j.trans X;have next:(c.take (a+1)).foldl (VJ key) d=VJ key ((c.take a).foldl (VJ key) d) f:=by rw[AE,A2 h,L];simp[G3]
  have fin:N ((c.take (a+1)).foldl (VJ key) d,()) V:=O _ _ (by
   refine G (c.length-(a+1)) _ _ (by omega) ⟨a+1,?_,rfl,h,u⟩;dsimp only;rw[Ab (by omega)])
  rw[next] at fin;rw[W];unfold VJ at fin;refine ae.intro (λg=>?_) (λg=>?_)
  ·refine(v.ext u).idx (i:=a+1) k λai _ Y=>AL.mk Y.str ?_
   rw[if_pos g] at fin;exact fin
  ·rw[if_neg (by simp[g])] at fin;exact fin
 ·have h:a=c.length:=by have J: ¬((a+1:Nat):Int)<((s.len:Nat):Int):=of_decide_eq_false g;omega
  subst h;rw[CD];exact C n j
theorem AQr {i:ao}{a:aa}{s:Sl}{l:List A31}{key:A31}{d:A30}(v:View Ih a s l)(j: ∀x∈l,x.size<=1099511627776)(k:l.length<=1099511627776)(m:key.size<=1099511627776)
  (e: ∀f,Ext a f->d (J7 (LH key l)) f):AA i P SV #[J4 s.p s.len s.cap,J7 key] a d:=by
 refine AFM ?_;unfold Zp;refine ae.intro (λb=>?_) (λb=>?_)
 ·have:l= []:=by
   have g:((s.len:Nat):Int)=0:=by simpa using b
   exact CM (by have:=v.len;omega)
  subst this;exact e a Mod.refl
 ·have n:l≠ []:=by rintro rfl;have g:s.len=0:=v.len;rw[g] at b;simp at b
  refine pb m λp o=>⟨p,rfl,aj.mk λA _ q r B=>?_⟩
  refine ab.mk q (by simp) λt u w C=>?_
  have h:Ext a t:=r.then (w.ak λc _ D=> .inr (by omega));exact AK9 (p:=p) (by simpa using u) o (v.ext h) n j k λy z=>⟨_,rfl,e y (h.trans z)⟩
theorem AOI {F:ao}{f:aa}{s:Sl}{l:List A31}{key:A31}{w:A30}(v:View Ih f s l)(G: ∀x∈l,x.size<=1099511627776)(S:l.length<=1099511627776)(H:key.size<=1099511627776)
  (I:w (J7 (LH key l)) f):AA F P Jl #[J4 s.p s.len s.cap,J7 key] f w:=by
 refine VT ?_;unfold Ny;refine Loop.rule (λm x e=> ∃i:Nat,x=(LH key (l.take i),(if i=0 then(4096:Int) else(FX key (LH key (l.take i)):Int)),(i:Int),())/\e=f/\m=l.length-i/\i<=l.length) ?_ ⟨0,rfl,rfl,rfl,by omega⟩;rintro K m _ e ⟨i,rfl,o,rfl,hi⟩ J;subst o;refine ae.intro (λd=>?_) (λd=>?_)
 ·have p:i<l.length:=by simpa [v.len] using d
  have g:=A2 p;generalize l[i]=b at g;have y:l.take (i+1)=l.take i++ [b]:=by rw[AE,g];rfl
  refine ah.mk λA L=>?_
  refine v.idx g λa _ j=>AL.mk j.str ?_
  refine tE (G b (AG g)) ⟨_,rfl,tE H ⟨_,rfl,?_⟩⟩;have T:=Vr b;have U:=Vr key;have o:(J8 J9 ((J8 J9 ((Hl b:Int)-(Hl key:Int)))+(4096:Int))).tmod (4096:Int)=((FX key b:Nat):Int):=by rw[wrap_i64 (n:=(Hl b:Int)-(Hl key:Int)) (by omega) (by omega),wrap_i64 (by omega) (by omega),show(Hl b:Int)-(Hl key:Int)+4096=((Hl b+4096-Hl key:Nat):Int) by omega];exact(GW _ 4096).symm
  rw[o];have hd:FX key b<4096:=AQc _ _;have next: ∀k,k=LH key (l.take (i+1))->A (k,(FX key k:Int),()) e:=λk M=>L _ _ (by
   refine J (l.length-(i+1)) _ _ (by omega) ⟨i+1,?_,rfl,rfl,p⟩;dsimp only;rw[Ab (by omega),if_neg (by omega),M])
  refine ah.mk λq B=>?_
  have yes:LH key (l.take (i+1))=b->q (true,()) e:=λN=>B _ _ (ae.yes rfl (v.idx g λa _ j=>AL.mk j.str (next b N.symm)))
  dsimp only;by_cases r:i=0
  ·subst r;rw[if_pos rfl];refine ae.yes (by rw[decide_eq_true_eq];omega) (yes ?_);rw[y];rfl
  ·rw[if_neg r];obtain⟨z,h,O⟩: ∃z h,l.take i=z::h:=by
    cases f:l.take i with
    |nil=>
     have:=congrArg List.length f;rw[AD,Hc] at this;omega
    |cons z h=>exact⟨z,h,rfl⟩
   have t:LH key (l.take (i+1))=if cF key b (LH key (l.take i)) then b else LH key (l.take i):=by rw[y,O];show List.foldl (VJ key) z (h++ [b])=VJ key (List.foldl (VJ key) z h) b;rw[G3];rfl
   generalize LH key (l.take i)=c at*
   have no:cF key b c=false->q (false,()) e:=λu=>B _ _ (ae.no rfl (by
    rw[u] at t;show A (c,(if i=0 then(4096:Int) else(FX key c:Int)),()) e;rw[if_neg r];exact next c (by rw[t];rfl)))
   have C:cF key b c=true->q (true,()) e:=λu=>yes (by rw[t,if_pos u])
   refine ae.intro (λd=>?_) (λd=>?_)
   ·have Q:(FX key b:Int)<(FX key c:Int):=of_decide_eq_true d;exact C (by unfold cF;rw[decide_eq_true (by omega),Bool.true_or])
   ·have Q: ¬(FX key b:Int)<(FX key c:Int):=of_decide_eq_false d;refine ae.intro (λd=>?_) (λd=>?_)
    ·have R:(FX key b:Int)=(FX key c:Int):=by simpa using d
     refine v.idx g λa _ j=>AL.mk j.str ?_
     have D:cF key b c=aG b c:=by unfold cF;rw[decide_eq_false (by omega),Hb,decide_eq_true (by omega),Ek]
     cases E:aG b c
     ·exact no (by rw[D,E])
     ·exact C (by rw[D,E])
    ·have R: ¬(FX key b:Int)=(FX key c:Int):=by simpa using d
     refine no ?_;unfold cF;rw[decide_eq_false (by omega),Hb,decide_eq_false (by omega),G4]
 ·have p:i=l.length:=by simp[v.len] at d;omega
  dsimp only;rw[As (by omega)];exact I
theorem ATb {e:ao}{c:aa}{a:Int}{d:A30}(t:cW c)(i:a<=9223372036854775807)(f: ∀b,Ext c b->d (J7 ((⟨#[115,104,97,114,100,32]⟩:A31)++⟨(Lib.itoa (if(0:Int)>a then 0 else a)).toArray⟩)) b):
  AA e P VH #[J6 J9 a] c d:=by
 refine AHt ?_;unfold vR;refine WC t (by split<;>omega) (by split<;>omega) λb x=>⟨_,rfl,?_,f b x⟩
 have:=Lib.itoa_length_le (if(0:Int)>a then 0 else a) (by split<;>omega) (by split<;>omega);have g:ByteArray.size ⟨#[115,104,97,114,100,32]⟩=6:=rfl;have h:ByteArray.size ⟨(Lib.itoa (if(0:Int)>a then 0 else a)).toArray⟩=(Lib.itoa (if(0:Int)>a then 0 else a)).length:=by show Array.size _=_;simp
 rw[g,h,max_i64];omega
theorem AQp {e:ao}{c:aa}{a:Int}{d:A30}(t:cW c)(i:a<=9223372036854775807)(f: ∀b,Ext c b->d (J7 ((⟨#[115,104,97,114,100,32]⟩:A31)++⟨(Lib.itoa (if(0:Int)>a then 0 else a)).toArray⟩)) b):
  AA e P KR #[J6 J9 a] c d:=by
 refine WV ?_;unfold Ou;refine WC t (by split<;>omega) (by split<;>omega) λb x=>⟨_,rfl,?_,f b x⟩
 have:=Lib.itoa_length_le (if(0:Int)>a then 0 else a) (by split<;>omega) (by split<;>omega);have g:ByteArray.size ⟨#[115,104,97,114,100,32]⟩=6:=rfl;have h:ByteArray.size ⟨(Lib.itoa (if(0:Int)>a then 0 else a)).toArray⟩=(Lib.itoa (if(0:Int)>a then 0 else a)).length:=by show Array.size _=_;simp
 rw[g,h,max_i64];omega
def jY:A31:=⟨#[104,111,115,116]⟩
def cn(i:Nat):A31:=jY++Ad (Lib.decDigits i)
theorem pd {i b:Nat}(f:cn i=cn b):i=b:=by
 have c:=congrArg bl f;have d: ∀a,bl (cn a)= [104,111,115,116]++Lib.decDigits a:=λa=>by
  show(jY++Ad (Lib.decDigits a)).data.toList=_;rw[IS,LR];show [104,111,115,116]++(Ad (Lib.decDigits a)).data.toList=_;rw[show(Ad (Lib.decDigits a)).data.toList=Lib.decDigits a from Bw _]
 rw[d,d] at c;have g:Lib.decDigits i=Lib.decDigits b:=HP c;have e:=(WP i).2;rw[g,(WP b).2] at e;exact e.symm
theorem pg(i:Nat)(a:i<=1000):(cn i).size<=24:=by
 have b:(Lib.decDigits i).length<=20:=by rw[Lib.decDigits_length];exact Lib.nDigits_le20 i (by omega)
 unfold cn;rw[F0,AP];show 4+_<=_;omega
def ph(a:Nat):A31:=(⟨#[115,104,97,114,100,32]⟩:A31)++⟨(Lib.itoa (a:Int)).toArray⟩
def Kv(up:List Bool):List Nat:=(up.zipIdx.filter (·.1)).map (·.2)
theorem tN(up:List Bool)(b:Bool):Kv (up++ [b])=Kv up++if b then [up.length] else []:=by unfold Kv;rw[List.zipIdx_append];cases b<;>simp
theorem TB {up:List Bool}{i:Nat}:i∈Kv up↔up[i]? =some true:=by unfold Kv;simp[List.mk_mem_zipIdx_iff_getElem?]
def dC(up:List Bool)(a:Nat):A31:=LH (ph a) ((Kv up).map cn)
def Fx(up:List Bool)(a:Nat):Option Nat:=(Kv up).find? λi=>decide (cn i=dC up a)
theorem Gy {up:List Bool}{b i:Nat}(a:Fx up b=some i):up[i]? =some true/\cn i=dC up b:=
 by
 have a:(Kv up).find? (λi=>decide (cn i=dC up b))=some i:=a;have c:=LS a;exact⟨TB.1 (IH a),by simpa using c⟩
theorem Vv {up:List Bool}{a:Nat}(b:Fx up a=none):Kv up= []:=by
 refine Decidable.byContradiction λc=>?_
 obtain⟨d,-⟩:=AI2 (key:=ph a) (l:=(Kv up).map cn) (by simpa using c);obtain⟨i,hi,e⟩:=List.mem_map.1 d;have:=List.find?_eq_none.1 b i hi;exact this (decide_eq_true e)
theorem ASO {up:List Bool}{a i:Nat}(hi:up[i]? =some true)(d:cn i=dC up a):Fx up a=some i:=by
 cases b:Fx up a with
 |none=>
  have:=Vv b;have c:=TB.2 hi;rw[this] at c;cases c
 |some e=>
  have:=(Gy b).2;rw[pd (this.trans d.symm)]
theorem tO {up:List Bool}{a:Nat}(b:Kv up= []):Fx up a=none:=by unfold Fx;rw[b];rfl
theorem ASH {up:List Bool}{a i:Nat}(d:Fx up a=some i):dC up a≠(⟨#[]⟩:A31):=λe=>by
 have b:=(Gy d).2;rw[e] at b;have c:=congrArg ByteArray.size b;unfold cn at c;rw[F0] at c;have f:jY.size=4:=rfl;have g:(⟨#[]⟩:A31).size=0:=rfl;omega
def eg:Option Nat->Int
 |none=> -1
 |some i=>i
end Go.Lf.G
namespace Go.Lf
open G
open Go
abbrev bj.V(s:bj)(a b c:Sl):bE:=⟨a,s.prog.aw,s.status,s.next,s.aP,s.asked,s.taken,s.fresh,b,c,s.cancel,s.aI⟩
end Go.Lf
namespace Go.Lf.G
open Go
structure Ji (h:aa) (s:bj) (a b c:Sl):Prop where
 steps:View UT h a s.prog.steps
 aC:View nX h b s.aC
 ar:View nY h c s.ar
theorem Ji.mod {g:Nat->Prop}{h j:aa}{s:bj}{a b c:Sl}(i:Ji h s a b c)(m:Mod g h j)(k: ∀x,a.ag=some x-> ¬g x)(l: ∀x,b.ag=some x-> ¬g x)(n: ∀x,c.ag=some x-> ¬g x):Ji j s a b c:=
 ⟨i.steps.mod m λx d f=>k x d f,i.aC.mod m λx d f=>l x d f,i.ar.mod m λx d f=>n x d f⟩
theorem Ji.ext {h f:aa}{s:bj}{a b c:Sl}(d:Ji h s a b c)(x:Ext h f):Ji f s a b c:=⟨d.steps.ext x,d.aC.ext x,d.ar.ext x⟩
structure D3 (h hh:aa) (T0 T1 T2:Q7) (x:bE) (e:Ev) (y:bE):Prop where
 ext:Ext h hh
 b0:hh[h.size]? =some (J2 x.c T0 (0,0))
 b1:hh[h.size+1]? =some (J2 e.c T1 (0,0))
 b2:hh[h.size+2]? =some (J2 y.c T2 (0,0))
section
variable {A : ao} {h hh : aa} {T0 T1 T2 : Q7} {x y : bE} {e : Ev} {R : A30}
theorem pN {K:Nat->Nat->Nat->aa->Prop}(m: ∀hh,D3 h hh T0 T1 T2 x e y->K h.size (h.size+1) (h.size+2) hh):
  aj h (J2 x.c T0) λb f=>aj f (J2 e.c T1) λn g=>aj g (J2 y.c T2) λo a=>K b n o a:=by
 refine aj.mk λf _ p q c=>aj.mk λg _ i j k=>aj.mk λa _ l d r=>?_
 rw[c] at i;rw[k,c] at l;have:=m a ⟨(q.trans j).trans d,d.ag (j.ag p (λh=>h)) (λh=>h),d.ag i (λh=>h),l⟩;rw[k,c];exact this
theorem D3.on {b:aa}(a:D3 h hh T0 T1 T2 x e y)(m:Ext hh b):D3 h b T0 T1 T2 x e y:=⟨a.ext.trans m,m.ag a.b0 (λh=>h),m.ag a.b1 (λh=>h),m.ag a.b2 (λh=>h)⟩
theorem D3.set {c:Nat}{v:J0}{x':bE}{K:aa->Prop}(a:D3 h hh T0 T1 T2 x e y)(d:c<12)(f:x.c.setIfInBounds c v=x'.c)(g: ∀h',D3 h h' T0 T1 T2 x' e y->K h'):ab hh ((⟨h.size,0,none⟩:Q6).add c) v K:=
 ab.bT a.b0 d f λh' i m s=>g h' ⟨a.ext.more m λb j=>by subst j;exact A0 _,i,m.ag a.b1 (by omega),m.ag a.b2 (by omega)⟩
theorem D3.hP {j:Nat}{v:J0}{x':bE}{K:aa->Prop}(d:D3 h hh T0 T1 T2 x e y)(f:j<12)(g:x.c.setIfInBounds j v=x'.c)(i: ∀a,D3 h a T0 T1 T2 x' e y->Mod (λc=>c=h.size) hh a->K a):ab hh ((⟨h.size,0,none⟩:Q6).add j) v K:=
 ab.bT d.b0 f g λa k m s=>i a ⟨d.ext.more m λb l=>by subst l;exact A0 _,k,m.ag d.b1 (by omega),m.ag d.b2 (by omega)⟩ m
theorem D3.oO {v:J0}{x':bE}{K:aa->Prop}(b:D3 h hh T0 T1 T2 x e y)(d:x.c.setIfInBounds 0 v=x'.c)(f: ∀a,D3 h a T0 T1 T2 x' e y->Mod (λc=>c=h.size) hh a->K a):ab hh (⟨h.size,0,none⟩:Q6) v K:=
 b.hP (j:=0) (by decide) d f
theorem D3.cZ {j:Nat}{v:J0}(a:D3 h hh T0 T1 T2 x e y)(b:x.c[j]? =some v):af hh ((⟨h.size,0,none⟩:Q6).add j)=some v:=AB a.b0 b
theorem D3.bT {j:Nat}{v:J0}(a:D3 h hh T0 T1 T2 x e y)(b:e.c[j]? =some v):af hh ((⟨h.size+1,0,none⟩:Q6).add j)=some v:=AB a.b1 b
theorem JC {h:aa}{b:Nat}{T:Q7}{fr:Nat×Nat}{x:bE}(a:h[b]? =some (J2 x.c T fr)):Cells h ⟨b,0,none⟩ x.l:=Cr a rfl
theorem RJ {h:aa}{b:Nat}{T:Q7}{fr:Nat×Nat}{x:Ev}(a:h[b]? =some (J2 x.c T fr)):Cells h ⟨b,0,none⟩ x.l:=Cr a rfl
theorem Pf(x y:bE):gK y.c 0 x.l=x.c:=rfl
theorem mP(x y:Ev):gK y.c 0 x.l=x.c:=rfl
theorem D3.ja(a:D3 h hh T0 T1 T2 x e y):af hh (⟨h.size,0,none⟩:Q6)=some (J4 x.steps.p x.steps.len x.steps.cap)/\af hh ((⟨h.size,0,none⟩:Q6).add 1)=some (J6 J9 x.aw)/\af hh ((⟨h.size,0,none⟩:Q6).add 2)=some (J6 J9 x.status)/\af hh ((⟨h.size,0,none⟩:Q6).add 3)=some (J6 J9 x.next)/\af hh ((⟨h.size,0,none⟩:Q6).add 4)=some (J6 J9 x.aP)/\af hh ((⟨h.size,0,none⟩:Q6).add 5)=some (J6 J9 x.asked)/\af hh ((⟨h.size,0,none⟩:Q6).add 6)=some (J6 J9 x.taken)/\af hh ((⟨h.size,0,none⟩:Q6).add 7)=some (J3 x.fresh)/\af hh ((⟨h.size,0,none⟩:Q6).add 8)=some (J4 x.aC.p x.aC.len x.aC.cap)/\af hh ((⟨h.size,0,none⟩:Q6).add 9)=some (J4 x.ar.p x.ar.len x.ar.cap)/\af hh ((⟨h.size,0,none⟩:Q6).add 10)=some (J3 x.cancel)/\af hh ((⟨h.size,0,none⟩:Q6).add 11)=some (J3 x.aI):=
 ⟨a.cZ (j:=0) rfl,a.cZ (j:=1) rfl,a.cZ (j:=2) rfl,a.cZ (j:=3) rfl,a.cZ (j:=4) rfl,a.cZ (j:=5) rfl,a.cZ (j:=6) rfl,a.cZ (j:=7) rfl,a.cZ (j:=8) rfl,a.cZ (j:=9) rfl,a.cZ (j:=10) rfl,a.cZ (j:=11) rfl⟩
theorem D3.ga {K:bE->Prop}(a:D3 h hh T0 T1 T2 x e y)(b:K x):Bg hh ⟨h.size,0,none⟩ K:=Bg.mk x (JC a.b0) b
theorem D3.oP {K:Ev->Prop}(a:D3 h hh T0 T1 T2 x e y)(b:K e):NV hh ⟨h.size+1,0,none⟩ K:=NV.mk e (RJ a.b1) b
theorem D3.sH {z:bE}{K:aa->Prop}(d:D3 h hh T0 T1 T2 x e y)(g: ∀a,D3 h a T0 T1 T2 z e y->Mod (λc=>c=h.size) hh a->K a):aD hh ⟨h.size,0,none⟩ z.l K:=
 aD.mk d.b0 (A0 12) λa f m s=>g a ⟨d.ext.more m λb i=>by subst i;exact A0 _,(by rw[Pf] at f;exact f),m.ag d.b1 (by omega),m.ag d.b2 (by omega)⟩ m
theorem D3.tell {z:bE}{K:bE->aa->Prop}(c:D3 h hh T0 T1 T2 x e y)(g: ∀a,Ext h a->K z a):aD hh ⟨h.size+2,0,none⟩ z.l λd=>Bg d ⟨h.size+2,0,none⟩ λi=>K i d:=
 aD.mk c.b2 (A0 12) λa f m s=>Bg.mk z (JC (by rw[Pf] at f;exact f)) (g a (c.ext.more m λb j=>by subst j;omega))
theorem D3.iD {z:bE}{K:bE->aa->Prop}(d:D3 h hh T0 T1 T2 x e y)(i: ∀a,Ext h a->Mod (λc=>c=h.size+2) hh a->K z a):aD hh ⟨h.size+2,0,none⟩ z.l λf=>Bg f ⟨h.size+2,0,none⟩ λj=>K j f:=
 aD.mk d.b2 (A0 12) λa g m s=>Bg.mk z (JC (by rw[Pf] at g;exact g)) (i a (d.ext.more m λb k=>by subst k;omega) m)
theorem D3.ret {K:bE->aa->Prop}(a:D3 h hh T0 T1 T2 x e y)(d: ∀b,Ext h b->K x b):Bg hh ⟨h.size,0,none⟩ λt=>aD hh ⟨h.size+2,0,none⟩ t.l λc=>Bg c ⟨h.size+2,0,none⟩ λf=>K f c:=
 a.ga (a.tell d)
theorem D3.oQ {K:bE->aa->Prop}(b:D3 h hh T0 T1 T2 x e y)(f: ∀a,Ext h a->Mod (λc=>c=h.size+2) hh a->K x a):Bg hh ⟨h.size,0,none⟩ λt=>aD hh ⟨h.size+2,0,none⟩ t.l λd=>Bg d ⟨h.size+2,0,none⟩ λg=>K g d:=
 b.ga (b.iD f)
def jw(a:Int):Prop:=a<6\/12<=a
theorem AJt {s:bj}{a b c:Sl}(T:2<=e.kind/\e.kind<=5)(C: ∀n,Ext h n->R (J1 #[(((Dr s e).getD s).V a b c).v,J3 (Dr s e).isSome]) n):AA A P MZ #[(s.V a b c).v,e.v] h R:=by
 refine Yv ?_;unfold RF;refine pN λH d=>?_
 refine ah.mk λK I=>ah.mk λJ L=>?_
 have v: ∀ {t:bj} {hh:aa},D3 h hh BN BI BN (t.V a b c) e bE.z->Dr s e=some t->K () hh:=λ{t hh} d hd=>by
  refine I _ _ (d.ret λn x=>?_);have:=C n x;rw[hd] at this;exact this
 have no: ∀ {hh:aa},D3 h hh BN BI BN (s.V a b c) e bE.z->Dr s e=none->Bg hh ⟨h.size,0,none⟩ λt=>aD hh ⟨h.size+2,0,none⟩ t.l λD=>Bg D ⟨h.size+2,0,none⟩ λM=>R (J1 #[M.v,J3 false]) D:=λ{hh} d hd=>by
  refine d.ret λn x=>?_
  have:=C n x;rw[hd] at this;exact this
 have key: ∀(o:Bool),(e.kind=2->(o=true↔s.asked=0/\s.taken=0/\s.fresh=true))->(e.kind≠2->o=false)->J (o,()) H:=λo E N=>by
  refine L _ _ (ae.intro (λk=>?_) (λk=>?_))
  ·have k:o=true:=k;have g:e.kind=2:=Decidable.byContradiction λh=>by rw[N h] at k;cases k
   refine AC.mk (d.bT (j:=0) rfl) (d.set (x':=({s with asked:=e.id}:bj).V a b c) (by decide) rfl λz m=>v m ?_);unfold Dr;rw[if_pos g,if_pos ((E g).1 k)]
  ·have k:o=false:=k;refine ah.mk λU F=>AC.mk (d.bT (j:=1) rfl) (ae.intro (λi=>?_) (λi=>?_))
   ·have i:e.kind=3:=by simpa using i
    refine AC.mk (d.cZ (j:=5) rfl) (AC.mk (d.bT (j:=3) rfl) (F _ _ (ae.intro (λf=>?_) (λf=>?_))))
    ·have f:s.asked=e.ref:=by simpa using f
     refine AC.mk (d.bT (j:=0) rfl) (d.set (x':=({s with asked:=0}:bj).V a b c) (by decide) rfl λz m=>⟨m.bT (j:=0) rfl,?_⟩);refine m.set (x':=({s with asked:=0,taken:=e.id}:bj).V a b c) (by decide) rfl λO B=>B.set (x':=({s with asked:=0,taken:=e.id,fresh:=false}:bj).V a b c) (by decide) rfl λV Q=>v Q ?_
     unfold Dr;rw[if_neg (by omega),if_pos i,if_pos f]
    ·have f:s.asked≠e.ref:=by simpa using f
     refine ah.mk λS w=>AC.mk (d.bT (j:=1) rfl) (ae.no (by simp[i]) (w _ _ (ae.no rfl ?_)))
     refine ah.mk λG p=>AC.mk (d.bT (j:=1) rfl) (ae.no (by simp[i]) (p _ _ (ae.no rfl (no d ?_))))
     unfold Dr;rw[if_neg (by omega),if_pos i,if_neg f]
   ·have i:e.kind≠3:=by simpa using i
    refine F _ _ (ae.no rfl (ah.mk λS w=>AC.mk (d.bT (j:=1) rfl) (ae.intro (λl=>?_) (λl=>?_))))
    ·have l:e.kind=4:=by simpa using l
     refine AC.mk (d.cZ (j:=6) rfl) (AC.mk (d.bT (j:=3) rfl) (w _ _ (ae.intro (λf=>?_) (λf=>?_))))
     ·have f:s.taken=e.ref:=by simpa using f
      refine d.set (x':=({s with taken:=0}:bj).V a b c) (by decide) rfl λz m=>v m ?_
      unfold Dr;rw[if_neg (by omega),if_neg i,if_pos l,if_pos f]
     ·have f:s.taken≠e.ref:=by simpa using f
      refine ah.mk λG p=>AC.mk (d.bT (j:=1) rfl) (ae.no (by simp[l]) (p _ _ (ae.no rfl (no d ?_))))
      unfold Dr;rw[if_neg (by omega),if_neg i,if_pos l,if_neg f]
    ·have l:e.kind≠4:=by simpa using l
     refine w _ _ (ae.no rfl (ah.mk λG p=>AC.mk (d.bT (j:=1) rfl) (ae.intro (λu=>?_) (λu=>?_))))
     ·have u:e.kind=5:=by simpa using u
      refine AC.mk (d.cZ (j:=6) rfl) (AC.mk (d.bT (j:=3) rfl) (p _ _ (ae.intro (λf=>?_) (λf=>?_))))
      ·have f:s.taken=e.ref:=by simpa using f
       refine d.set (x':=({s with taken:=0}:bj).V a b c) (by decide) rfl λz m=>m.set (x':=({s with taken:=0,fresh:=true}:bj).V a b c) (by decide) rfl λO B=>v B ?_
       unfold Dr;rw[if_neg (by omega),if_neg i,if_neg l,if_pos f]
      ·have f:s.taken≠e.ref:=by simpa using f
       refine no d ?_;unfold Dr;rw[if_neg (by omega),if_neg i,if_neg l,if_neg f]
     ·have u:e.kind≠5:=by simpa using u
      have g:e.kind=2:=by omega
      refine p _ _ (ae.no rfl (no d ?_));unfold Dr;rw[if_pos g,if_neg λh=>by rw[(E g).2 h] at k;cases k]
 refine AC.mk (d.bT (j:=1) rfl) (ae.intro (λg=>?_) (λg=>key _ (λh=>by simp[h] at g) λ_=>rfl));have g:e.kind=2:=by simpa using g
 refine AC.mk (d.cZ (j:=5) rfl) (ae.intro (λq=>?_) (λq=>key _ (λ_=>by simp at q;simp[q]) λh=>absurd g h));have q:s.asked=0:=by simpa using q
 refine AC.mk (d.cZ (j:=6) rfl) (ae.intro (λr=>?_) (λr=>key _ (λ_=>by simp at r;simp[r]) λh=>absurd g h));have r:s.taken=0:=by simpa using r
 exact Aa.mk (d.cZ (j:=7) rfl) (key _ (λ_=>by simp[q,r]) λh=>absurd g h)
theorem Yb {s:bj}{a b c:Sl}{d:Int}(k: ∀g,Ext h g->R ((gY s d).V a ⟨none,0,0⟩ ⟨none,0,0⟩).v g):AA A P Ig #[(s.V a b c).v,J6 J9 d] h R:=by
 refine AEU ?_;unfold Xb;refine aj.mk λJ _ l n K=>aj.mk λL _ o i M=>?_
 have p:=i.ag l (λh=>h);refine ab.bT (dT:=(({s with status:=d}:bj).V a b c).c) p (of_decide_eq_true rfl) rfl λN q r _=>?_
 refine ab.bT (dT:=(({s with status:=d,asked:=0}:bj).V a b c).c) q (of_decide_eq_true rfl) rfl λO t u _=>?_
 refine ab.bT (dT:=(({s with status:=d,asked:=0,taken:=0}:bj).V a b c).c) t (of_decide_eq_true rfl) rfl λQ v w _=>?_
 refine ab.bT (dT:=(({s with status:=d,asked:=0,taken:=0,fresh:=false}:bj).V a b c).c) v (of_decide_eq_true rfl) rfl λS z B _=>?_
 refine ab.bT (dT:=(({s with status:=d,asked:=0,taken:=0,fresh:=false}:bj).V a ⟨none,0,0⟩ c).c) z (of_decide_eq_true rfl) rfl λT C D _=>?_
 refine ab.bT (dT:=(({s with status:=d,asked:=0,taken:=0,fresh:=false}:bj).V a ⟨none,0,0⟩ ⟨none,0,0⟩).c) C (of_decide_eq_true rfl) rfl λU E F _=>?_
 have m:=((((r.trans u).trans w).trans B).trans D).trans F;have G:=m.ag o (by omega);refine Bg.mk (({s with status:=d,asked:=0,taken:=0,fresh:=false}:bj).V a ⟨none,0,0⟩ ⟨none,0,0⟩) (JC E) ?_;refine aD.mk G (A0 12) λH j I V=>Bg.mk _ (JC (by rw[Pf] at j;exact j)) (k H ?_)
 exact((n.trans i).more m λc f=>by subst f;exact A0 _).more I λc f=>by subst f;omega
theorem pO {s:bj}{a b c:Sl}(k:b.len=s.aC.length)(l: ∀j,Ext h j->R (J3 (decide (Pb s))) j):AA A P LV #[(s.V a b c).v] h R:=by
 refine AFS ?_;unfold vG;refine aj.mk λm _ i n o=>?_
 have g:=l m n;refine AC.mk (AB i rfl) (ae.intro (λd=>?_) (λd=>?_))
 ·have d:s.asked=0:=by simpa using d
  refine AC.mk (AB i rfl) (ae.intro (λf=>?_) (λf=>?_))
  ·have f:s.taken=0:=by simpa using f
   refine AV.mk (s:=b) (AB i rfl) ?_;have e:decide (Pb s)=(((b.len:Nat):Int)==(0:Int)):=by rw[k,DH];simp[Pb,d,f,To]
   rw[e] at g;exact g
  ·have f:s.taken≠0:=by simpa using f
   rw[show decide (Pb s)=false from by simp[Pb,f]] at g;exact g
 ·have d:s.asked≠0:=by simpa using d
  rw[show decide (Pb s)=false from by simp[Pb,d]] at g;exact g
end
end Go.Lf.G
namespace Go.Lf
open Go
structure Cz (s:bj) (n:Nat):Prop where
 aC:s.aC.length<=n
 ar:s.ar.length<=n
 steps:s.prog.steps.length<=16
 aw:0<=s.prog.aw/\s.prog.aw<=16000
 aP:0<=s.aP/\s.aP<=1099511627776
 next:0<=s.next/\s.next<=501
 st:0<=s.status/\s.status<=4
 waits: ∀x∈s.prog.steps,0<=x.wait/\x.wait<=1000
theorem Cz.zero:Cz SC 0:=⟨by decide,by decide,by decide,by decide,by decide,by decide,by decide,λx a=>by cases a⟩
theorem ASE {x:bR}(a:NL x=true):0<=x.wait/\x.wait<=1000:=by
 unfold NL at a
 repeat' split at a
 all_goals first|(simp only[A3,CH,decide_eq_true_eq,Bb] at a;omega)|cases a
theorem SN {a:Ev}(d:Ea a=true):(1<=a.kind/\a.kind<=18)/\(1<=a.id/\a.id<=500)/\(0<=a.tick/\a.tick<=1099511627776)/\(a.kind=1-> ∃p,JO (bl a.data)=some p/\F3 p=true)/\(a.kind=12->Am a.data=true):=by
 unfold Ea at d;rw[A3] at d;obtain⟨c,b⟩:=d;simp only[Ej,A3] at c;refine⟨Bb.1 c.1.1.1.1.1.1.1,Bb.1 c.1.1.1.1.1.1.2,Bb.1 c.1.1.1.1.1.2,λe=>?_,λe=>?_⟩
 ·unfold KN at b;rw[if_pos e] at b;obtain⟨p,f⟩:=Option.isSome_iff_exists.1 b;exact⟨p,f,(xY f).1⟩
 ·unfold KN at b;rw[if_neg (by omega),if_pos e] at b;exact b
theorem yY {p:bK}(a:F3 p=true):p.steps.length<=16/\(0<=p.aw/\p.aw<=16000)/\ ∀x∈p.steps,NL x=true:=by simp only[F3,A3,decide_eq_true_eq,Fk] at a;exact⟨a.1.1,Bb.1 a.1.2,a.2⟩
structure lM (s t:bj):Prop where
 prog:t.prog=s.prog
 next:t.next=s.next
 aP:t.aP=s.aP
theorem Qs {s t:bj}{b:Ev}(a:Dr s b=some t):lM s t/\t.aC=s.aC/\t.ar=s.ar/\t.status=s.status:=by
 unfold Dr at a
 repeat' split at a
 all_goals first|(cases a;exact⟨⟨rfl,rfl,rfl⟩,rfl,rfl,rfl⟩)|cases a
theorem yZ {s t:bj}{b:Ev}(a:Ka s b=some t):lM s t/\(t.aC=s.aC\/t.aC= [])/\(t.ar=s.ar\/t.ar= [])/\(t.status=s.status\/(1<=t.status/\t.status<=4)):=by
 unfold Ka at a
 repeat' split at a
 all_goals first|(cases a;first|exact⟨⟨rfl,rfl,rfl⟩,.inl rfl,.inl rfl,.inl rfl⟩|exact⟨⟨rfl,rfl,rfl⟩,.inr rfl,.inr rfl,.inr (by simp only[gY];omega)⟩)|cases a
theorem AOG {s t:bj}{b:Ev}(a:rB s b=some t):lM s t/\t.aC.length<=s.aC.length+1/\t.ar=s.ar/\t.status=s.status:=by
 unfold rB at a;split at a
 ·obtain⟨x,c,a⟩:=Option.bind_eq_some_iff.1 a;split at a
  ·cases a
  ·cases a;exact⟨⟨rfl,rfl,rfl⟩,by simp,rfl,rfl⟩
 ·obtain⟨i,hi,a⟩:=Option.bind_eq_some_iff.1 a;obtain⟨d,e,a⟩:=Option.bind_eq_some_iff.1 a
  repeat' split at a
  all_goals first|(cases a;exact⟨⟨rfl,rfl,rfl⟩,by first|(simp only[G0];omega)|(have:=A0s s.aC i;simp only;omega),rfl,rfl⟩)|cases a
theorem ALl {s t:bj}{b:Ev}(a:rC s b=some t):lM s t/\t.aC=s.aC/\t.ar.length<=s.ar.length+1/\t.status=s.status:=by
 unfold rC at a;split at a
 ·obtain⟨x,c,rfl⟩:=Option.map_eq_some_iff.1 a;exact⟨⟨rfl,rfl,rfl⟩,rfl,by simp,rfl⟩
 ·obtain⟨i,hi,rfl⟩:=Option.map_eq_some_iff.1 a;exact⟨⟨rfl,rfl,rfl⟩,rfl,by have:=A0s s.ar i;simp only;omega,rfl⟩
theorem ALd {s t:bj}{g:Ev}(a:Ta s g=some t): ∃u:bj,t= {u with next:=s.next+1}/\lM s u/\u.aC.length<=s.aC.length+1/\u.ar.length<=s.ar.length+1/\(u.status=s.status\/(1<=u.status/\u.status<=4)):=by
 unfold Ta at a;obtain⟨u,b,rfl⟩:=Option.map_eq_some_iff.1 a;refine⟨u,rfl,?_⟩;split at b
 ·obtain⟨c,d,e,f⟩:=Qs b;exact⟨c,by rw[d];omega,by rw[e];omega,.inl f⟩
 ·split at b
  ·obtain⟨c,d,e,f⟩:=AOG b;exact⟨c,d,by rw[e];omega,.inl f⟩
  ·split at b
   ·obtain⟨c,d,e,f⟩:=ALl b;exact⟨c,by rw[d];omega,e,.inl f⟩
   ·obtain⟨c,d,e,f⟩:=yZ b;exact⟨c,by rcases d with a|a<;>rw[a]<;>simp,by rcases e with a|a<;>rw[a]<;>simp,f⟩
theorem Ug {s:bj}{c:Ev}{g:Nat}(b:Cz s g)(a:(Bf s c).1=0):Cz (Bf s c).2 (g+1):=by
 have ok:=RS a;obtain⟨w,hi,j,k,_⟩:=SN ok;unfold Bf at a ⊢;rw[if_neg (by simp[ok])] at a ⊢;split at a
 ·rename_i f;rw[if_pos f];split at a
  ·rename_i d;rw[if_pos d];obtain⟨p,l,m⟩:=k d.1;obtain⟨n,o,q⟩:=yY m;show Cz (YJ c) _;unfold YJ;rw[l,HR];exact⟨A6 _,A6 _,n,o,j,by show(0:Int)<=2/\(2:Int)<=501;omega,by show(0:Int)<=0/\(0:Int)<=4;omega,λx r=>ASE (q x r)⟩
  ·cases a
 ·rename_i f;rw[if_neg f];split at a
  ·cases a
  ·rename_i d;rw[if_neg d];split at a
   ·cases a
   ·rename_i h;rw[if_neg h];have y:c.id=s.next:=by simpa using h
    cases i:Ta s c with
    |none=>rw[i] at a;cases a
    |some t=>
     obtain⟨u,rfl,e,z,A,v⟩:=ALd i;have B:=b.aC;have C:=b.ar;exact⟨by show u.aC.length<=_;omega,by show u.ar.length<=_;omega,by show u.prog.steps.length<=_;rw[e.prog];exact b.steps,by show 0<=u.prog.aw/\_;rw[e.prog];exact b.aw,by show 0<=u.aP/\_;rw[e.aP];exact b.aP,by show 0<=s.next+1/\s.next+1<=501;omega,by
      have:=b.st;show 0<=u.status/\u.status<=4;rcases v with a|a<;>omega,by show ∀x∈u.prog.steps,_;rw[e.prog];exact b.waits⟩
theorem QP: ∀ {l:List Ev} {s t:bj} {a:Nat},Cz s a->Eb s l=some t->Cz t (a+l.length)
 | [],s,t,a,c,b=>by cases b;exact c
 |e::l,s,t,a,c,b=>by
  rw[Eb] at b;split at b
  ·rename_i d;have:=QP (Ug c d) b;rw[Ax];rw[show a+(l.length+1)=a+1+l.length from by omega];exact this
  ·cases b
end Go.Lf
namespace Go.Lf
open Go
variable {α : Type} {E : cr α} {A : ao} {P : Q1}
theorem Mod.mod {d:Nat->Prop}{b c:aa}(a:Mod (λ_=>False) b c):Mod d b c:=a.ak λ_ _ b=>b.elim
end Go.Lf
namespace Go.Lf.G
open Go
theorem rX {s:A31}:bD s (⟨#[]⟩:A31)=decide (s=IQ):=Bj
theorem zS {s:A31}:s=IQ↔s.size=0:=by
 constructor
 ·rintro rfl;rfl
 ·intro a;have:bl s= []:=CM (by rw[BA];exact a);rw[<- EP s];show Ad (bl s)=_;rw[this];rfl
theorem FK {r:ao}{e:aa}{s:A31}{p:A30}(a:p (J3 (Am s)) e):AA r P Bl #[J7 s] e p:=by
 refine AFu ?_;unfold YX;rw[rX];refine ah.mk λK t=>?_
 have key: ∀h:Bool,(h=true↔s.size=0\/16<s.size)->K (h,()) e:=λh z=>by
  refine t _ _ ?_;refine ae.intro (λb=>?_) (λb=>?_)
  ·have d:Am s=false:=by
    rw[SR]
    grind [Gb]
   rw[d] at a;exact a
  have A: ¬(s.size=0\/16<s.size):=λg=>by simp_all
  refine Loop.rule (λm x g=> ∃i:Nat,x=((i:Int),())/\g=e/\m=s.size-i/\i<=s.size/\ ∀c∈(bl s).take i,33<=c.toNat/\c.toNat<=126) ?_ ⟨0,rfl,rfl,rfl,by omega,by simp⟩;rintro B m _ g ⟨i,rfl,d,rfl,hi,C⟩ u;subst g;refine ae.intro (λj=>?_) (λj=>?_)
  ·have k:i<s.size:=by simpa using j
   obtain⟨c,l⟩: ∃c,(bl s)[i]? =some c:=⟨_,A2 (by rw[BA];exact k)⟩;have D:c∈bl s:=AG l;dsimp only;rw[Sg l];refine ah.mk λv w=>⟨⟨by omega,by omega⟩,?_⟩
   have q: ∀n:Bool,(n=true↔ ¬(33<=c.toNat/\c.toNat<=126))->v (n,()) e:=λn E=>by
    refine w _ _ ?_;refine ae.intro (λb=>?_) (λb=>?_)
    ·have d:Am s=false:=by
      rw[SR]
      grind [Gb]
     rw[d] at a;exact a
    ·rw[Ab (by omega)];refine u (s.size-(i+1)) _ _ (by omega) ⟨i+1,rfl,rfl,rfl,k,λx y=>?_⟩;rw[AE,l,E0] at y
     grind
   refine ae.intro (λo=>q _ ⟨λ_=>by simp at o;omega,λ_=>rfl⟩) (λo=>⟨⟨by omega,by omega⟩,q _ ⟨λf=>by simp at f;omega,λf=>by simp at o;simp;omega⟩⟩)
  ·have k:i=s.size:=by simp at j;omega
   have d:Am s=true:=by grind [Gb,List.take_of_length_le,BA]
   rw[d] at a;exact a
 refine ae.intro (λb=>key _ ⟨λ_=> .inl (by simpa [zS] using b),λ_=>rfl⟩) (λb=>key _ ⟨λf=>by simp at f;omega,λf=>?_⟩)
 simp_all [decide_eq_false_iff_not,zS,decide_eq_true_eq];omega
theorem PZ {f:ao}{d:aa}{a lo hi:Int}{e:A30}(b:e (J3 (bP a lo hi)) d):AA f P Gm #[J6 J9 a,J6 J9 lo,J6 J9 hi] d e:=by
 refine ADl ?_;unfold XE;refine ae.intro (λg=>?_) (λg=>?_)
 ·have c:bP a lo hi=decide (a<=hi):=by simp_all [bP,decide_eq_decide]
  rw[c] at b;exact b
 ·have c:bP a lo hi=false:=by grind [bP]
  rw[c] at b;exact b
def bR.fv(x:bR):List Fv:= [.i x.kind,.s x.name,.s x.aK,.i x.tries,.i x.az,.i x.wait]
theorem zT:P.underlying Cv=some (.struct (P.fieldsOf Cv)):=by kernel_rfl
theorem zU(x:bR):kF P Cv (bR.fv x)=true:=by kernel_rfl
theorem AOE {q:ao}{l:aa}{x:bR}{m:A30}(r: ∀n,Ext l n->m (J3 (NL x)) n):
  AA q P SQ #[.agg #[J6 J9 x.kind,J7 x.name,J7 x.aK,J6 J9 x.tries,J6 J9 x.az,J6 J9 x.wait]] l m:=by
 refine AFf ?_;unfold wA;refine aj.mk λj _ a s _=>?_
 have b:=r j s;refine AC.mk (AO a rfl) ?_;unfold NL at b;refine ae.intro (λh=>?_) (λh=>?_)
 ·have h:x.kind=1:=by simpa using h
  rw[if_pos h] at b;refine ah.mk λK t=>?_
  have key:K (((decide (x.aK=IQ)&&decide (x.az=0))||(Am x.aK&&bP x.az 1 5)),()) j:=by
   refine t _ _ ?_;refine AL.mk (AB a rfl) (FK ⟨_,rfl,?_⟩);cases d:Am x.name with
   |false=>rw[d] at b;simpa [ae] using b
   |true=>
    refine ae.yes rfl (AC.mk (AB a rfl) (PZ ⟨_,rfl,?_⟩));cases o:bP x.tries 1 5 with
    |false=>rw[d,o] at b;simpa [ae] using b
    |true=>
     refine ae.yes rfl ?_;refine ae.intro (λc=>?_) (λc=>?_)
     ·refine AC.mk (AB a rfl) ?_;rw[d,o] at b;have c:((decide (x.aK=IQ)&&decide (x.az=0))||(Am x.aK&&bP x.az 1 5))=true:=c;rw[c] at b;have e:(x.wait==(0:Int))=decide (x.wait=0):=by grind
      rw[e];simpa using b
     ·have c:((decide (x.aK=IQ)&&decide (x.az=0))||(Am x.aK&&bP x.az 1 5))=false:=c;rw[c] at b;simpa using b
  have sub: ∀ {p:Bool},p=(Am x.aK&&bP x.az 1 5)->((decide (x.aK=IQ)&&decide (x.az=0))=false)->K (p,()) j:=λu v=>by
   rw[v,Hb,<-u] at key;exact key
  refine AL.mk (AB a rfl) ?_;rw[rX];refine ae.intro (λi=>?_) (λi=>?_)
  ·refine AC.mk (AB a rfl) ?_;refine ae.intro (λk=>?_) (λk=>?_)
   ·have e:decide (x.az=0)=true:=by simpa using k
    rw[i,e] at key;simpa using key
   ·have e:decide (x.az=0)=false:=by simpa using k
    refine AL.mk (AB a rfl) (FK ⟨_,rfl,?_⟩);refine ae.intro (λd=>?_) (λd=>?_)
    ·exact AC.mk (AB a rfl) (PZ ⟨_,rfl,sub (by rw[d,Ek]) (by rw[e,On])⟩)
    ·exact sub (by rw[d,G4]) (by rw[e,On])
  ·refine AL.mk (AB a rfl) (FK ⟨_,rfl,?_⟩);refine ae.intro (λd=>?_) (λd=>?_)
   ·exact AC.mk (AB a rfl) (PZ ⟨_,rfl,sub (by rw[d,Ek]) (by rw[i,G4])⟩)
   ·exact sub (by rw[d,G4]) (by rw[i,G4])
 ·have h:x.kind≠1:=by simpa using h
  rw[if_neg h] at b;refine ae.intro (λf=>?_) (λf=>?_)
  ·have f:x.kind=2:=by simpa using f
   rw[if_pos f] at b;refine AC.mk (AO a rfl) (AL.mk (AB a rfl) (AL.mk (AB a rfl) (AC.mk (AB a rfl) (AC.mk (AB a rfl) (AC.mk (AB a rfl) (AC.mk (AB a rfl) ?_))))));refine y5 (xs:=bR.fv x) (ys:= [.i 2,.s IQ,.s IQ,.i 0,.i 0,.i x.wait]) zT (zU x) rfl rfl rfl ⟨_,rfl,?_⟩;have e:decide (bR.fv x= [.i 2,.s IQ,.s IQ,.i 0,.i 0,.i x.wait])=(decide (x.name=IQ)&&decide (x.aK=IQ)&&decide (x.tries=0)&&decide (x.az=0)):=by rw[DH];simp[bR.fv,f,and_assoc]
   rw[e];refine ae.intro (λc=>?_) (λc=>?_)
   ·rw[c,Ek] at b;exact AC.mk (AB a rfl) (PZ ⟨_,rfl,b⟩)
   ·rw[c,G4] at b;exact b
  ·have f:x.kind≠2:=by simpa using f
   rw[if_neg f] at b;refine ae.intro (λg=>?_) (λg=>?_)
   ·have g:x.kind=3:=by simpa using g
    rw[if_pos g] at b;refine AC.mk (AO a rfl) (AL.mk (AB a rfl) (AL.mk (AB a rfl) (AC.mk (AB a rfl) (AC.mk (AB a rfl) (AC.mk (AB a rfl) (AL.mk (AB a rfl) ?_))))));refine y5 (xs:=bR.fv x) (ys:= [.i 3,.s x.name,.s IQ,.i 0,.i 0,.i 0]) zT (zU x) rfl rfl rfl ⟨_,rfl,?_⟩;have e:decide (bR.fv x= [.i 3,.s x.name,.s IQ,.i 0,.i 0,.i 0])=(decide (x.aK=IQ)&&decide (x.tries=0)&&decide (x.az=0)&&decide (x.wait=0)):=by rw[DH];simp[bR.fv,g,and_assoc]
    rw[e];refine ae.intro (λc=>?_) (λc=>?_)
    ·rw[c,Ek] at b;exact AL.mk (AB a rfl) (FK ⟨_,rfl,b⟩)
    ·rw[c,G4] at b;exact b
   ·have g:x.kind≠3:=by simpa using g
    rw[if_neg g] at b;exact b
abbrev AQf(x:bR):Array J0:= #[J6 J9 x.kind,J7 x.name,J7 x.aK,J6 J9 x.tries,J6 J9 x.az,J6 J9 x.wait]
theorem zV:Qr P Gi Cv UT.w 64=true:=by kernel_rfl
theorem zW {b:aa}{a:Q6}{x:bR}(c:Cells b a (UT.enc x)):af b a=some (J6 J9 x.kind)/\af b (a.add 1)=some (J7 x.name)/\af b (a.add 2)=some (J7 x.aK)/\af b (a.add 3)=some (J6 J9 x.tries)/\af b (a.add 4)=some (J6 J9 x.az)/\af b (a.add 5)=some (J6 J9 x.wait):=by refine⟨?_,c 1 _ rfl,c 2 _ rfl,c 3 _ rfl,c 4 _ rfl,c 5 _ rfl⟩;have:=c 0 _ rfl;rwa [add_zero] at this
theorem zX {D:ao}{f:aa}{s:Sl}{p:bK}{u:A30}(v:View UT f s p.steps)(Y:p.steps.length<=1099511627776)(n: ∀w,Ext f w->u (J6 J9 (if F3 p then 0 else 130)) w):
  AA D P OU #[.agg #[J4 s.p s.len s.cap,J6 J9 p.aw]] f u:=by
 refine AFt ?_;unfold Zk;refine aj.mk λy _ g z _=>?_
 refine ah.mk λK E=>AV.mk (s:=s) (AO g rfl) ?_
 rw[v.len];have key: ∀o:Bool,(o=true↔ ¬(p.steps.length<=16/\bP p.aw 0 16000=true))->K (o,()) y:=λo F=>by
  refine E _ _ ?_;refine ae.intro (λh=>?_) (λh=>?_)
  ·have d:=n y z;rw[if_neg] at d
   ·exact d
   ·intro j;simp only[F3,A3,decide_eq_true_eq] at j;exact F.1 h j.1
  have G:p.steps.length<=16/\bP p.aw 0 16000=true:=Decidable.byContradiction λk=>by
   simp_all
  refine AV.mk (s:=s) (AO g rfl) ?_;refine Loop.rule (λm x k=> ∃i:Nat,x=((i:Int),())/\Ext f k/\m=p.steps.length-i/\i<=p.steps.length/\(p.steps.take i).all NL=true) ?_ ⟨0,rfl,z,rfl,by omega,rfl⟩;rintro Z m _ k ⟨i,rfl,l,rfl,hi,q⟩ H;rw[v.len];refine ae.intro (λr=>?_) (λr=>?_)
  ·have t:i<p.steps.length:=by simpa using r
   obtain⟨x,A⟩: ∃x,p.steps[i]? =some x:=⟨_,A2 t⟩;rw[<- v.len];refine(v.ext l).idx A λa _ c=>?_
   obtain⟨I,J,L,M,N,O⟩:=zW c;refine AC.mk I (AL.mk J (AL.mk L (AC.mk M (AC.mk N (AC.mk O ?_)))));refine aj.mk λQ _ R S _=>ab.oR R λT e U ac=>?_
   refine AC.mk (AO e rfl) (AL.mk (AB e rfl) (AL.mk (AB e rfl) (AC.mk (AB e rfl) (AC.mk (AB e rfl) (AC.mk (AB e rfl) ?_)))));have V:Ext f T:=(l.trans S).more U λb g=>by subst g;exact l.size
   refine AOE (x:=x) λW X=>⟨_,rfl,?_⟩
   have B:=V.trans X;refine ae.intro (λC=>?_) (λC=>?_)
   ·have d:=n W B;rw[if_neg] at d
    ·exact d
    ·intro j;simp only[F3,A3,decide_eq_true_eq,Fk] at j
     grind
   ·dsimp only;rw[Ab (by omega)];refine H (p.steps.length-(i+1)) _ _ (by omega) ⟨i+1,rfl,B,rfl,t,?_⟩;rw[AE,A,E0,List.all_append,q];simpa using C
  ·have t:i=p.steps.length:=by simp at r;omega
   rw[As (by omega)] at q;have d:=n k l;rw[if_pos (by simp only[F3,A3,decide_eq_true_eq];exact⟨G,q⟩)] at d;exact d
 refine ae.intro (λh=>key _ ⟨λ_ Q=>by simp at h;omega,λ_=>rfl⟩) (λh=>?_);refine AC.mk (AB g rfl) (PZ ⟨_,rfl,key _ ?_⟩)
 grind
structure X0 (h:aa) (b rb b1:Nat) (lim:Int) (s:Sl) (l:List bR) (hh:aa) (r:Rd):Prop where
 ext:Ext h hh
 zero:hh[b]? =some (J2 #[J4 none 0 0,J6 J9 0] EA (0,0))
 rd:KU hh rb r
 var:hh[b1]? =some (J2 #[J4 s.p s.len s.cap,J6 J9 lim] EA (0,0))
 own:Own UT Cv hh s l
 fresh: ∀c,s.ag=some c->h.size<=c/\c≠b/\c≠rb/\c≠b1
 ne:h.size<=b/\h.size<=rb/\h.size<=b1/\b≠rb/\b≠b1/\rb≠b1
theorem X0.read {g:aa}{b d h:Nat}{i:Int}{s:Sl}{l:List bR}{j e:aa}{n k:Rd}(a:X0 g b d h i s l j n)(o:KU e d k)(m:Mod (· =d) j e):X0 g b d h i s l e k:=
 ⟨a.ext.more m λc f=>by subst f;exact a.ne.2.1,m.ag a.zero a.ne.2.2.2.1,o,m.ag a.var a.ne.2.2.2.2.2.symm,a.own.mod m λc f=>(a.fresh c f).2.2.1,a.fresh,a.ne⟩
theorem X0.other {e:aa}{b f g c:Nat}{i:Int}{s:Sl}{l:List bR}{j k:aa}{n:Rd}(a:X0 e b f g i s l j n)(m:Mod (· =c) j k)(d:e.size<=c/\c≠b/\c≠f/\c≠g/\s.ag≠some c):X0 e b f g i s l k n:=
 ⟨a.ext.more m λo h=>by subst h;exact d.1,m.ag a.zero d.2.1.symm,m.ag a.rd d.2.2.1.symm,m.ag a.var d.2.2.2.1.symm,a.own.mod m λo h p=>d.2.2.2.2 (by rw[h,p]),a.fresh,a.ne⟩
theorem X0.on {a:aa}{b d e:Nat}{f:Int}{s:Sl}{l:List bR}{g h:aa}{i:Rd}(c:X0 a b d e f s l g i)(m:Ext g h):X0 a b d e f s l h i:=
 ⟨c.ext.trans m,m.ag c.zero (λa=>a),m.ag c.rd (λa=>a),m.ag c.var (λa=>a),c.own.ext m,c.fresh,c.ne⟩
theorem X0.new {d:aa}{b e f:Nat}{g:Int}{s:Sl}{l:List bR}{a:aa}{h:Rd}(c:X0 d b e f g s l a h):d.size<=a.size/\a.size≠b/\a.size≠e/\a.size≠f/\s.ag≠some a.size:=by
 refine⟨c.ext.size,?_,?_,?_,λi=>?_⟩
 ·have:=Aj c.zero;omega
 ·have:=Aj c.rd;omega
 ·have:=Aj c.var;omega
 ·have:=c.own.lt i;omega
theorem AOd {b c d:Nat}{all:Bool}(a:Rd):(Ms b c d all a).2.rest.length<=a.rest.length:=by grind [IX,Ms,V8,CX,GZ]
def zY(a:Option bK)(s:Sl):J0:=match a with
 |none=>J1 #[.agg #[J4 none 0 0,J6 J9 0],J6 J9 60]
 |some p=>J1 #[.agg #[J4 s.p s.len s.cap,J6 J9 p.aw],J6 J9 0]
theorem ALs {A:ao}{h:aa}{l:List UInt8}{R:A30}(bC:l.length<1099511627776)
  (ar: ∀O s,Ext h O->(∀ p,JO l=some p->View UT O s p.steps/\ ∀c,s.ag=some c->h.size<=c)->R (zY (JO l) s) O):AA A P Ju #[J7 (Ad l)] h R:=by
 refine AET ?_;unfold XD;refine aj.mk λz _ au ac aP=>?_
 refine NI λaQ af ag=>⟨_,rfl,?_⟩
 refine EQ (most:=16000) af (by simp;omega) (by decide) λQ av S=>⟨_,rfl,?_⟩
 refine aj.mk λbD _ aw T aR=>ab.two aw λaS ax U aT=>?_
 have bE:z.size<aQ.size:=Aj af;have bF:=S.size;have bG:=ac.size;have ay:X0 h h.size z.size Q.size ((CX 16000 ⟨l,false⟩).1:Int) ⟨none,0,0⟩ [] aS (CX 16000 ⟨l,false⟩).2:=by
  have aU:Q[h.size]? =some (J2 #[J4 none 0 0,J6 J9 0] EA (0,0)):=S.ag (ag.ag au (λh=>h)) (by omega);have aV:=T.ag av (λh=>h);have az:Ext h Q:=(ac.trans ag).more S λc a=>by subst a;omega
  refine⟨(az.trans T).more U λc a=>by subst a;exact az.size,U.ag (T.ag aU (λh=>h)) (by omega),U.ag aV (by omega),ax,Own.nil,λc a=>by simp[Sl.ag] at a,by omega,by omega,by omega,by omega,by omega,by omega⟩
 have bH:(CX 16000 ⟨l,false⟩).2.rest.length<=l.length:=IX 16000 ⟨l,false⟩;refine EQ (most:=16) ay.rd (by omega) (by decide) λbI aA aC=>⟨_,rfl,?_⟩
 have aW:=ay.read aA aC;have bJ:=IX 16 (CX 16000 ⟨l,false⟩).2;generalize bK:(CX 16000 ⟨l,false⟩).1=i at*
 generalize bL:(CX 16000 ⟨l,false⟩).2=t at*
 have aX:(CX 16 t).1<=16:=by
  unfold CX
  grind
 have G:Zv 16000 3 5 1000 false l=(⟨(IB 3 5 1000 false (CX 16 t).1 (CX 16 t).2).1,i⟩,(IB 3 5 1000 false (CX 16 t).1 (CX 16 t).2).2):=by grind [Zv]
 generalize bM:h.size=b at*
 generalize bN:z.size=H at*
 generalize B:Q.size=I at*
 clear au af av aw ax ac ag T S U aC aP aR aT aA;refine Loop.rule (λm x ai=> ∃(j:Nat) (s:Sl) (f:List bR) (d:Rd),x=((j:Int),())/\X0 h b H I i s f ai d/\m=j/\d.rest.length<=l.length/\f.length+j<=16/\
  Zv 16000 3 5 1000 false l=(⟨f++(IB 3 5 1000 false j d).1,i⟩,(IB 3 5 1000 false j d).2)) ?_ ⟨(CX 16 t).1,⟨none,0,0⟩,[],(CX 16 t).2,rfl,aW,rfl,by omega,by simpa using aX,G⟩
 rintro K m _ ai ⟨j,s,f,d,rfl,n,bO,bP,bQ,G⟩ aY;refine ae.intro (λak=>?_) (λak=>?_)
 ·have aD:0<j:=by simp at ak;omega
  obtain⟨k,rfl⟩: ∃k,j=k+1:=⟨j-1,by omega⟩;refine EQ (most:=3) n.rd (by omega) (by decide) λal aZ a0=>⟨_,rfl,?_⟩
  have g:=n.read aZ a0;have bS:=IX 3 d;refine aj.mk λV _ u a1 bT=>ab.oR u λa2 B a3 bU=>?_
  have a:=g.new;have v:=(g.on a1).other a3 a;generalize al.size=a4 at*
  refine AC.mk (AO B rfl) ?_;refine ah.mk λa5 a6=>?_
  have fin: ∀(x:bR) (C:Rd) (o:aa),X0 h b H I i s f o C->o[a4]? =some (J2 (AQf x) Cv (0,0))->Ms 3 5 1000 false d=(x,C)->a5 () o:=λx C o e q w=>by
   refine a6 _ _ ?_;refine AV.mk (s:=s) (AO e.var rfl) ?_;refine AC.mk (AO q rfl) (AL.mk (AB q rfl) (AL.mk (AB q rfl) (AC.mk (AB q rfl) (AC.mk (AB q rfl) (AC.mk (AB q rfl) ?_)))));refine aj.aU (E:=UT) (x:=x) (s:=s) (l:=f) rfl zV e.own (by omega) (by simp[maxLen];omega) λaE O a7 W q bV=>?_
   have a8:s.ag≠some I:=λa=>(e.fresh _ a).2.2.2 rfl
   have a9:s.ag≠some b:=λa=>(e.fresh _ a).2.1 rfl
   have ba:s.ag≠some H:=λa=>(e.fresh _ a).2.2.1 rfl
   have aF: ∀c,aE.ag=some c->h.size<=c/\c≠b/\c≠H/\c≠I:=λc a=>by
    rcases q c a with z|z
    ·exact e.fresh c z
    ·have bW:=Aj e.zero;have bX:=Aj e.rd;have bY:=Aj e.var;have bZ:=e.ext.size;omega
   refine ab.mk (W.ag e.var a8) (by simp) λb0 bb X b1=>?_
   rw[show((((k+1:Nat):Int),()):Int×Unit).1-(1:Int)=((k:Nat):Int) by simp,FD (by omega)];have bc:IB 3 5 1000 false (k+1) d=(x::(IB 3 5 1000 false k C).1,(IB 3 5 1000 false k C).2):=by simp only[IB,w]
   refine aY k _ _ (by omega) ⟨k,aE,f++ [x],C,rfl,⟨?_,?_,?_,by simpa using bb,?_,aF,e.ne⟩,rfl,?_,by simp;omega,?_⟩
   ·exact(e.ext.more W λc a=>(e.fresh c a).1).more X λc a=>by omega
   ·exact X.ag (W.ag e.zero a9) e.ne.2.2.2.2.1
   ·exact X.ag (W.ag e.rd ba) e.ne.2.2.2.2.2
   ·exact a7.mod X λc a=>(aF c a).2.2.2
   ·grind [AOd]
   ·rw[G,bc];simp
  refine ae.intro (λy=>?_) (λy=>?_)
  ·have am:(CX 3 d).1=1:=by simp at y;omega
   have b2:=(V8 (CX 3 d).2).1;have b3:=IX 5 (GZ (CX 3 d).2).2;have b4:=(V8 (CX 5 (GZ (CX 3 d).2).2).2).1;refine Ic v.rd (by omega) λaG J r=>⟨_,rfl,?_⟩
   have D:=v.read J r;have L:=r.ag B a.2.2.1;refine EQ (most:=5) D.rd (by omega) (by decide) λY bd F=>⟨_,rfl,?_⟩
   have be:=D.read bd F;have M:=F.ag L a.2.2.1;refine ab.bT M (by simp) rfl λb5 bf bg b6=>ab.bT bf (by simp) rfl λb7 bh bi b8=>?_
   have aH:=(be.other bg a).other bi a;refine Ic aH.rd (by omega) λb9 bj aI=>⟨_,rfl,?_⟩
   have aJ:=aH.read bj aI;have bk:=aI.ag bh a.2.2.1;refine EQ (most:=5) aJ.rd (by omega) (by decide) λca bm aK=>⟨_,rfl,?_⟩
   have bn:=aJ.read bm aK;have bo:=aK.ag bk a.2.2.1;refine ab.bT bo (by simp) rfl λcb bp bq cc=>ab.bT bp (by simp) rfl λbr bs bt cd=>?_
   have bu:=(bn.other bq a).other bt a;refine fin ⟨1,Ad (GZ (CX 3 d).2).1,Ad (GZ (CX 5 (GZ (CX 3 d).2).2).2).1,(CX 5 (GZ (CX 3 d).2).2).1,(CX 5 (GZ (CX 5 (GZ (CX 3 d).2).2).2).2).1,0⟩ _ br bu ?_ ?_
   ·rw[bs,am];rfl
   ·simp only[Ms];rw[if_pos am]
  ·have am:(CX 3 d).1≠1:=by simp at y;omega
   refine ae.intro (λan=>?_) (λan=>?_)
   ·have aL:(CX 3 d).1=2:=by simp at an;omega
    refine EQ (most:=1000) v.rd (by omega) (by decide) λaG J r=>⟨_,rfl,?_⟩
    have D:=v.read J r;have L:=r.ag B a.2.2.1;refine ab.bT L (by simp) rfl λY M F bv=>?_
    refine fin ⟨2,IQ,IQ,0,0,(CX 1000 (CX 3 d).2).1⟩ _ Y (D.other F a) ?_ ?_
    ·rw[M,aL];rfl
    ·simp only[Ms]
     grind
   ·have aL:(CX 3 d).1≠2:=by simp at an;omega
    refine ae.intro (λap=>?_) (λap=>?_)
    ·have bw:(CX 3 d).1=3:=by simp at ap;omega
     refine Ic v.rd (by omega) λaG J r=>⟨_,rfl,?_⟩
     have D:=v.read J r;have L:=r.ag B a.2.2.1;refine ab.bT L (by simp) rfl λY M F bv=>?_
     refine fin ⟨(CX 3 d).1,Ad (GZ (CX 3 d).2).1,IQ,0,0,0⟩ _ Y (D.other F a) ?_ ?_
     ·rw[M];rfl
     ·simp only[Ms]
      grind
    ·have bw:(CX 3 d).1≠3:=by simp at ap;omega
     refine fin ⟨(CX 3 d).1,IQ,IQ,0,0,0⟩ _ a2 v B ?_;simp only[Ms]
     grind
 ·have aD:j=0:=by simp at ak;omega
  subst aD;simp only[IB,AS] at G;refine ah.mk λbx aM=>?_
  refine QA n.rd ⟨_,rfl,?_⟩;have aN:JO l=if fU d&&F3 ⟨f,i⟩ then some ⟨f,i⟩ else none:=by unfold JO;rw[G]
  have aO:JO l=none-> ∀o,X0 h b H I i s f o d->bx (true,()) o:=λw o e=>by
   refine aM _ _ (ae.yes rfl ?_);refine ab.two e.zero λV u Z bz=>AV.mk (s:=⟨none,0,0⟩) (AO u rfl) (AC.mk (AB u rfl) ?_)
   have:=ar V ⟨none,0,0⟩ (e.ext.more Z λc a=>by subst a;exact e.ne.1) (λp N=>by rw[w] at N;cases N);rw[w] at this;exact this
  refine ae.intro (λy=>?_) (λy=>?_)
  ·have aq:fU d=false:=by simpa using y
   exact aO (by rw[aN,aq];rfl) ai n
  ·have aq:fU d=true:=by simpa using y
   refine AV.mk (s:=s) (AO n.var rfl) (AC.mk (AB n.var rfl) ?_);refine zX (p:=⟨f,i⟩) n.own.view (by simp only;omega) λal bA=>⟨_,rfl,?_⟩
   have g:=n.on bA;cases bB:F3 ⟨f,i⟩ with
   |false=>exact aO (by grind) al g
   |true=>
    refine aM _ _ (ae.no rfl ?_);have w:JO l=some ⟨f,i⟩:=by rw[aN,aq,bB];rfl
    refine AV.mk (s:=s) (AO g.var rfl) (AC.mk (AB g.var rfl) ?_);refine ab.two g.zero λV u Z bz=>AV.mk (s:=s) (AO u rfl) (AC.mk (AB u rfl) ?_)
    have:=ar V s (g.ext.more Z λc a=>by subst a;exact g.ne.1) (λp N=>by
     rw[w] at N;obtain rfl:=B9 N;exact⟨(g.own.mod Z λc a=>(g.fresh c a).2.1).view,λc a=>by have:=(g.fresh c a).1;omega⟩)
    rw[w] at this;exact this
def fN(a:Int):Int:=(if cQ a then 1 else 0)+(if dd a then 2 else 0)+(if dq a then 4 else 0)+(if dN a then 8 else 0)+(if dQ a then 16 else 0)
theorem rY(d:Int):Ec J9 (fN d) 1=(if cQ d then 1 else 0)/\Ec J9 (fN d) 2=(if dd d then 2 else 0)/\Ec J9 (fN d) 4=(if dq d then 4 else 0)/\Ec J9 (fN d) 8=(if dN d then 8 else 0)/\Ec J9 (fN d) 16=(if dQ d then 16 else 0):=by unfold fN;generalize cQ d=a;generalize dd d=b;generalize dq d=c;generalize dN d=e;generalize dQ d=f;cases a<;>cases b<;>cases c<;>cases e<;>cases f<;>decide
theorem lT {b:Bool}{a:Int}(c:a≠0):((if b then a else 0)==(0:Int))= !b:=by cases b<;>simp[c]
theorem Mg {b:Bool}{a:Int}(c:a≠0):((if b then a else 0) != (0:Int))=b:=by cases b<;>simp[c]
theorem YG {i:ao}{f:aa}{a:Int}{g:A30}(c:g (J1 #[J6 J9 (fN a),J3 (bP a 1 18)]) f):AA i P JG #[J6 J9 a] f g:=by
 refine ACa ?_;unfold Vl;have d:a=1\/a=2\/a=3\/a=4\/a=5\/a=6\/a=7\/a=8\/a=9\/a=10\/a=11\/a=12\/a=13\/a=14\/a=15\/a=16\/a=17\/a=18\/ ¬(1<=a/\a<=18):=by omega
 by_cases h:1<=a/\a<=18
 ·rcases d with rfl|rfl|rfl|rfl|rfl|rfl|rfl|rfl|rfl|rfl|rfl|rfl|rfl|rfl|rfl|rfl|rfl|rfl|d
  all_goals (try exact absurd h d)
  all_goals repeat first|exact c|(refine ah.mk λK e=>?_)|(refine ae.yes (by decide) ?_)|(refine ae.no (by decide) ?_)|(refine e _ _ ?_)
 ·have j:bP a 1 18=false:=by unfold bP;simpa using h
  have k:fN a=0:=by unfold fN cQ dd dq dN dQ;rw[decide_eq_false (by omega),decide_eq_false (by omega),decide_eq_false (by omega),decide_eq_false (by omega),decide_eq_false (by omega)];rfl
  rw[j,k] at c;have ne: ∀b:Int,1<=b->b<=18->(a==b)=false:=λb l m=>by
   rw[beq_eq_false_iff_ne];omega
  repeat first|exact c|(refine ah.mk λK e=>?_)|(refine ae.no (ne _ (by decide) (by decide)) ?_)|(refine e _ _ ?_)
theorem zZ {A:ao}{h:aa}{s:A31}{R:A30}(b:s.size<1099511627776)
  (d: ∀a sl,Ext h a->(∀ p,JO (bl s)=some p->View UT a sl p.steps/\ ∀c,sl.ag=some c->h.size<=c)->R (zY (JO (bl s)) sl) a):AA A P Ju #[J7 s] h R:=by
 have:=ALs (A:=A) (h:=h) (l:=bl s) (R:=R) (by rw[BA];exact b) d;rwa [QJ] at this
theorem Kg {A:ao}{h:aa}{s:A31}{R:A30}(b:s.size<=1099511627776)(c: ∀a,Ext h a->R (J7 (Ad (BU (bl s)))) a):AA A P CF #[J7 s] h R:=by have:=Ro (A:=A) (h:=h) (l:=bl s) (R:=R) (by rw[BA];exact b) c;rwa [QJ] at this
theorem rZ {j:ao}{e:aa}{b:Nat}{f a lo hi h:Int}{fl:Bool}{T:Q7}{fr:Nat×Nat}{i:A30}(k:e[b]? =some (J2 #[J6 J9 f] T fr))(l:(Ec J9 f h==(0:Int))= !fl)
  (c:i (J3 (cU fl a lo hi)) e):Er j P (.func (.func IW) #[] #[J5 (some ⟨b,0,none⟩)]) #[J6 J9 a,J6 J9 lo,J6 J9 hi,J6 J9 h] e i:=by
 refine Er.func (first:= #[]) (bN:= #[Ar b]) (by kernel_rfl) ?_;refine AAd ?_;unfold TQ;refine aA (AC.mk (AO k rfl) ?_);rw[l];cases fl with
 |false=>
  refine ae.yes rfl ?_;have d:(a==(0:Int))=decide (a=0):=by by_cases m:a=0<;>simp[m]
  rw[d];exact c
 |true=>
  refine ae.no rfl ?_;refine ae.intro (λg=>?_) (λg=>?_)
  ·have d:cU true a lo hi=decide (a<=hi):=by simp at g;simp only[cU,if_true,bP];rw[decide_eq_decide];omega
   rw[d] at c;exact c
  ·have d:cU true a lo hi=false:=by simp at g;simp only[cU,if_true,bP];simp;omega
   rw[d] at c;exact c
abbrev oB(a:Ev):J0:= .agg #[J6 J9 a.id,J6 J9 a.kind,J6 J9 a.tick,J6 J9 a.ref,J6 J9 a.step,J6 J9 a.turn,J3 a.aK,J7 a.data]
theorem sd {O:ao}{g:aa}{e:Ev}{t:A30}(hd:e.data.size<1099511627776)(u: ∀b,Ext g b->t (J6 J9 (if Ea e then 0 else 120)) b):AA O P KC #[oB e] g t:=by
 refine ADs ?_;unfold Xi;refine aj.mk λv _ E F aG=>?_
 refine AC.mk (AB E rfl) (YG ⟨_,_,rfl,?_⟩);refine aj.mk λaH _ Q G aI=>?_
 refine ab.mk Q (by simp) λd i H aJ=>?_
 have m:Ext g d:=(F.trans G).more H λc o=>by subst o;exact F.size
 have R:g.size≠v.size:=by omega
 have a:=H.ag (G.ag E (λg=>g)) R;have i:d[v.size]? =some (J2 #[J6 J9 (fN e.kind)] BL (0,0)):=i;obtain⟨S,T,U,V,W⟩:=rY e.kind;refine ah.mk λK I=>?_
 have f:Ej e=false->K (true,()) d:=λw=>by
  refine I _ _ (ae.yes rfl ?_);have:=u d m;have r:Ea e=false:=by simp[Ea,w]
  rw[r] at this;exact this
 have aL:Ej e=true->K (false,()) d:=λw=>by
  refine I _ _ (ae.no rfl ?_);refine AC.mk (AB a rfl) ?_;refine ah.mk λX Y=>?_
  have fin:KN e=true-> ∀b,Ext g b->X () b:=λy b x=>by
   refine Y _ _ ?_;have:=u b x;have r:Ea e=true:=by simp[Ea,w,y]
   rw[r] at this;exact this
  have fail:KN e=false-> ∀b,Ext g b->t (J6 J9 120) b:=λy b x=>by
   have:=u b x;have r:Ea e=false:=by simp[Ea,y]
   rw[r] at this;exact this
  refine ae.intro (λh=>?_) (λh=>?_)
  ·have h:e.kind=1:=by simpa using h
   have j:KN e=(JO (bl e.data)).isSome:=by unfold KN;rw[if_pos h]
   refine AL.mk (AB a rfl) (zZ hd λaK sl Z _=>?_);have s:=m.trans Z;cases J:JO (bl e.data) with
   |none=>
    refine⟨⟨none,0,0⟩,_,_,rfl,?_⟩;refine aj.mk λac _ z A af=>ab.two z λB ag C ai=>ae.yes rfl ?_
    exact fail (by rw[j,J];rfl) B ((s.trans A).more C λc o=>by subst o;exact s.size)
   |some p=>
    refine⟨sl,_,_,rfl,?_⟩;refine aj.mk λac _ z A af=>ab.two z λB ag C ai=>ae.no rfl ?_
    exact fin (by rw[j,J];rfl) B ((s.trans A).more C λc o=>by subst o;exact s.size)
  ·have h:e.kind≠1:=by simpa using h
   refine ae.intro (λk=>?_) (λk=>?_)
   ·have k:e.kind=12:=by simpa using k
    have j:KN e=Am e.data:=by unfold KN;rw[if_neg h,if_pos k]
    refine AL.mk (AB a rfl) (FK ⟨_,rfl,?_⟩);cases L:Am e.data with
    |false=>exact fail (by rw[j,L]) d m
    |true=>exact fin (by rw[j,L]) d m
   ·have k:e.kind≠12:=by simpa using k
    have j:KN e=true:=by unfold KN;rw[if_neg h,if_neg k]
    exact fin j d m
 refine ae.intro (λq=>f (by simp at q;simp[Ej,q])) (λak=>?_);refine AC.mk (AO a rfl) (ae.intro (λq=>f ?_) (λal=>?_))
 ·have:bP e.id 1 500=false:=by simp at q;unfold bP;simp;omega
  simp[Ej,this]
 refine AC.mk (AO a rfl) (ae.intro (λq=>f ?_) (λam=>?_))
 ·have:bP e.id 1 500=false:=by simp at q;unfold bP;simp;omega
  simp[Ej,this]
 have an:1<=e.id/\e.id<=500:=by simp at al am;omega
 refine AC.mk (AB a rfl) (ae.intro (λq=>f ?_) (λap=>?_))
 ·have:bP e.tick 0 1099511627776=false:=by simp at q;unfold bP;simp;omega
  simp[Ej,this]
 refine AC.mk (AB a rfl) (ae.intro (λq=>f ?_) (λaq=>?_))
 ·have:bP e.tick 0 1099511627776=false:=by simp at q;unfold bP;simp;omega
  simp[Ej,this]
 have ar:bP e.tick 0 1099511627776=true:=by simp at ap aq;rw[Bb];omega
 have au:bP e.id 1 500=true:=Bb.2 an;have av:bP e.kind 1 18=true:=by simpa using ak
 refine AC.mk (AB a rfl) (AC.mk (AO a rfl) ?_);rw[wrap_i64 (n:=e.id-1) (by omega) (by omega)];refine rZ (fl:=cQ e.kind) i (by rw[S,lT (by decide)]) ⟨_,rfl,?_⟩;refine ae.intro (λq=>f ?_) (λaw=>?_)
 ·have:cU (cQ e.kind) e.ref 1 (e.id-1)=false:=by simpa using q
  simp[Ej,this]
 have ax:cU (cQ e.kind) e.ref 1 (e.id-1)=true:=by simpa using aw
 refine AC.mk (AB a rfl) ?_;refine rZ (fl:=dd e.kind) i (by rw[T,lT (by decide)]) ⟨_,rfl,?_⟩;refine ae.intro (λq=>f ?_) (λay=>?_)
 ·have:cU (dd e.kind) e.step 0 15=false:=by simpa using q
  simp[Ej,this]
 have az:cU (dd e.kind) e.step 0 15=true:=by simpa using ay
 refine AC.mk (AB a rfl) ?_;refine rZ (fl:=dq e.kind) i (by rw[U,lT (by decide)]) ⟨_,rfl,?_⟩;refine ae.intro (λq=>f ?_) (λaA=>?_)
 ·have:cU (dq e.kind) e.turn 1 5=false:=by simpa using q
  simp[Ej,this]
 have aC:cU (dq e.kind) e.turn 1 5=true:=by simpa using aA
 have l:Ej e=((!e.aK||dN e.kind)&&(decide (e.data=IQ)||dQ e.kind)):=by simp[Ej,av,au,ar,ax,az,aC]
 have M:(!e.aK||dN e.kind)=true->AL d ((⟨g.size,0,none⟩:Q6).add 7) λaD=>
   ae (!bD aD (⟨#[]⟩:A31)) (AC J9 d (⟨v.size,0,none⟩:Q6) λaE=>K (((Ec J9 aE (16:Int))==(0:Int)),()) d) (K (false,()) d):=λaF=>by
  rw[aF,Ek] at l;refine AL.mk (AB a rfl) ?_;rw[rX];refine ae.intro (λq=>?_) (λq=>?_)
  ·have q:decide (e.data=IQ)=false:=by simpa using q
   refine AC.mk (AO i rfl) ?_;rw[W,lT (by decide)];rw[q,Hb] at l;cases N:dQ e.kind with
   |false=>exact f (by rw[l,N])
   |true=>exact aL (by rw[l,N])
  ·have q:decide (e.data=IQ)=true:=by simpa using q
   rw[q,Bool.true_or] at l;exact aL l
 refine Aa.mk (AB a rfl) (ae.intro (λq=>?_) (λq=>?_))
 ·refine AC.mk (AO i rfl) ?_;rw[V,lT (by decide)];refine ae.intro (λD=>f ?_) (λD=>M ?_)
  ·have:dN e.kind=false:=by simpa using D
   rw[l,q,this];rfl
  ·have:dN e.kind=true:=by simpa using D
   rw[this,JT]
 ·exact M (by rw[q];rfl)
theorem AT1:Qr P N9 qI nX.w 32=true:=by kernel_rfl
theorem AUs:Qr P LQ VF nY.w 24=true:=by kernel_rfl
theorem Vq {A:ao}{m:Type}{E:cr m}{t T:Q7}{n:Nat}(w:Qr P t T E.w n=true){h:aa}{s:Sl}{l:List m}{R:A30}(v:View E h s l)(y:l.length*n<=140737488355328)(z:l.length<=maxLen)
  (o: ∀d i,Own E T i d l->(∀ c,d.ag=some c->h.size<=c)->Ext h i->R (J4 d.p d.len d.cap) i):
  ae (s.p.isNone) (R (J4 none 0 0) h) (aj h (J2 #[] T) λb j=>Af A P (Builtin.append_ #[t,t] t #[J4 (some (⟨b,0,none⟩:Q6)) 0 0,J4 s.p s.len s.cap]) j λv k=> ∃f:Sl,v=J4 f.p f.len f.cap/\R (J4 f.p f.len f.cap) k):=by
 refine ae.intro (λp=>?_) (λp=>?_)
 ·have B:s.p=none:=by simpa using p
  have:l= []:=by
   cases l with
   |nil=>rfl
   |cons x l=>
    obtain⟨a,q,_⟩:=v.cells 0 x rfl;rw[B] at q;cases q
  subst this;exact o ⟨none,0,0⟩ h Own.nil (λc g=>by simp[Sl.ag] at g) Mod.refl
 ·refine aj.mk λj _ C r I=>?_
  have D:Own E T j ⟨some ⟨h.size,0,none⟩,0,0⟩ []:=Own.lit (E:=E) (l:= []) C rfl (by simp[maxLen]);refine II (s:=⟨some ⟨h.size,0,none⟩,0,0⟩) w D (v.ext r) (by simpa using y) (by simpa using z) λd k F G H _=>o d k F (λc g=>?_) (r.more G λc g=>?_)
  ·rcases H c g with u|u
   ·have e:h.size=c:=by simpa [Sl.ag] using u
    omega
   ·omega
  ·have e:h.size=c:=by simpa [Sl.ag] using g
   omega
section
variable {A : ao} {h : aa} {R : A30} {s : bj} {e : Ev} {a b c : Sl}
theorem ANt {x:Sl}{l:List Jb}(v:View nX h x l)(i:l.length<=1000)(g: ∀d f,Own nX qI f d l->(∀ c,d.ag=some c->h.size<=c)->Ext h f->R (J4 d.p d.len d.cap) f):AA A P Dy #[J4 x.p x.len x.cap] h R:=by refine Jk ?_;unfold Ff;exact Vq AT1 v (by omega) (by simp only[maxLen];omega) g
theorem APH {x:Sl}{l:List Ck}(v:View nY h x l)(i:l.length<=1000)(g: ∀d f,Own nY VF f d l->(∀ c,d.ag=some c->h.size<=c)->Ext h f->R (J4 d.p d.len d.cap) f):AA A P DT #[J4 x.p x.len x.cap] h R:=by refine Ik ?_;unfold Em;exact Vq AUs v (by omega) (by simp only[maxLen];omega) g
theorem AOp {x:Sl}{l:List bR}(v:View UT h x l)(i:l.length<=1000)(g: ∀d f,Own UT Cv f d l->(∀ c,d.ag=some c->h.size<=c)->Ext h f->R (J4 d.p d.len d.cap) f):AA A P Dj #[J4 x.p x.len x.cap] h R:=by refine JJ ?_;unfold FM;exact Vq zV v (by omega) (by simp only[maxLen];omega) g
structure iO (h:aa) (n:Nat) (t:bj) (a b c:Sl) (b' c':Sl):Prop where
 at':Ji h t a b' c'
 fb: ∀x,b'.ag=some x->b.ag=some x\/n<=x
 fc: ∀x,c'.ag=some x->c.ag=some x\/n<=x
theorem mV {x:Nat}{P:Prop}(h:(⟨none,0,0⟩:Sl).ag=some x):P:=by simp[Sl.ag] at h
theorem AOl(k:Ji h s a b c)(ab:e.kind=1\/12<=e.kind)(U:e.kind=14->0<=s.aP+s.prog.aw/\s.aP+s.prog.aw<=9223372036854775807)
  (Q: ∀f (t:bj) (m n:Sl),Ext h f->(∀ t',Ka s e=some t'->t=t'/\iO f h.size t' a b c m n)->R (J1 #[(t.V a m n).v,J3 (Ka s e).isSome]) f):AA A P Sv #[(s.V a b c).v,e.v] h R:=by
 refine AFk ?_;unfold Yg;refine pN λL d=>AC.mk (d.bT (j:=1) rfl) (ah.mk λK V=>?_)
 have yes: ∀ {t:bj} {hh:aa} {m n:Sl},(∀ x,m.ag=some x->b.ag=some x\/h.size<=x)->(∀ x,n.ag=some x->c.ag=some x\/h.size<=x)->Ji h t a m n->Ka s e=some t-> ∀f,Ext h f->R (J1 #[(t.V a m n).v,J3 true]) f:=λ{t hh m n} W X M v f x=>by
  have:=Q f t m n x (λt' E=>by rw[v] at E;cases E;exact⟨rfl,⟨M.ext x,W,X⟩⟩);rw[v] at this;exact this
 have N: ∀ {t:bj} {hh:aa},D3 h hh BN BI BN (t.V a b c) e bE.z->Ji h t a b c->Ka s e=some t->K () hh:=λ{t hh} d M v=>
  V _ _ (d.ret λf x=>yes (hh:=hh) (λ_ h=> .inl h) (λ_ h=> .inl h) M v f x)
 have no: ∀(t:bj) (m n:Sl),Ka s e=none-> ∀f,Ext h f->R (J1 #[(t.V a m n).v,J3 false]) f:=λt m n v f x=>by
  have:=Q f t m n x (λt' E=>by rw[v] at E;cases E);rw[v] at this;exact this
 have S: ∀r,Ji h (gY s r) a ⟨none,0,0⟩ ⟨none,0,0⟩:=λr=>⟨k.steps,View.nil,View.nil⟩
 refine ae.intro (λg=>?_) (λg=>?_)
 ·have g:e.kind=12:=by simpa using g
  refine d.set (x':=({s with fresh:=true}:bj).V a b c) (by decide) rfl λC F=>N F ⟨k.steps,k.aC,k.ar⟩ ?_
  unfold Ka;rw[if_pos g]
 have g:e.kind≠12:=by simpa using g
 refine ae.intro (λi=>?_) (λi=>?_)
 ·have i:e.kind=13:=by simpa using i
  refine Aa.mk (d.cZ (j:=10) rfl) (ae.intro (λw=>?_) (λw=>?_))
  ·have w:s.cancel=true:=w;refine d.ret (no s b c ?_);unfold Ka;rw[if_neg g,if_pos i,if_pos w]
  ·have w:s.cancel=false:=w;refine d.set (x':=({s with cancel:=true}:bj).V a b c) (by decide) rfl λC F=>F.set (x':=({s with cancel:=true,fresh:=true}:bj).V a b c) (by decide) rfl λH O=>N O ⟨k.steps,k.aC,k.ar⟩ ?_
   unfold Ka;rw[if_neg g,if_pos i,if_neg (by simp[w])]
 have i:e.kind≠13:=by simpa using i
 refine ae.intro (λl=>?_) (λl=>?_)
 ·have l:e.kind=14:=by simpa using l
  obtain⟨ac,af⟩:=U l;refine ah.mk λY Z=>?_
  have key: ∀(I:Bool),(I=true↔s.aI=true\/s.prog.aw=0\/e.tick<s.aP+s.prog.aw)->Y (I,()) L:=λI T=>by
   refine Z _ _ (ae.intro (λD=>?_) (λD=>?_))
   ·refine d.ret (no s b c ?_);unfold Ka;rw[if_neg g,if_neg i,if_pos l,if_pos (T.1 D)]
   ·have D:I=false:=D;refine d.set (x':=({s with aI:=true}:bj).V a b c) (by decide) rfl λC F=>F.set (x':=({s with aI:=true,fresh:=true}:bj).V a b c) (by decide) rfl λH O=>N O ⟨k.steps,k.aC,k.ar⟩ ?_
    unfold Ka;rw[if_neg g,if_neg i,if_pos l,if_neg λh=>by rw[T.2 h] at D;cases D]
  refine Aa.mk (d.cZ (j:=11) rfl) (ae.intro (λy=>?_) (λy=>?_))
  ·have y:s.aI=true:=y;exact key _ (by simp[y])
  have y:s.aI=false:=y;refine AC.mk (d.cZ (j:=1) rfl) (ae.intro (λz=>?_) (λz=>?_))
  ·have z:s.prog.aw=0:=by simpa using z
   exact key _ (by simp[z])
  have z:s.prog.aw≠0:=by simpa using z
  refine AC.mk (d.bT (j:=2) rfl) (AC.mk (d.cZ (j:=4) rfl) (AC.mk (d.cZ (j:=1) rfl) (key _ ?_)));dsimp only;rw[wrap_i64 (by omega) (by omega)];simp[y,z]
 have l:e.kind≠14:=by simpa using l
 refine ae.intro (λo=>?_) (λo=>?_)
 ·have o:e.kind=18:=by simpa using o
  refine d.ga (Yb λC p=>Gn.mk _ ⟨rfl,(d.on p).tell λf x=>yes (hh:=L) (λ_ h=>mV h) (λ_ h=>mV h) (S 4) ?_ f x⟩);unfold Ka;rw[if_neg g,if_neg i,if_neg l,if_pos o]
 have o:e.kind≠18:=by simpa using o
 have fin: ∀(r:Int),(Ka s e=if Pb s then some (gY s r) else none)-> ∀f,Ext h f->R (J1 #[((gY s r).V a ⟨none,0,0⟩ ⟨none,0,0⟩).v,J3 (decide (Pb s))]) f:=λr J f x=>by
  by_cases hi:Pb s
  ·rw[if_pos hi] at J;rw[decide_eq_true hi];exact yes (hh:=L) (λ_ h=>mV h) (λ_ h=>mV h) (S r) J f x
  ·rw[if_neg hi] at J;rw[decide_eq_false hi];exact no (gY s r) ⟨none,0,0⟩ ⟨none,0,0⟩ J f x
 refine ae.intro (λq=>?_) (λq=>?_)
 ·have q:e.kind=15:=by simpa using q
  refine d.ga (d.ga (Yb λC p=>Gn.mk _ ⟨rfl,(d.on p).ja,pO k.aC.len λH G=>⟨_,rfl,((d.on p).on G).tell (fin 1 ?_)⟩⟩));unfold Ka;rw[if_neg g,if_neg i,if_neg l,if_neg o,if_pos q]
 have q:e.kind≠15:=by simpa using q
 refine ae.intro (λu=>?_) (λu=>?_)
 ·have u:e.kind=16:=by simpa using u
  refine d.ga (d.ga (Yb λC p=>Gn.mk _ ⟨rfl,(d.on p).ja,pO k.aC.len λH G=>⟨_,rfl,((d.on p).on G).tell (fin 2 ?_)⟩⟩));unfold Ka;rw[if_neg g,if_neg i,if_neg l,if_neg o,if_neg q,if_pos u]
 have u:e.kind≠16:=by simpa using u
 refine ae.intro (λB=>?_) (λB=>?_)
 ·have B:e.kind=17:=by simpa using B
  refine d.ga (d.ga (Yb λC p=>Gn.mk _ ⟨rfl,(d.on p).ja,pO k.aC.len λH G=>⟨_,rfl,((d.on p).on G).tell (fin 3 ?_)⟩⟩));unfold Ka;rw[if_neg g,if_neg i,if_neg l,if_neg o,if_neg q,if_neg u,if_pos B]
 have B:e.kind≠17:=by simpa using B
 refine d.ret (no s b c ?_);unfold Ka;rw[if_neg g,if_neg i,if_neg l,if_neg o,if_neg q,if_neg u,if_neg B]
theorem pT {n:Nat}(ap:Ji h s a b c)(G:Cz s n)(bp:n<=600)(hd:e.data.size<1099511627776)(aZ:jw e.kind)
  (aq: ∀w m k l,Ext h w->Ji w (Bf s e).2 m k l->(∀ x,m.ag=some x\/k.ag=some x\/l.ag=some x->h.size<=x)->R (J1 #[((Bf s e).2.V m k l).v,J6 J9 (Bf s e).1]) w):AA A P Jo #[(s.V a b c).v,e.v] h R:=by
 refine AFA ?_;unfold Xd;refine pN λbq H=>H.oP (sd hd λaE a0=>⟨_,rfl,?_⟩)
 have g:=H.on a0;have a1: ∀x,(⟨none,0,0⟩:Sl).ag=some x\/(⟨none,0,0⟩:Sl).ag=some x\/(⟨none,0,0⟩:Sl).ag=some x->h.size<=x:=λx d=>by simp[Sl.ag] at d
 have N: ∀(n:Int),Bf s e=(n,SC)-> ∀w,Ext h w->R (J1 #[bE.z.v,J6 J9 n]) w:=λn aF w x=>by
  have:=aq w ⟨none,0,0⟩ ⟨none,0,0⟩ ⟨none,0,0⟩ x (by rw[aF];exact⟨View.nil,View.nil,View.nil⟩) a1;rw[aF] at this;exact this
 refine ae.intro (λq=>?_) (λq=>?_)
 ·have v:Ea e=false:=by
   cases ar:Ea e with
   |false=>rfl
   |true=>rw[ar] at q;simp at q
  exact g.tell (N 120 (by unfold Bf;rw[if_pos v]))
 have v:Ea e=true:=by
  cases ar:Ea e with
  |true=>rfl
  |false=>rw[ar] at q;simp at q
 obtain⟨br,bs,bt,a2,_⟩:=SN v;refine AC.mk (g.cZ (j:=3) rfl) (ae.intro (λr=>?_) (λr=>?_))
 ·have r:s.next=0:=by simpa using r
  refine ah.mk λK a3=>?_
  have key: ∀Y:Bool,(Y=true↔ ¬(e.kind=1/\e.id=1))->K (Y,()) aE:=λY aG=>by
   refine a3 _ _ (ae.intro (λq=>?_) (λq=>?_))
   ·exact g.tell (N 120 (by unfold Bf;rw[if_neg (by simp[v]),if_pos r,if_neg (aG.1 q)]))
   ·have q:Y=false:=q;have i:e.kind=1/\e.id=1:=Decidable.byContradiction λh=>by rw[aG.2 h] at q;cases q
    obtain⟨p,au,bu⟩:=a2 i.1;refine AL.mk (g.bT (j:=7) rfl) (zZ hd λZ sl ac av=>?_);obtain⟨av,aH⟩:=av p au;rw[au];refine⟨sl,p.aw,0,rfl,?_⟩;have z:=g.on ac;refine aj.mk λaw _ a4 I a5=>?_
    have aI:=z.on I;have bv:=z.b2;refine ab.two a4 λaJ aK O a6=>?_
    have aL:Ext Z aJ:=I.more O λc Q=>by subst Q;exact A0 _
    have J:=z.on aL;refine AV.mk (s:=sl) (AO aK rfl) (AC.mk (AB aK rfl) (AC.mk (J.bT (j:=2) rfl) (J.iD λaM L a7=>?_)));have S:Bf s e=(0,YJ e):=by unfold Bf;rw[if_neg (by simp[v]),if_pos r,if_pos i]
    have aN:YJ e=⟨p,0,2,e.tick,0,0,true,[],[],false,false⟩:=by unfold YJ;rw[au];rfl
    have bw:=g.ext.size;have:=aq aM sl ⟨none,0,0⟩ ⟨none,0,0⟩ L (by rw[S,aN];exact⟨(av.ext aL).mod a7 (λc Q f=>by have:=aH c Q;have:=Aj g.b2;omega),View.nil,View.nil⟩) (λx d=>by
     rcases d with d|d|d
     ·have:=aH x d;omega
     ·simp[Sl.ag] at d
     ·simp[Sl.ag] at d)
    rw[S,aN] at this;exact this
  refine AC.mk (g.bT (j:=1) rfl) (ae.intro (λi=>key _ (by simp at i;simp[i])) (λi=>AC.mk (g.bT (j:=0) rfl) (key _ (by simp at i;simp[i]))))
 have r:s.next≠0:=by simpa using r
 refine AC.mk (g.cZ (j:=2) rfl) (ae.intro (λi=>?_) (λi=>?_))
 ·have i:s.status≠0:=by simpa using i
  exact g.tell (N 182 (by unfold Bf;rw[if_neg (by simp[v]),if_neg r,if_pos i]))
 have i:s.status=0:=by simpa using i
 refine AC.mk (g.bT (j:=0) rfl) (AC.mk (g.cZ (j:=3) rfl) (ae.intro (λy=>?_) (λy=>?_)))
 ·have y:e.id≠s.next:=by simpa using y
  exact g.tell (N 120 (by unfold Bf;rw[if_neg (by simp[v]),if_neg r,if_neg (by simp[i]),if_pos y]))
 have y:e.id=s.next:=by simpa using y
 refine AV.mk (s:=b) (g.cZ (j:=8) rfl) (AV.mk (s:=c) (g.cZ (j:=9) rfl) (ANt ((ap.ext g.ext).aC) (by have:=G.aC;omega) λk Z aO af ac=>⟨_,rfl,?_⟩));have z:=g.on ac;refine⟨z.cZ (j:=9) rfl,APH ((ap.ext z.ext).ar) (by have:=G.ar;omega) λl aw aP ag I=>⟨_,rfl,?_⟩⟩;have aI:=z.on I;have bx:=Aj g.b2;have bz:=ac.size;have a5:=I.size;refine aI.hP (x':=s.V a k c) (by decide) rfl λbA a8 ax=>a8.hP (x':=s.V a k l) (by decide) rfl λaJ J O=>?_
 have bB:=ax.size;have a6:=O.size;refine AV.mk (s:=a) (J.cZ (j:=0) rfl) (AOp ((ap.ext J.ext).steps) (by have:=G.steps;omega) λm aM aQ aR L=>⟨_,rfl,?_⟩);have a9:=J.on L;refine a9.oO (x':=s.V m k l) rfl λai B T=>AC.mk (B.bT (j:=1) rfl) ?_
 have aS:Ji ai s m k l:=by have ba:=(((aO.view.ext I).mod ax (λx d f=>by have:=af x d;omega)).mod O (λx d f=>by have:=af x d;omega));have vc:=((aP.view.mod ax (λx d f=>by have:=ag x d;omega)).mod O (λx d f=>by have:=ag x d;omega));exact⟨aQ.view.mod T (λx d f=>by have:=aR x d;omega),(ba.ext L).mod T (λx d f=>by have:=af x d;omega),(vc.ext L).mod T (λx d f=>by have:=ag x d;omega)⟩
 have bb: ∀x,k.ag=some x->aE.size<=x/\x<Z.size:=λx d=>⟨af x d,aO.lt d⟩
 have bc: ∀x,l.ag=some x->Z.size<=x/\x<aw.size:=λx d=>⟨ag x d,aP.lt d⟩
 have bd: ∀x,m.ag=some x->aw.size<=x/\x<ai.size:=λx d=>⟨by have:=aR x d;omega,by have:=aQ.lt d;have:=T.size;omega⟩
 have bC:=L.size;have bD:=T.size;have fr: ∀(fj fq:Sl),(∀ x,fj.ag=some x->k.ag=some x\/h.size+3<=x)->(∀ x,fq.ag=some x->l.ag=some x\/h.size+3<=x)-> ∀x,m.ag=some x\/fj.ag=some x\/fq.ag=some x->h.size+3<=x:=λfj fq f Q x d=>by
  rcases d with d|d|d
  ·have:=bd x d;omega
  ·rcases f x d with h|h
   ·have:=bb x h;omega
   ·omega
  ·rcases Q x d with h|h
   ·have:=bc x h;omega
   ·omega
 refine ah.mk λbe bf=>?_
 have key: ∀ {o:Option bj} {t:bj} {fj fq:Sl} {ak:aa},Ta s e=o.map (λt=> {t with next:=s.next+1})->(∀ t',o=some t'->t=t'/\t'.next=s.next/\iO ak (h.size+3) t' m k l fj fq)->D3 h ak BN BI BN (t.V m fj fq) e bE.z->be (o.isSome,()) ak:=λ{o t fj fq ak} aT ay H=>by
  refine bf _ _ ?_;cases o with
  |none=>
   refine ae.yes rfl (H.tell (N 120 ?_));unfold Bf;rw[if_neg (by simp[v]),if_neg r,if_neg (by simp[i]),if_neg (by simp[y]),aT];rfl
  |some t'=>
   obtain⟨rfl,bg,C⟩:=ay t' rfl;have u:=fr fj fq C.fb C.fc;have bF:=G.next;refine ae.no rfl (AC.mk (H.cZ (j:=3) rfl) ?_);rw[wrap_i64 (by show _<=t.next+1;omega) (by show t.next+1<=_;omega)];refine H.hP (x':=({t with next:=s.next+1}:bj).V m fj fq) (by decide) (by rw[<- bg];rfl) λaU U bh=>U.oQ λaz bi V=>?_
   have S:Bf s e=(0,{t with next:=s.next+1}):=by unfold Bf;rw[if_neg (by simp[v]),if_neg r,if_neg (by simp[i]),if_neg (by simp[y]),aT];rfl
   have:=aq az m fj fq bi (by
    rw[S];have al:=C.at'.mod bh (λx d f=>by have:=u x (.inl d);omega) (λx d f=>by have:=u x (.inr (.inl d));omega) (λx d f=>by have:=u x (.inr (.inr d));omega);have W:=al.mod V (λx d f=>by have:=u x (.inl d);omega) (λx d f=>by have:=u x (.inr (.inl d));omega) (λx d f=>by have:=u x (.inr (.inr d));omega);exact⟨W.steps,W.aC,W.ar⟩) (λx d=>by have:=u x d;omega)
   rw[S] at this;exact this
 refine ah.mk λaV aW=>?_
 have am:2<=e.kind/\e.kind<=5->aV (true,()) ai:=λan=>by
  refine aW _ _ (ae.yes rfl (B.ga (B.oP (AJt an λaU ao=>Gn.mk _ ⟨_,rfl,?_⟩))));have U:=B.on ao;refine U.sH λaz aA V=>key (o:=Dr s e) (t:=(Dr s e).getD s) (fj:=k) (fq:=l) (by unfold Ta;rw[if_pos an]) (λt' X=>?_) aA
  rw[X,HR];obtain⟨al,W,bk,bG⟩:=Qs X;have aC:=(aS.ext ao).mod V (λx d f=>by have:=fr k l (λ_ h=> .inl h) (λ_ h=> .inl h) x (.inl d);omega) (λx d f=>by have:=fr k l (λ_ h=> .inl h) (λ_ h=> .inl h) x (.inr (.inl d));omega) (λx d f=>by have:=fr k l (λ_ h=> .inl h) (λ_ h=> .inl h) x (.inr (.inr d));omega);exact⟨rfl,al.next,⟨by rw[al.prog];exact aC.steps,by rw[W];exact aC.aC,by rw[bk];exact aC.ar⟩,λ_ h=> .inl h,λ_ h=> .inl h⟩
 have bm:e.kind=1\/12<=e.kind->aV (false,()) ai:=λan=>by
  refine aW _ _ (ae.no rfl (ah.mk λbH bn=>?_));have M: ∀ {n:Int},6<=n->n<=11->(e.kind==n)=false:=λ{n} bI bJ=>by simp;omega
  refine ae.no (M (by decide) (by decide)) (ae.no (M (by decide) (by decide)) (ae.no (M (by decide) (by decide)) ?_));rw[M (n:=9) (by decide) (by decide)];refine bn _ _ (ae.no rfl (ah.mk λbK bo=>ae.no (M (by decide) (by decide)) ?_));rw[M (n:=11) (by decide) (by decide)];refine bo _ _ (ae.no rfl (B.ga (B.oP (AOl aS an (λ_=>by have:=G.aP;have:=G.aw;omega) λaU t fj fq ao ay=>Gn.mk _ ⟨_,rfl,?_⟩))));have U:=B.on ao;refine U.sH λaz aA V=>key (o:=Ka s e) (t:=t) (by unfold Ta;rw[if_neg (by omega),if_neg (by omega),if_neg (by omega)]) (λt' X=>?_) aA
  obtain⟨rfl,C⟩:=ay t' X;have aX: ∀x,fj.ag=some x->k.ag=some x\/h.size+3<=x:=λx d=>(C.fb x d).imp id λh=>by omega
  have aY: ∀x,fq.ag=some x->l.ag=some x\/h.size+3<=x:=λx d=>(C.fc x d).imp id λh=>by omega
  have u:=fr fj fq aX aY;exact⟨rfl,(yZ X).1.next,C.at'.mod V (λx d f=>by have:=u x (.inl d);omega) (λx d f=>by have:=u x (.inr (.inl d));omega) (λx d f=>by have:=u x (.inr (.inr d));omega),aX,aY⟩
 refine ae.intro (λD=>?_) (λD=>?_)
 ·have bL:e.kind=2:=by simpa using D
  have D:(e.kind==(2:Int))=true:=D;rw[D];exact am (by omega)
 refine ae.intro (λE=>?_) (λE=>?_)
 ·have bM:e.kind=3:=by simpa using E
  have E:(e.kind==(3:Int))=true:=E;rw[E];exact am (by omega)
 refine ae.intro (λF=>?_) (λF=>?_)
 ·have bN:e.kind=4:=by simpa using F
  have F:(e.kind==(4:Int))=true:=F;rw[F];exact am (by omega)
 have D:e.kind≠2:=by simpa using D
 have E:e.kind≠3:=by simpa using E
 have F:e.kind≠4:=by simpa using F
 cases aD:(e.kind==(5:Int)) with
 |true=>
  have:e.kind=5:=by simpa using aD
  exact am (by omega)
 |false=>
  have aD:e.kind≠5:=by simpa using aD
  exact bm (by unfold jw at aZ;omega)
end
theorem O0 {n:Int}(a:0<=n)(b:n<=9223372036854775807):J8 .u64 n=((n.toNat:Nat):Int):=by
 have:n=((n.toNat:Nat):Int):=by omega
 rw[this,CJ (by omega)];simp
theorem NE {f:Bool}{n:Int}(a:n<=9223372036854775807):(Tz f n).length<=10:=by
 cases f with
 |false=>exact A6 _
 |true=>exact AX (by omega)
theorem se {h:ao}{b:aa}{a:Q6}{f e n:Int}{fl:Bool}{d:List UInt8}{K:A31×Unit->aa->Prop}(i:(Ec J9 f e != (0:Int))=fl)(j:af b a=some (J6 J9 n))(k:fl=true->0<=n/\n<=1099511627776)
  (m:d.length<=100000) (g: ∀c,Ext b c->K (Ad (d++Tz fl n),()) c):
  ae (Ec J9 f e != (0:Int)) (AC J9 b a λt=>AA h P Ay #[.int .u64 (J8 .u64 t)] b λv c=> ∃x:A31,v=J7 x/\(aE ((((Ad d).size+x.size:Nat):Int)<=IntKind.i64.max)<|K ((Ad d)++x,()) c)) (K (Ad d,()) b):=by
 rw[i];cases fl with
 |false=>
  have:=g b Mod.refl;simp only[Tz,BW,if_false,AS] at this;exact ae.no rfl this
 |true=>
  obtain⟨l,o⟩:=k rfl;refine ae.yes rfl (AC.mk j ?_);rw[O0 l (by omega)];have:=AX (n:=n.toNat) (by omega);refine Cf (by omega) λc x=>⟨_,rfl,⟨by rw[AP,AP,max_i64];omega,?_⟩⟩
  have:=g c x;simp only[Tz,if_true] at this;rw[Aq];exact this
theorem sg {f:Bool}{a lo hi:Int}(b:cU f a lo hi=true)(d:0<=lo)(e:hi<=1099511627776):f=true->0<=a/\a<=1099511627776:=λc=>by
 subst c;simp only[cU,if_true,Bb] at b;omega
def oC(a:Ev):J0:=J1 #[J7 (Ad (if Ea a then Nv a else [])),J6 J9 (if Ea a then 0 else 120)]
theorem AMD {Q:ao}{a:aa}{e:Ev}{j:A30}(hd:e.data.size<1099511627776)(u: ∀c,Ext a c->j (oC e) c):AA Q P Ow #[oB e] a j:=by
 refine ACP ?_;unfold VG;refine aj.mk λar _ b v au=>?_
 refine AC.mk (AO b rfl) (AC.mk (AB b rfl) (AC.mk (AB b rfl) (AC.mk (AB b rfl) (AC.mk (AB b rfl) (AC.mk (AB b rfl) (Aa.mk (AB b rfl) (AL.mk (AB b rfl) ?_)))))));refine sd (e:=e) hd λw k=>⟨_,rfl,?_⟩
 cases l:Ea e with
 |false=>
  refine ae.yes rfl ?_;have:=u w (v.trans k);rw[oC,l] at this;exact this
 |true=>
  refine ae.no rfl ?_;have y: ∀c,Ext w c->j (J1 #[J7 (Ad (Nv e)),J6 J9 0]) c:=λc x=>by
   have:=u c ((v.trans k).trans x);rw[oC,l] at this;exact this
  have g:=k.ag b (λa=>a);have z:=Od l;simp only[Ej,A3] at z;obtain⟨⟨⟨⟨⟨⟨⟨R,S⟩,T⟩,m⟩,o⟩,p⟩,av⟩,aw⟩:=z;have ax:=Bb.1 R;have ay:=Bb.1 S;have az:=Bb.1 T;obtain⟨U,V,W,X,Y⟩:=rY e.kind;refine AC.mk (AB g rfl) (YG ⟨_,_,rfl,?_⟩);refine AC.mk (AO g rfl) (AC.mk (n:=e.kind) (AB g rfl) (AC.mk (n:=e.tick) (AB g rfl) ?_));rw[O0 (n:=e.id) (by omega) (by omega)];refine Cf (by omega) λaA A=>⟨_,rfl,?_⟩
  have r:=A.ag g (λa=>a);refine⟨AB r rfl,AB r rfl,?_⟩;rw[O0 (n:=e.kind) (by omega) (by omega)];have aC:=AX (n:=e.id.toNat) (by omega);have aD:=AX (n:=e.kind.toNat) (by omega);have aE:=AX (n:=e.tick.toNat) (by omega);refine Cf (by omega) λaF B=>⟨_,rfl,?_⟩
  have C:=B.ag r (λa=>a);refine⟨AB C rfl,by rw[AP,AP,max_i64];omega,?_⟩;rw[O0 (n:=e.tick) (by omega) (by omega)];refine Cf (by omega) λaG D=>⟨_,rfl,⟨by rw[Aq,AP,AP,max_i64,A1];omega,?_⟩⟩
  have E:=D.ag C (λa=>a);have Z:=(A.trans B).trans D;rw[Aq,Aq];refine ah.mk λK ab=>?_
  have aH:=NE (f:=cQ e.kind) (n:=e.ref) (by cases h:cQ e.kind<;>rw[h] at m<;>simp[cU,bP] at m<;>omega);have aI:=NE (f:=dd e.kind) (n:=e.step) (by cases h:dd e.kind<;>rw[h] at o<;>simp[cU,bP] at o<;>omega);have aJ:=NE (f:=dq e.kind) (n:=e.turn) (by cases h:dq e.kind<;>rw[h] at p<;>simp[cU,bP] at p<;>omega);have aK:=NE (f:=dN e.kind) (n:=if e.aK then 1 else 0) (by split<;>omega);refine se (fl:=cQ e.kind) (n:=e.ref) (by rw[U,Mg (by decide)]) (AB E rfl) (sg m (by decide) (by omega)) (by simp only[A1];omega) λaL F=>ab _ _ ?_
  have G:=F.ag E (λa=>a);refine ah.mk λaM ac=>?_
  refine se (fl:=dd e.kind) (n:=e.step) (by rw[V,Mg (by decide)]) (AB G rfl) (sg o (by decide) (by omega)) (by simp only[A1];omega) λaN H=>ac _ _ ?_
  have I:=H.ag G (λa=>a);refine ah.mk λaO af=>?_
  refine se (fl:=dq e.kind) (n:=e.turn) (by rw[W,Mg (by decide)]) (AB I rfl) (sg p (by decide) (by omega)) (by simp only[A1];omega) λs J=>af _ _ ?_
  have L:=J.ag I (λa=>a);have M:=((Z.trans F).trans H).trans J;refine ah.mk λag ai=>?_
  have N: ∀d,Ext s d->ag (Ad (((Bp e.id.toNat++Bp e.kind.toNat++Bp e.tick.toNat++Tz (cQ e.kind) e.ref)++Tz (dd e.kind) e.step++Tz (dq e.kind) e.turn)++Tz (dN e.kind) (if e.aK then 1 else 0)),()) d:=λd i=>by
   refine ai _ _ ?_;have ak:=i.ag L (λa=>a);refine ah.mk λaP O=>?_
   rw[Y,Mg (by decide)];refine ae.intro (λq=>?_) (λq=>?_)
   ·refine AL.mk (AB ak rfl) (Kg (by omega) λal am=>⟨_,rfl,⟨?_,O _ _ ?_⟩⟩)
    ·have:=AX (n:=(bl e.data).length) (by rw[BA];omega);rw[AP,AP,max_i64];simp only[BU,A1,BA] at this ⊢;omega
    ·have:=y al ((M.trans i).trans am);dsimp only;rw[Aq];simp only[Nv,gG,q,if_true] at this;simp only[A4] at this ⊢;exact this
   ·refine O _ _ ?_;have:=y d (M.trans i);simp only[Nv,gG,q,BW,if_false,AS] at this;simp only[A4] at this ⊢;exact this
  rw[X,Mg (by decide)];refine ae.intro (λq=>?_) (λq=>?_)
  ·refine ah.mk λan ap=>Aa.mk (AB L rfl) ?_
   have go: ∀n:Nat,n<=1->(n:Int)=(if e.aK then 1 else 0)->an ((n:Int),()) s:=λn aQ aq=>by
    refine ap _ _ ?_;have:=AX (n:=n) (by omega);refine Cf (by omega) λd i=>⟨_,rfl,⟨?_,?_⟩⟩
    ·dsimp only;rw[AP,AP,max_i64];simp only[A1];omega
    ·have:=N d i;rw[<- aq] at this;simp only[Tz,q,if_true,An] at this;dsimp only;rw[Aq];exact this
   refine ae.intro (λt=>go 1 (by omega) (by rw[t];rfl)) (λt=>go 0 (by omega) (by rw[t];rfl))
  ·have:=N s Mod.refl;simp only[Tz,q,BW,if_false,AS] at this;exact this
theorem NN(f:Bool)(m:Nat)(a:Rd):(Ei f m a).2.rest.length<=a.rest.length:=by
 cases f with
 |false=>exact A0 _
 |true=>exact IX m a
theorem AR9(f:Bool)(a:Rd):(Uk f a).2.rest.length<=a.rest.length/\(Uk f a).1.length<=a.rest.length:=by
 cases f with
 |false=>exact⟨A0 _,A6 _⟩
 |true=>exact V8 a
theorem APn(b:jJ)(c:Rd):(Qk b c).2.rest.length<=c.rest.length/\(Qk b c).1.data.size<=c.rest.length:=by
 simp only[Qk,AP];have d:=IX b.id c;have e:=IX b.kind (CX b.id c).2;have f:=IX b.tick (CX b.kind (CX b.id c).2).2;generalize CX b.tick (CX b.kind (CX b.id c).2).2=t at*
 generalize ((CX b.kind (CX b.id c).2).1:Int)=a at*
 have g:=NN (cQ a) b.ref t.2;have h:=NN (dd a) b.step (Ei (cQ a) b.ref t.2).2;have i:=NN (dq a) b.turn (Ei (dd a) b.step (Ei (cQ a) b.ref t.2).2).2;have j:=NN (dN a) 1 (Ei (dq a) b.turn (Ei (dd a) b.step (Ei (cQ a) b.ref t.2).2).2).2;have k:=AR9 (dQ a) (Ei (dN a) 1 (Ei (dq a) b.turn (Ei (dd a) b.step (Ei (cQ a) b.ref t.2).2).2).2).2;omega
theorem si {w:ao}{a:aa}{b d g:Nat}{f l:Int}{m:Nat}{fl:Bool}{h:Rd}{e:Array J0}{T:Q7}{K:Unit->aa->Prop}(x:(Ec J9 f l != (0:Int))=fl)(n:KU a b h)(y:h.rest.length<=1099511627776)
  (z:m<=9223372036854775807) (o:a[d]? =some (J2 e T (0,0))) (A:g<e.size) (B:e.setIfInBounds g (J6 J9 0)=e) (p:b≠d)
  (q: ∀i,KU i b (Ei fl m h).2->i[d]? =some (J2 (e.setIfInBounds g (J6 J9 ((Ei fl m h).1:Int))) T (0,0))->Mod (λc=>c=b\/c=d) a i->K () i):
  ae (Ec J9 f l != (0:Int)) (AA w P Ag #[Ar b,J6 J9 (m:Int)] a λv r=> ∃t:Int,v=J6 J9 t/\(ab r ((⟨d,0,none⟩:Q6).add g) (J6 J9 t) λj=>K () j)) (K () a):=by
 rw[x];cases fl with
 |false=>exact ae.no rfl (q a n (by simp only[Ei,BW,if_false];rw[show(((0:Nat):Int))=(0:Int) from rfl,B];exact o) Mod.refl)
 |true=>
  refine ae.yes rfl (EQ n y z λr C s=>⟨_,rfl,?_⟩);refine ab.dx (s.ag o p.symm) A λj D u E=>?_
  exact q j (u.ag C p) D ((s.ak λc _ k=> .inl k).trans (u.ak λc _ k=> .inr k))
abbrev EvC(i b t a s c:Int)(u:Bool)(d:A31):Array J0:= #[J6 J9 i,J6 J9 b,J6 J9 t,J6 J9 a,J6 J9 s,J6 J9 c,J3 u,J7 d]
theorem AQv {av:ao}{b:aa}{e:Nat}{d:Rd}{M:A30}(N:KU b e d)(bb:d.rest.length<1099511627776)
  (O: ∀E,KU E e (Qk eZ d).2->Mod (· =e) b E->M (oB (Qk eZ d).1) E):AA av P Sm #[Ar e] b M:=by
 refine AFN ?_;unfold Zz;have bc:=Aj N;refine aj.mk λy _ Q z aw=>?_
 have R:=z.ag N (λb=>b);have bd:CX 500 d=CX eZ.id d:=rfl;have be:=IX 500 d;have bf:=IX 18 (CX 500 d).2;have bg:=IX 1099511627776 (CX 18 (CX 500 d).2).2;refine EQ (most:=500) R (by omega) (by decide) λbh S A=>⟨_,rfl,?_⟩
 refine EQ (most:=18) S (by omega) (by decide) λbi T U=>⟨_,rfl,?_⟩
 refine EQ (most:=1099511627776) T (by omega) (by decide) λu F V=>⟨_,rfl,?_⟩
 have l:=(A.trans U).trans V;have W:=l.ag Q (by omega);have ax:y.size<=u.size:=l.size;refine aj.mk λbj _ X B ay=>ab.eight X λaz Y C aA=>?_
 have n:e≠u.size:=by have:=Aj F;omega
 have aC:b.size≠u.size:=by omega
 have aD:=C.ag (B.ag F (λb=>b)) n;have aE:=C.ag (B.ag W (λb=>b)) aC;have aF:Mod (· =e) b az:=by have q:Mod (· =e) b u:=z.mod.trans l;exact q.then ((B.mod.trans C).ak λc _ g=> .inr (by have:=l.size;have:=z.size;omega))
 refine AC.mk (AB Y rfl) (YG ⟨_,_,rfl,?_⟩);obtain⟨aG,aH,aI,aJ,aK⟩:=rY ((CX 18 (CX 500 d).2).1:Int);have bk:b.size<=u.size:=by omega
 have bm:b.size<=b.size:=A0 _;have bn:Qk eZ d=Qk eZ d:=rfl;generalize aL:((CX 18 (CX 500 d).2).1:Int)=a at*
 generalize aM:CX 1099511627776 (CX 18 (CX 500 d).2).2=t at*
 generalize hi:((CX 500 d).1:Int)=i at*
 have aN:Qk eZ d=(⟨i,a,t.1,(Ei (cQ a) 500 t.2).1,(Ei (dd a) 15 (Ei (cQ a) 500 t.2).2).1,(Ei (dq a) 5 (Ei (dd a) 15 (Ei (cQ a) 500 t.2).2).2).1,
   decide ((Ei (dN a) 1 (Ei (dq a) 5 (Ei (dd a) 15 (Ei (cQ a) 500 t.2).2).2).2).1=1),Ad (Uk (dQ a) (Ei (dN a) 1 (Ei (dq a) 5 (Ei (dd a) 15 (Ei (cQ a) 500 t.2).2).2).2).2).1⟩,
   (Uk (dQ a) (Ei (dN a) 1 (Ei (dq a) 5 (Ei (dd a) 15 (Ei (cQ a) 500 t.2).2).2).2).2).2):=by
  simp only[Qk,<-aL,<-aM,<-hi];rfl
 have bo:=NN (cQ a) 500 t.2;have bp:=NN (dd a) 15 (Ei (cQ a) 500 t.2).2;have bq:=NN (dq a) 5 (Ei (dd a) 15 (Ei (cQ a) 500 t.2).2).2;have br:=NN (dN a) 1 (Ei (dq a) 5 (Ei (dd a) 15 (Ei (cQ a) 500 t.2).2).2).2;rw[aN] at O;generalize u.size=v at*
 generalize aO:Ei (cQ a) 500 t.2=G at*
 generalize aP:Ei (dd a) 15 G.2=os at*
 generalize aQ:Ei (dq a) 5 os.2=s at*
 generalize Z:Ei (dN a) 1 s.2=f at*
 clear Q W X R S T F z B A U V l C aw ax ay aA;have up: ∀ {ac af:aa},Mod (· =e) b ac->Mod (λc=>c=e\/c=v) ac af->Mod (· =e) b af:=λaR A=>aR.then (A.ak λc _ g=>g.elim .inl λbs=> .inr (by omega))
 refine ah.mk λK aS=>?_
 refine si (m:=500) (fl:=cQ a) (by rw[aG,Mg (by decide)]) aD (by omega) (by decide) Y (by simp) rfl n λbt ag ai l=>aS _ _ ?_
 rw[aO] at ag ai;have aT:=l.ag aE (by omega);have aU:=up aF l;refine ah.mk λbu aV=>?_
 refine si (m:=15) (fl:=dd a) (by rw[aH,Mg (by decide)]) ag (by omega) (by decide) ai (by simp) rfl n λbv ak al am=>aV _ _ ?_
 rw[aP] at ak al;have aW:=am.ag aT (by omega);have aX:=up aU am;refine ah.mk λbw aY=>?_
 refine si (m:=5) (fl:=dq a) (by rw[aI,Mg (by decide)]) ak (by omega) (by decide) al (by simp) rfl n λan H I ap=>aY _ _ ?_
 rw[aQ] at H I;have aZ:=ap.ag aW (by omega);have a0:=up aX ap;refine ah.mk λa1 a2=>?_
 have aq: ∀o,KU o e f.2->o[v]? =some (J2 (EvC i a t.1 G.1 os.1 s.1 (decide (f.1=1)) IQ) BI (0,0))->Mod (λc=>c=e\/c=v) an o->a1 () o:=λo D ar w=>by
  refine a2 _ _ ?_;have a3:=w.ag aZ (by omega);have a4:=up a0 w;refine ah.mk λa5 a6=>?_
  have au: ∀p,KU p e (Uk (dQ a) f.2).2->p[v]? =some (J2 (EvC i a t.1 G.1 os.1 s.1 (decide (f.1=1)) (Ad (Uk (dQ a) f.2).1)) BI (0,0))->Mod (λc=>c=e\/c=v) o p->a5 () p:=λp J h r=>by
   refine a6 _ _ ?_;have a7:=r.ag a3 (by omega);have a8:=up a4 r;refine AC.mk (AO h rfl) (AC.mk (AB h rfl) (AC.mk (AB h rfl) (AC.mk (AB h rfl) (AC.mk (AB h rfl) (AC.mk (AB h rfl) (Aa.mk (AB h rfl) (AL.mk (AB h rfl) ?_)))))));refine ab.eight a7 λL k x a9=>?_
   refine AC.mk (AO k rfl) (AC.mk (AB k rfl) (AC.mk (AB k rfl) (AC.mk (AB k rfl) (AC.mk (AB k rfl) (AC.mk (AB k rfl) (Aa.mk (AB k rfl) (AL.mk (AB k rfl) ?_)))))));exact O L (x.ag J (by omega)) (a8.then (x.ak λc _ g=> .inr (by omega)))
  rw[aK,Mg (by decide)];refine ae.intro (λq=>?_) (λq=>?_)
  ·refine Ic D (by omega) λp J r=>⟨_,rfl,?_⟩
   refine ab.dx (r.ag ar n.symm) (by simp) λL k x a9=>?_
   have j:Uk (dQ a) f.2=GZ f.2:=by simp only[Uk,q,if_true]
   refine au L (by rw[j];exact x.ag J n) (by rw[j];exact k) ((r.ak λc _ g=> .inl g).trans (x.ak λc _ g=> .inr g))
  ·have j:Uk (dQ a) f.2=([],f.2):=by simp only[Uk,q,BW,if_false]
   exact au o (by rw[j];exact D) (by rw[j];exact ar) Mod.refl
 rw[aJ,Mg (by decide)];refine ae.intro (λq=>?_) (λq=>?_)
 ·have j:f=CX 1 s.2:=by rw[<- Z];simp only[Ei,q,if_true]
  refine EQ (most:=1) H (by omega) (by decide) λo D w=>⟨_,rfl,?_⟩
  refine ab.dx (w.ag I n.symm) (by simp) λp h r bx=>?_
  have ba:((((CX 1 s.2).1:Nat):Int)==(1:Int))=decide (f.1=1):=by
   rw[j];by_cases y:(CX 1 s.2).1=1
   ·rw[y];rfl
   ·rw[decide_eq_false y,beq_eq_false_iff_ne];omega
  rw[ba] at h;refine aq p (by rw[j];exact r.ag D n) h ((w.ak λc _ g=> .inl g).trans (r.ak λc _ g=> .inr g))
 ·have j:f=(0,s.2):=by rw[<- Z];simp only[Ei,q,BW,if_false]
  exact aq an (by rw[j];exact H) (by rw[j];exact I) Mod.refl
def evZ:Ev:=⟨0,0,0,0,0,0,false,IQ⟩
def AVs(a:Option Ev):J0:=J1 #[oB (a.getD evZ),J6 J9 (if a.isSome then 0 else 60)]
theorem ALe {F:ao}{b:aa}{l:List UInt8}{r:A30}(G:l.length<1099511627776)(s: ∀t,Ext b t->r (AVs (jK l)) t):AA F P PP #[J7 (Ad l)] b r:=by
 refine ACY ?_;unfold U0;refine aj.mk λU _ H u V=>?_
 refine NI λW v w=>⟨_,rfl,?_⟩
 have X:=Aj v;refine AQv v G λI J i=>⟨_,_,_,_,_,_,_,_,rfl,?_⟩
 have L:=i.ag (w.ag H (λb=>b)) (by omega);have y:Ext b I:=(u.trans w).more i λc g=>by subst g;exact u.size
 have M:=APn eZ ⟨l,false⟩;refine aj.mk λY _ N j Z=>ab.eight N λk d m ac=>?_
 have af:=i.size;have z:Ext b k:=(y.trans j).more m λc g=>by subst g;exact y.size
 have A:=m.ag (j.ag L (λb=>b)) (by omega);have O:=m.ag (j.ag J (λb=>b)) (by omega);refine ah.mk λK B=>?_
 refine QA O ⟨_,rfl,?_⟩;have n:jK l=if fU (Qk eZ ⟨l,false⟩).2&&Ea (Qk eZ ⟨l,false⟩).1 then some (Qk eZ ⟨l,false⟩).1 else none:=rfl;generalize (Qk eZ ⟨l,false⟩).2=C at*
 generalize (Qk eZ ⟨l,false⟩).1=e at*
 have D:jK l=none-> ∀o,Ext k o->K (true,()) o:=λQ o x=>by
  refine B _ _ (ae.yes rfl ?_);refine ab.eight (x.ag A (λb=>b)) λp a R ag=>?_
  refine AC.mk (AO a rfl) (AC.mk (AB a rfl) (AC.mk (AB a rfl) (AC.mk (AB a rfl) (AC.mk (AB a rfl) (AC.mk (AB a rfl) (Aa.mk (AB a rfl) (AL.mk (AB a rfl) ?_)))))));have:=s p ((z.trans x).more R λc g=>by omega);rw[Q] at this;exact this
 refine ae.intro (λq=>?_) (λq=>?_)
 ·have q:fU C=false:=by simpa using q
  exact D (by rw[n,q];rfl) k Mod.refl
 ·have q:fU C=true:=by simpa using q
  refine AC.mk (AO d rfl) (AC.mk (AB d rfl) (AC.mk (AB d rfl) (AC.mk (AB d rfl) (AC.mk (AB d rfl) (AC.mk (AB d rfl) (Aa.mk (AB d rfl) (AL.mk (AB d rfl) ?_)))))));refine sd (e:=e) (by simp only at M;omega) λp h=>⟨_,rfl,?_⟩
  cases E:Ea e with
  |false=>exact D (by rw[n,E,On];rfl) p h
  |true=>
   refine B _ _ (ae.no rfl ?_);have a:=h.ag d (λb=>b);refine AC.mk (AO a rfl) (AC.mk (AB a rfl) (AC.mk (AB a rfl) (AC.mk (AB a rfl) (AC.mk (AB a rfl) (AC.mk (AB a rfl) (Aa.mk (AB a rfl) (AL.mk (AB a rfl) ?_)))))));refine ab.eight (h.ag A (λb=>b)) λS f T ai=>?_
   refine AC.mk (AO f rfl) (AC.mk (AB f rfl) (AC.mk (AB f rfl) (AC.mk (AB f rfl) (AC.mk (AB f rfl) (AC.mk (AB f rfl) (Aa.mk (AB f rfl) (AL.mk (AB f rfl) ?_)))))));have:=s S ((z.trans h).more T λc g=>by omega);rw[n,q,E] at this;exact this
theorem lU:Qr P Ba BI de.w 72=true:=by kernel_rfl
theorem AGJ {a:Ev}(h:Ej a=true)(hd:a.data.size<18446744073709551616):(Nv a).length<=100+a.data.size:=by
 have c:=h;simp only[Ej,A3] at c;obtain⟨⟨⟨⟨⟨⟨⟨i,j⟩,k⟩,d⟩,e⟩,g⟩,l⟩,m⟩:=c;have o:=Bb.1 i;have p:=Bb.1 j;have q:=Bb.1 k;have r:=AX (n:=a.id.toNat) (by omega);have s:=AX (n:=a.kind.toNat) (by omega);have t:=AX (n:=a.tick.toNat) (by omega);have u:=NE (f:=cQ a.kind) (n:=a.ref) (by cases b:cQ a.kind<;>rw[b] at d<;>simp[cU,bP] at d<;>omega);have v:=NE (f:=dd a.kind) (n:=a.step) (by cases b:dd a.kind<;>rw[b] at e<;>simp[cU,bP] at e<;>omega);have w:=NE (f:=dq a.kind) (n:=a.turn) (by cases b:dq a.kind<;>rw[b] at g<;>simp[cU,bP] at g<;>omega);have x:=NE (f:=dN a.kind) (n:=if a.aK then 1 else 0) (by split<;>omega);have y:(gG (dQ a.kind) a.data).length<=10+a.data.size:=by
  cases b:dQ a.kind with
  |false=>simp[gG]
  |true=>
   simp only[gG,if_true,BU,A1,BA];have:=AX hd;omega
 simp only[Nv,A1];omega
end Go.Lf.G
namespace Go.Lf
open Go
def UK(a:Int)(v:J0):List (Int×J0)->List (Int×J0)
 | []=> [(a,v)]
 |p::m=>if p.1=a then(a,v)::m else p::UK a v m
def Lx(a:Int)(m:List (Int×J0)):Option J0:=(m.find? λp=>decide (p.1=a)).map (·.2)
def gX(a:Int)(m:List (Int×J0)):List (Int×J0):=m.filter λp=> !decide (p.1=a)
theorem Gc(a:Int)(p:Int×J0)(m:List (Int×J0)):Lx a (p::m)=if p.1=a then some p.2 else Lx a m:=by unfold Lx;rw[DS];by_cases b:p.1=a<;>simp[b]
theorem rA(a:Int)(v:J0)(c:Int): ∀m,Lx c (UK a v m)=if a=c then some v else Lx c m
 | []=>by unfold UK;rw[Gc]
 |p::m=>by
  unfold UK;split
  ·rename_i d;rw[Gc,Gc];by_cases b:a=c<;>simp[d,b]
  ·rename_i d;rw[Gc,Gc,rA a v c m];by_cases b:a=c
   ·subst b;simp[d]
   ·simp[b]
structure Xn (kd:IntKind) (es:Array MapEntry) (clock:Nat) (m:List (Int×J0)):Prop where
 same:es.toList.map (λe=>(e.key,e.val))=m.map λp=>(Value.int kd p.1,p.2)
 stamped:MapKept.Stamped es clock
 size:es.size<=maxLen
def UB(kd:IntKind)(d:aa)(b:Nat)(m:List (Int×J0)):Prop:= ∃a c,d[b]? =some (.map a c)/\Xn kd a c m
theorem UB.mod {kd:IntKind}{a c:aa}{b:Nat}{m:List (Int×J0)}{d:Nat->Prop}(M:UB kd a b m)(x:Mod d a c)(e: ¬d b):UB kd c b m:=by obtain⟨f,g,h,i⟩:=M;exact⟨f,g,x.ag h e,i⟩
theorem UB.lt {kd:IntKind}{a:aa}{b:Nat}{m:List (Int×J0)}(M:UB kd a b m):b<a.size:=by obtain⟨d,e,c,f⟩:=M;exact Aj c
theorem UB.empty {kd:IntKind}{a:aa}{b c:Nat}(d:a[b]? =some (.map #[] c)):UB kd a b []:=⟨#[],c,d,rfl,MapKept.stamped_empty c,by simp⟩
theorem Xn.len {kd:IntKind}{a:Array MapEntry}{b:Nat}{m:List (Int×J0)}(M:Xn kd a b m):a.size=m.length:=by rw[<- FG];have:=congrArg List.length M.same;simpa using this
theorem Xn.keysOf {kd:IntKind}{a:Array MapEntry}{b:Nat}{m:List (Int×J0)}(M:Xn kd a b m):a.toList.map (·.key)=m.map λp=>Value.int kd p.1:=by have:=congrArg (List.map Prod.fst) M.same;simpa [Cp,GP] using this
theorem Xn.nodup {kd:IntKind}{b:Array MapEntry}{c:Nat}{m:List (Int×J0)}(M:Xn kd b c m):(m.map (·.1)).Nodup:=by
 have a:=M.stamped.2.2;rw[M.keysOf] at a;have d:(m.map λp=>Value.int kd p.1)=(m.map (·.1)).map (Value.int kd):=by simp
 rw[d] at a;exact(List.pairwise_map.1 a).imp λe f=>e (by rw[f])
theorem O6 {kd:IntKind}(a:Int)(v:J0): ∀(c:List MapEntry) (m:List (Int×J0)) (i:Nat),(c.map λe=>(e.key,e.val))=(m.map λp=>(Value.int kd p.1,p.2))->
  (Instr.findNow (.int kd) (.int kd a) c i=some none/\Lx a m=none/\UK a v m=m++ [(a,v)]/\gX a m=m/\ ∀e∈c,e.key≠ .int kd a)\/
  ∃d u,Instr.findNow (.int kd) (.int kd a) c i=some (some (i+d,u))/\Lx a m=some u/\(∃ e,c[d]? =some e/\e.key= .int kd a)/\((c.modify d λe=> {e with key:= .int kd a,val:=v}).map λe=>(e.key,e.val))=(UK a v m).map (λp=>(Value.int kd p.1,p.2))/\
   ((m.map (·.1)).Nodup->((c.eraseIdx d).map λe=>(e.key,e.val))=(gX a m).map λp=>(Value.int kd p.1,p.2))
 | [],[],i,_=> .inl ⟨rfl,rfl,rfl,rfl,by simp⟩
 | [],_::_,_,h=>by simp at h
 |_::_,[],_,h=>by simp at h
 |e::c,p::m,i,h=>by
  simp only[BY,Gk,Mn] at h;obtain⟨⟨j,l⟩,n⟩:=h;have o:Instr.sameNow (.int kd) (.int kd a) e.key=some (decide (a=p.1)):=by rw[j];show(if kd=kd then some (a==p.1) else none)=_;rw[if_pos rfl];congr 1
  by_cases b:p.1=a
  ·refine .inr ⟨0,e.val,?_,?_,⟨e,rfl,by rw[j,b]⟩,?_,?_⟩
   ·unfold Instr.findNow;rw[o,decide_eq_true b.symm];rfl
   ·rw[Gc,if_pos b,l]
   ·unfold UK;rw[if_pos b];simp[n]
   ·intro g;have g:=List.nodup_cons.1 g;simp only[List.eraseIdx_zero,List.tail_cons];rw[n];congr 1;unfold gX;rw[AT];simp only[b,decide_true,LN,BW,if_false];refine(List.filter_eq_self.2 λq y=>?_).symm;simp only[Cd,decide_eq_false_iff_not];rintro rfl;exact g.1 (by show p.1∈_;rw[b];exact Kf (f:=Prod.fst) y)
  ·rcases O6 a v c m (i+1) n with⟨r,s,t,k,z⟩|⟨d,u,r,s,⟨A,t,B⟩,C,k⟩
   ·refine .inl ⟨?_,?_,?_,?_,?_⟩
    ·unfold Instr.findNow;rw[o,decide_eq_false (λe=>b e.symm)];exact r
    ·rw[Gc,if_neg b];exact s
    ·unfold UK;rw[if_neg b,t];rfl
    ·unfold gX at k ⊢;rw[AT];simp[b];simpa using k
    ·intro x w;rcases List.mem_cons.1 w with rfl|w
     ·rw[j];intro e;injection e with _ e;exact b e
     ·exact z x w
   ·refine .inr ⟨d+1,u,?_,?_,⟨A,by simpa using t,B⟩,?_,?_⟩
    ·unfold Instr.findNow;rw[o,decide_eq_false (λe=>b e.symm)];rw[show i+(d+1)=i+1+d by omega];exact r
    ·rw[Gc,if_neg b];exact s
    ·unfold UK;rw[if_neg b];simp[j,l,C]
    ·intro g;have g:=List.nodup_cons.1 g;have:=k g.2;unfold gX at this ⊢;rw[AT];simp[b,j,l];simpa using this
section
variable {P : Q1} {kd : IntKind}
theorem GM {a:Q7}(c:P.underlying a=some (.int kd))(d:Bool)(e:Nat)(f:Int)(b:World):(Instr.checkKey d (e+1) a (.int kd f)).run P b= .ok () b:=by simp[Instr.checkKey,BK c]
theorem MQ {g:ao}{t h i:Q7}{z:J0}(j:P.underlying t=some (.map h i))(c:P.underlying h=some (.int kd))(n:(zeroValue i).calc P=some z){a:aa}{b:Nat}{m:List (Int×J0)}{d:Int}{K:A30}
  (M:UB kd a b m) (o:K ((Lx d m).getD z) a):Af g P (Instr.lookup t (.map (some b)) (.int kd d) false) a K:=by
 intro k;refine⟨_,a,k,?_,o⟩;obtain⟨p,v,q,s⟩:=M;have l:=MapKept.run_getObj_map (P:=P) (w:=g.at a k) (r:=b) q;rcases O6 d z p.toList m 0 s.same with⟨e,f,_⟩|⟨x,u,e,f,_,_⟩
 ·simp[Instr.lookup,BK j,l,GM c,Instr.findKey,BK c,e,f,Result.andThen,De n]
 ·simp[Instr.lookup,BK j,l,GM c,Instr.findKey,BK c,e,f,Result.andThen]
theorem ALV {g:ao}{t q G:Q7}(s:P.underlying t=some (.map q G))(h:P.underlying q=some (.int kd)){a:aa}{b:Nat}{m:List (Int×J0)}{d:Int}{v:J0}{K:aa->Prop}
  (M:UB kd a b m) (O:m.length<maxLen) (y: ∀i,UB kd i b (UK d v m)->Mod (λc=>c=b) a i->i.size=a.size->K i):YN g P (Instr.mapUpdate t (.map (some b)) (.int kd d) v) a K:=by
 intro f;obtain⟨j,l,n,e⟩:=M;have z:=Aj n;have A:=MapKept.run_getObj_map (P:=P) (w:=g.at a f) (r:=b) n;have B: ∀k,(setObj b k).run P (g.at a f)= .ok () (g.at (a.setIfInBounds b k) f):=λk=>MapKept.run_setObj_map (P:=P) (w:=g.at a f) k n
 have Q:=e.len;rcases O6 d v j.toList m 0 e.same with⟨o,H,p,_,I⟩|⟨C,u,o,H,⟨J,p,D⟩,L,_⟩
 ·refine⟨a.setIfInBounds b (.map (j.push {key:= .int kd d,val:=v,born:=l}) (l+1)),f,?_,y _ ⟨_,_,Ce z,?_,MapKept.stamped_push e.stamped I,by simp;omega⟩ (Mod.setObj rfl) (by simp)⟩
  ·simp[Instr.mapUpdate,BK s,A,GM h,Instr.findKey,BK h,o,Result.andThen,B]
  ·rw[p];simp[e.same]
 ·have E:j[C]? =some J:=by simpa using p
  refine⟨a.setIfInBounds b (.map (j.modify C λe=> {e with key:= .int kd d,val:=v}) l),f,?_,y _ ⟨_,_,Ce z,?_,MapKept.stamped_modify e.stamped _ _ (λ_ _=>rfl) (λx _ F=>?_),by simpa using e.size⟩ (Mod.setObj rfl) (by simp)⟩
  ·have N: ∀w,(Instr.keyThatStays (.int kd d) (.int kd d)).run P w= .ok (.int kd d) w:=λw=>by
    simp[Instr.keyThatStays,Instr.sameBits]
   simp[Instr.mapUpdate,BK s,A,GM h,Instr.findKey,BK h,o,E,D,N,Result.andThen,B]
  ·rw[HA];exact L
  ·rw[E] at F;cases F;exact D.symm
theorem ALN {g:ao}{t k B C:Q7}(s:P.underlying t=some (.map k B))(h:P.underlying k=some (.int kd)){a:aa}{b:Nat}{m:List (Int×J0)}{l:Int}{K:A30}
  (M:UB kd a b m) (v: ∀i,UB kd i b (gX l m)->Mod (λc=>c=b) a i->i.size=a.size->K (J1 #[]) i):Af g P (Builtin.delete_ #[t,k] C #[.map (some b),.int kd l]) a K:=by
 intro e;obtain⟨f,x,n,d⟩:=M;have y:=Aj n;have z:=MapKept.run_getObj_map (P:=P) (w:=g.at a e) (r:=b) n;have A: ∀j,(setObj b j).run P (g.at a e)= .ok () (g.at (a.setIfInBounds b j) e):=λj=>MapKept.run_setObj_map (P:=P) (w:=g.at a e) j n
 rcases O6 l (J3 true) f.toList m 0 d.same with⟨o,D,_,p,_⟩|⟨q,u,o,D,⟨E,F,I⟩,_,p⟩
 ·refine⟨_,a.setIfInBounds b (.map f x),e,?_,v _ ⟨_,_,Ce y,by rw[p];exact d.same,d.stamped,d.size⟩ (Mod.setObj rfl) (by simp)⟩;simp[Builtin.delete_,BK s,z,GM h,Instr.findKey,BK h,o,Result.andThen,A]
 ·have G:f[q]? =some E:=by simpa using F
  refine⟨_,a.setIfInBounds b (.map (f.eraseIdxIfInBounds q) x),e,?_,v _ ⟨_,_,Ce y,?_,MapKept.stamped_erase d.stamped _,?_⟩ (Mod.setObj rfl) (by simp)⟩
  ·simp[Builtin.delete_,BK s,z,GM h,Instr.findKey,BK h,o,Result.andThen,A]
  ·have H:=(Array.getElem?_eq_some_iff.1 G).1;rw[Array.eraseIdxIfInBounds,dif_pos H,A0i];exact p d.nodup
  ·have:(f.eraseIdxIfInBounds q).size<=f.size:=by unfold Array.eraseIdxIfInBounds;split<;>simp
   have:=d.size;omega
end
theorem yG(b c:Int): ∀m:List (Int×J0),Lx c (gX b m)=if b=c then none else Lx c m
 | []=>by simp[Lx,gX]
 |p::m=>by
  have e:=yG b c m;unfold gX at e ⊢;rw[AT,Gc];by_cases d:p.1=b
  ·rw[if_neg (by simp[d]),e];by_cases a:b=c
   ·rw[if_pos a,if_pos a]
   ·rw[if_neg a,if_neg a,if_neg (λf=>a (d.symm.trans f))]
  ·rw[if_pos (by simp[d]),Gc,e];by_cases a:p.1=c
   ·rw[if_pos a,if_pos a,if_neg (λf=>d (a.trans f.symm))]
   ·rw[if_neg a,if_neg a]
theorem ARL {a:Int}{m:List (Int×J0)}:(gX a m).length<=m.length:=Iv _ _
theorem Yw {k:Int}{v:J0}: ∀ {m:List (Int×J0)},(UK k v m).length<=m.length+1
 | []=>by simp[UK]
 |p::m=>by
  unfold UK;split
  ·simp
  ·have:=Yw (k:=k) (v:=v) (m:=m);simp only[Ax];omega
section
variable {P : Q1} {kd : IntKind}
theorem yH {i:ao}{t O Q:Q7}{z:J0}(R:P.underlying t=some (.map O Q))(A:P.underlying O=some (.int kd))(Y:(zeroValue Q).calc P=some z){f:aa}{b:Nat}{m:List (Int×J0)}{g:Int}{v:J0}{K:aa->Prop}
  (M:UB kd f b m) (al:m.length<maxLen) (S: ∀B,UB kd B b (UK g v m)->Mod (λc=>c=b) f B->B.size=f.size->K B):
  Af i P (Instr.mapEntry t (.map (some b)) (.int kd g)) f λw n=> ∃x u:J0,w=J1 #[x,u]/\ ∃st:Int,u=J6 J9 st/\(YN i P (Instr.entryStore t (.map (some b)) (J6 J9 st) v) n λZ=>K Z):=by
 intro y;obtain⟨e,d,E,h⟩:=M;have T:=Aj E;have U:=MapKept.run_getObj_map (P:=P) (w:=i.at f y) (r:=b) E;have V: ∀k,(setObj b k).run P (i.at f y)= .ok () (i.at (f.setIfInBounds b k) y):=λk=>MapKept.run_setObj_map (P:=P) (w:=i.at f y) k E
 have am:=h.len;obtain⟨ab,W,_⟩:=h.stamped;rcases O6 g v e.toList m 0 h.same with⟨F,ac,p,_,ae⟩|⟨j,u,F,ac,⟨q,p,C⟩,af,_⟩
 ·refine⟨J1 #[z,goInt d],f.setIfInBounds b (.map (e.push ⟨.int kd g,z,d⟩) (d+1)),y,?_,z,goInt d,rfl,(d:Int),rfl,λo=>?_⟩
  ·simp[Instr.mapEntry,BK R,U,GM A,Instr.findKey,BK A,F,Result.andThen,De Y,V]
  have s:(f.setIfInBounds b (.map (e.push ⟨.int kd g,z,d⟩) (d+1)))[b]? =some (.map (e.push ⟨.int kd g,z,d⟩) (d+1)):=Ce T;have G:Mod (λc=>c=b) f (f.setIfInBounds b (.map (e.push ⟨.int kd g,z,d⟩) (d+1))):=Mod.setObj rfl;have ag:(f.setIfInBounds b (.map (e.push ⟨.int kd g,z,d⟩) (d+1))).size=f.size:=by simp
  generalize f.setIfInBounds b (.map (e.push ⟨.int kd g,z,d⟩) (d+1))=n at*
  have H:=Aj s;have I:=MapKept.run_getObj_map (P:=P) (w:=i.at n o) (r:=b) s;have J: ∀k,(setObj b k).run P (i.at n o)= .ok () (i.at (n.setIfInBounds b k) o):=λk=>MapKept.run_setObj_map (P:=P) (w:=i.at n o) k s
  have L:(e.push ⟨.int kd g,z,d⟩).findIdx? (λh=>((h.born:Nat):Int)==((d:Nat):Int))=some e.size:=by
   rw[WideElems.findIdx_arr];exact WideElems.findIdx_born (l:=(e.push ⟨.int kd g,z,d⟩).toList) (j:=e.size) (e0:=⟨.int kd g,z,d⟩) (by
    simp only[Sf,Bs,BY,List.map_nil];refine List.nodup_append.2 ⟨W,by simp,λa ah c ai an=>?_⟩;simp only[List.mem_singleton] at ai;obtain⟨x,D,rfl⟩:=List.mem_map.1 ah;have:=ab x D;omega) (by simp)
  have N:(e.push ⟨.int kd g,z,d⟩).modify e.size (λh=> {h with val:=v})=e.push ⟨.int kd g,v,d⟩:=by apply NO;rw[HA,Sf,Sf,<-FG,WideElems.modify_last]
  refine⟨n.setIfInBounds b (.map (e.push ⟨.int kd g,v,d⟩) (d+1)),o,?_,S _ ⟨_,_,Ce H,?_,MapKept.stamped_push h.stamped ae,by simp;omega⟩ (G.trans (Mod.setObj rfl)) (by simp;omega)⟩
  ·simp[Instr.entryStore,I,asInt,asIntOf,goInt,L,N,J,Result.andThen]
  ·rw[p];simp[h.same]
 ·have X:e[j]? =some q:=by simpa using p
  have aj:e.modify j (λh=> {h with key:= .int kd g})=e:=by
   apply NO;rw[HA,ChangeMaps.modify_eq_set _ _ _ _ p];have:({q with key:= .int kd g}:MapEntry)=q:=by rw[<- C]
   rw[this];exact WideElems.set_self _ _ _ p
  have ak: ∀w,(Instr.keyThatStays (.int kd g) (.int kd g)).run P w= .ok (.int kd g) w:=λw=>by
   simp[Instr.keyThatStays,Instr.sameBits]
  refine⟨J1 #[u,goInt q.born],f.setIfInBounds b (.map e d),y,?_,u,goInt q.born,rfl,(q.born:Int),rfl,λo=>?_⟩
  ·simp[Instr.mapEntry,BK R,U,GM A,Instr.findKey,BK A,F,X,C,ak,aj,Result.andThen,V]
  have s:(f.setIfInBounds b (.map e d))[b]? =some (.map e d):=Ce T;have G:Mod (λc=>c=b) f (f.setIfInBounds b (.map e d)):=Mod.setObj rfl;have ag:(f.setIfInBounds b (.map e d)).size=f.size:=by simp
  generalize f.setIfInBounds b (.map e d)=n at*
  have H:=Aj s;have I:=MapKept.run_getObj_map (P:=P) (w:=i.at n o) (r:=b) s;have J: ∀k,(setObj b k).run P (i.at n o)= .ok () (i.at (n.setIfInBounds b k) o):=λk=>MapKept.run_setObj_map (P:=P) (w:=i.at n o) k s
  have L:e.findIdx? (λh=>((h.born:Nat):Int)==((q.born:Nat):Int))=some j:=by rw[WideElems.findIdx_arr];exact WideElems.findIdx_born W p
  have N:e.modify j (λh=> {h with val:=v})=e.modify j (λh=> {h with key:= .int kd g,val:=v}):=by apply NO;rw[HA,HA,ChangeMaps.modify_eq_set _ _ _ _ p,ChangeMaps.modify_eq_set _ _ _ _ p,<-C]
  refine⟨n.setIfInBounds b (.map (e.modify j λh=> {h with key:= .int kd g,val:=v}) d),o,?_,S _ ⟨_,_,Ce H,?_,MapKept.stamped_modify h.stamped _ _ (λ_ _=>rfl) (λx _ D=>?_),by simpa using h.size⟩ (G.trans (Mod.setObj rfl)) (by simp;omega)⟩
  ·simp[Instr.entryStore,I,asInt,asIntOf,goInt,L,N,J,Result.andThen]
  ·rw[HA];exact af
  ·rw[X] at D;cases D;exact C.symm
end
end Go.Lf
namespace Go.Lf.G
open Go
def CQ(a:Nat):A31:=Ad [Cq 108,Cq a]
def Kk(a:Nat)(name:A31):A31:=Ad (Bp a++BU (bl name))
theorem Kc(a:Nat):(CQ a).size=2:=rfl
theorem AOK(a:Nat):CQ a≠⟨#[]⟩:=λb=>by have:=congrArg ByteArray.size b;rw[Kc] at this;cases this
theorem ALQ {m a:Nat}(c:m<256)(d:a<256)(h:CQ m=CQ a):m=a:=by have b:=Oy.1 h;simp only[Gk,and_true,true_and] at b;have:=congrArg UInt8.toNat b;rwa [Dk c,Dk d] at this
theorem ALw {a:Nat}{name:A31}(d:a<=2147483647)(b:Am name=true):(Kk a name).size<=8192:=by have e:=(Gb.1 b).2.1;have f:=AX (n:=a) (by omega);have c:=AX (n:=(bl name).length) (by rw[BA];omega);unfold Kk BU;rw[AP,A1,A1,BA];rw[BA] at c;omega
section
variable {A : ao} {h : aa} {R : A30}
theorem UI {a:Nat}(b:a<256)(e: ∀c,Ext h c->R (J7 (CQ a)) c):AA A P IJ #[J6 J9 (a:Int)] h R:=by
 refine AFL ?_;unfold Zy;refine XB ?_;unfold R9;refine aj.mk λd _ f g j=>?_
 have v1:View IU d ⟨some ⟨h.size,0,none⟩,1,1⟩ [Cq a]:=(Own.lit (E:=IU) (l:= [Cq a]) f (by simp[IU,Dk b,wrap_u8,A5 b]) (by simp[maxLen])).view;refine MK (s:=⟨some ⟨h.size,0,none⟩,1,1⟩) lS lR RN v1 ⟨_,rfl,⟨_,rfl,⟨by rw[AP,max_i64,show(⟨#[108]⟩:A31).size=1 from rfl];simp,?_⟩⟩⟩;have i:(⟨#[108]⟩:A31)++Ad [Cq a]=CQ a:=by rw[show(⟨#[108]⟩:A31)=Ad [Cq 108] from rfl,Aq];rfl
 rw[i];exact e d g
theorem oJ {a:Nat}{name:A31}(k:1<=a)(m:a<=2147483647)(b:Am name=true)(f: ∀c,Ext h c->R (J1 #[J7 (Kk a name),J6 J9 0]) c):AA A P Kr #[J6 J9 (a:Int),J7 name] h R:=by
 obtain⟨l,rfl⟩: ∃l,name=Ad l:=⟨_,(EP name).symm⟩;have d:=(Gb.1 b).2.1;rw[AP] at d;refine AHb ?_;unfold vY;refine ah.mk λK g=>ae.no (decide_eq_false (by omega)) (ae.no (decide_eq_false (by omega)) (FK ⟨_,rfl,g _ _ (ae.no (by rw[b];rfl) ?_)⟩))
 rw[CJ (by omega)];have e:=AX (n:=a) (by omega);have o:=AX (n:=l.length) (by omega);refine Cf (by omega) λd i=>⟨_,rfl,?_⟩
 refine Ro (l:=l) (by omega) λe j=>⟨_,rfl,⟨?_,?_⟩⟩
 ·rw[AP,AP,max_i64];unfold BU;rw[A1];omega
 ·rw[Aq];have:=f e (i.trans j);unfold Kk at this;rwa [show bl (Ad l)=l from Bw l] at this
theorem AOx {r:Nat}{name:A31}(j:1<=r)(a:r<=2147483647)(b:Am name=true)(k: ∀d,Ext h d->R (J1 #[J6 J9 (r:Int),J7 name,J6 J9 0]) d):AA A P Qd #[J7 (Kk r name)] h R:=by
 have m:=b;obtain⟨l,rfl⟩: ∃l,name=Ad l:=⟨_,(EP name).symm⟩;have o:=(Gb.1 b).2.1;rw[AP] at o;have w:=AX (n:=r) (by omega);have x:=AX (n:=l.length) (by omega);have y:(BU l).length<=26:=by unfold BU;rw[A1];omega
 refine AEc ?_;unfold Xa Kk;rw[show bl (Ad l)=l from Bw l];refine NI (l:=Bp r++BU l) λz p q=>⟨_,rfl,?_⟩
 refine EQ (most:=2147483647) p (by simp only[A1];omega) (by decide) λB e s=>⟨_,rfl,?_⟩
 rw[DR (by omega) a] at e ⊢;refine Ic e (by dsimp only;omega) λt f u=>⟨_,rfl,?_⟩
 have g:=Ie (l:=l) (by omega) [];rw[AS] at g;rw[g] at f ⊢;refine oJ j a m λhd i=>⟨_,_,rfl,?_⟩
 refine ah.mk λK v=>ae.no rfl (QA (r:=⟨[],false⟩) (i.ag f λh=>h) ⟨_,rfl,v _ _ (ae.no rfl ?_)⟩)
 exact k hd ((q.then ((s.trans u).ak λc _ t=> .inr (by omega))).trans i)
end
theorem uG: ∀(k a:Nat),Ij (k+1) a=Cq (a / 256^k)::Ij k a
 |0,a=>by rw[Ij,Ij];simp[Ij]
 |k+1,a=>by
  rw[Ij,uG k (a / 256),Dd];show Cq (a / 256 / 256^k)::(Ij k (a / 256)++ [Cq a])=_;rw[Up,show 256*256^k=256^(k+1) from by rw[D0,Cl]];rfl
theorem uH(m:Nat):(m:Int).fdiv ((2:Int)^(8:Nat))=((m / 256:Nat):Int):=by rw[show((2:Int)^(8:Nat))=256 from by decide,UP _ (by decide)];omega
section
variable {A : ao} {h : aa} {R : A30}
theorem WA {n:Nat}(r: ∀o,Ext h o->R (J7 (Ad (Ij 8 n))) o):AA A P Jg #[.int .u64 (n:Int)] h R:=by
 refine AF2 ?_;unfold vF;refine Za (E:=IU) (x0:=0) (v:= .int .u8 0) (n:=8) WJ ANn rfl rfl rfl (by omega) (by simp only[maxLen];omega) λt u w D=>?_
 dsimp only;refine Loop.rule (λm x d=> ∃i:Nat,x=(((n / 256^i:Nat):Int),(i:Int),())/\m=8-i/\i<=8/\Mod (λc=>c=h.size) t d/\Own IU EL d ⟨some ⟨h.size,0,none⟩,8,8⟩ (List.replicate (8-i) 0++Ij i n)) ?_ ⟨0,by simp,rfl,by omega,Mod.refl,by simpa [Ij] using u⟩;rintro F m _ d ⟨i,rfl,rfl,hi,p,f⟩ y;dsimp only;refine ae.intro (λg=>?_) (λg=>?_)
 ·have k:i<8:=by simp at g;omega
  rw[wrap_i64 (by omega) (by omega),show(7:Int)-(i:Int)=((7-i:Nat):Int) from by omega,uH,Ab (by omega),Up,<-D0];have af:(List.replicate (8-i) (0:UInt8)++Ij i n)[7-i]? =some 0:=by rw[FF (by simp;omega),US,if_pos (by omega)]
  refine f.view.idx af λa z G=>?_
  rw[An,<-add_zero (a.add ((7-i)*1)),wrap_u8];refine Own.store (E:=IU) (i:=7-i) (j:=0) (x:=0) (x':=Cq (n / 256^i)) (v:= .int .u8 ((n / 256^i % 256:Nat):Int)) f af (by show [Value.int .u8 _]=_;rw[Rc,Dk (by omega)];rfl) (by decide) (λH q B I=>?_) a z;refine y (8-(i+1)) _ _ (by omega) ⟨i+1,rfl,rfl,k,p.trans (B.ak λb _ e=>?_),?_⟩
  ·simp[Sl.ag] at e;exact e.symm
  ·have C:(List.replicate (8-i) (0:UInt8)++Ij i n).set (7-i) (Cq (n / 256^i))=List.replicate (8-(i+1)) 0++Ij (i+1) n:=by rw[uG,show 8-i=(7-i)+1 from by omega,List.replicate_succ',A4,HW _ _ (by simp),PF,My,show 8-(i+1)=7-i from by omega];rfl
   rw[C] at q;exact q
 ·have k:i=8:=by simp at g;omega
  subst k;refine MK WJ AQK ANZ (s:=⟨some ⟨h.size,0,none⟩,8,8⟩) (l:=Ij 8 n) (by simpa using f.view) ⟨_,rfl,?_⟩;exact r d (w.more p λb e=>by subst e;exact A0 _)
theorem uI {wid:A31}(e:wid.size<=1000000)(b: ∀a,Ext h a->R (J7 (Xx wid)) a):AA A P Mc #[J7 wid] h R:=by
 refine AC7 ?_;unfold Xf;have f:=AX (n:=(bl wid).length) (by rw[BA];omega);refine Kg (by omega) λc d=>⟨_,rfl,⟨?_,?_⟩⟩
 ·rw[AP,max_i64];unfold BU;rw[A1,BA] at*
  rw[show(⟨#[104]⟩:A31).size=1 from rfl];omega
 ·rw[show(⟨#[104]⟩:A31)=Ad [kE] from rfl,Aq];exact b c d
theorem uJ {wid:A31}{id:Nat}(b:wid.size<=1000000)(c:id<18446744073709551616)(d: ∀a,Ext h a->R (J7 (dR wid id)) a):AA A P OA #[J7 wid,J6 J9 (id:Int)] h R:=by
 refine AFR ?_;unfold Yj;refine uI b λi e=>⟨_,rfl,?_⟩
 rw[if_neg (by omega),CJ c];have j:=AX (n:=(bl wid).length) (by rw[BA];omega);refine WA λf g=>⟨_,rfl,⟨⟨by decide,by rw[AP,LB];decide⟩,?_⟩⟩
 rw[show(Ad (Ij 8 id)).extract (4:Int).toNat (Ad (Ij 8 id)).size=Ad (Ij 4 id) from WB (Ij 8 id) 4];refine⟨?_,?_⟩
 ·unfold Xx kG BU;rw[AP,AP,LB,max_i64];simp only[Ax,A1,BA] at*
  omega
 ·have:=d f (e.trans g);unfold Xx;rw[Aq];exact this
theorem mW {wid:A31}(c:wid.size<=1000000)(a:R (J7 (KD wid)) h):AA A P GU #[J7 wid] h R:=by
 refine AId ?_;unfold wC;refine⟨by rw[max_i64,show(⟨#[119]⟩:A31).size=1 from rfl];omega,?_⟩;have b:(⟨#[119]⟩:A31)++wid=KD wid:=by
  conv=>lhs;rw[<- EP wid]
  rw[show(⟨#[119]⟩:A31)=Ad [119] from rfl,Aq];rfl
 rw[b];exact a
theorem uK {a:A31}(d:a.size<=1000000)(b:R (J7 (KS a)) h):AA A P KG #[J7 a] h R:=by
 refine AA4 ?_;unfold TM;refine⟨by rw[max_i64,show(⟨#[114]⟩:A31).size=1 from rfl];omega,?_⟩;have c:(⟨#[114]⟩:A31)++a=KS a:=by
  conv=>lhs;rw[<- EP a]
  rw[show(⟨#[114]⟩:A31)=Ad [114] from rfl,Aq];rfl
 rw[c];exact b
theorem Zx {a:Nat}(b:a<256)(e: ∀c,Ext h c->R (J7 (Ad [Cq a])) c):AA A P Le #[J6 J9 (a:Int)] h R:=by
 refine XB ?_;unfold R9;refine aj.mk λd _ f g i=>?_
 have v1:View IU d ⟨some ⟨h.size,0,none⟩,1,1⟩ [Cq a]:=(Own.lit (E:=IU) (l:= [Cq a]) f (by
  show [Value.int .u8 (J8 .u8 (a:Int))]= [Value.int .u8 ((Cq a).toNat:Int)];rw[wrap_u8,Dk b,A5 b]) (by simp[maxLen])).view
 exact MK (s:=⟨some ⟨h.size,0,none⟩,1,1⟩) lS lR RN v1 ⟨_,rfl,e d g⟩
theorem ARu {a id:Nat}(c:a<256)(d: ∀b,Ext h b->R (J7 (Cw a id)) b):AA A P KL #[J6 J9 (a:Int),.int .u64 (id:Int)] h R:=by
 refine AAX ?_;unfold TP;refine QN ?_;unfold MR;refine Zx c λi e=>⟨_,rfl,⟨by rw[AP,max_i64];show((2:Nat):Int)<=9223372036854775807;decide,⟨_,rfl,?_⟩⟩⟩
 rw[show(⟨#[116]⟩:A31)=Ad [116] from rfl,Aq];refine WA λf g=>⟨_,rfl,⟨by rw[AP,AP,LB,max_i64];show((10:Nat):Int)<=9223372036854775807;decide,?_⟩⟩
 rw[Aq];exact d f (e.trans g)
theorem ARn {a id t:Nat}(c:a<256)(d:t<18446744073709551616)(e: ∀b,Ext h b->R (J7 (TD a t id)) b):AA A P OY #[J6 J9 (a:Int),J6 J9 (t:Int),.int .u64 (id:Int)] h R:=by
 refine AFi ?_;unfold ZO;refine UZ ?_;unfold Qt;refine Zx c λk f=>⟨_,rfl,⟨by rw[AP,max_i64];show((2:Nat):Int)<=9223372036854775807;decide,⟨_,rfl,?_⟩⟩⟩
 rw[show(⟨#[109]⟩:A31)=Ad [109] from rfl,Aq,if_neg (by omega),CJ d];refine WA λl g=>⟨_,rfl,⟨by rw[AP,AP,LB,max_i64];show((10:Nat):Int)<=9223372036854775807;decide,?_⟩⟩
 rw[Aq];refine WA λi j=>⟨_,rfl,⟨by rw[AP,AP,A1,LB,max_i64];show((18:Nat):Int)<=9223372036854775807;decide,?_⟩⟩
 rw[Aq];exact e i ((f.trans g).trans j)
theorem uL {m:cI}{st nx:Nat}(f:m.status=(st:Int))(g:m.next=(nx:Int))(s:st<128)(t:nx<=501)(i: ∀d,Ext h d->R (J7 (RG st nx m.kept)) d):AA A P FJ #[m.v] h R:=by
 refine YR ?_;unfold Px;have u:=Fa (n:=st) (by omega);have v:=Fa (n:=nx) (by omega);refine aj.mk λj _ b k w=>ah.mk λK l=>?_
 have key: ∀n:Nat,n=(if m.kept then 1 else 0)->K ((n:Int),()) j:=λn c=>by
  refine l _ _ (AC.mk (AO b rfl) (AC.mk (AB b rfl) ?_));have x:(Bp n).length<=2:=Fa (by split at c<;>omega);rw[f,CJ (by omega)];refine Cf (by omega) λy e=>⟨_,rfl,?_⟩
  have o:=e.ag b (λh=>h);refine⟨AB o rfl,?_⟩;rw[g,CJ (by omega)];refine Cf (by omega) λz p=>⟨_,rfl,⟨by rw[AP,AP,max_i64];omega,?_⟩⟩
  rw[Aq];refine Cf (by split at c<;>omega) λq r=>⟨_,rfl,⟨by rw[AP,AP,A1,max_i64];omega,?_⟩⟩
  rw[Aq,A4];have:=i q (((k.trans e).trans p).trans r);unfold RG at this;rw[<- c] at this;exact this
 refine Aa.mk (AB b rfl) (ae.intro (λa=>?_) (λa=>?_))
 ·have a:m.kept=true:=a;exact key 1 (by rw[a];rfl)
 ·have a:m.kept=false:=a;exact key 0 (by rw[a];rfl)
theorem ALq {st nx:Nat}{a:Bool}(s:st<=4)(O:2<=nx)(t:nx<=501)(u: ∀l,Ext h l->R (J1 #[(⟨(st:Int),(nx:Int),a⟩:cI).v,J6 J9 0]) l):AA A P PD #[J7 (RG st nx a)] h R:=by
 refine ACI ?_;unfold UJ;refine aj.mk λv _ m o Q=>?_
 unfold RG;have S:=Fa (n:=st) (by omega);have T:=Fa (n:=nx) (by omega);have U:(Bp (if a then 1 else 0)).length<=2:=Fa (by split<;>omega);have w:CX 1 ⟨Bp (if a then 1 else 0),false⟩=((if a then 1 else 0),⟨[],false⟩):=by have:=DR (n:=if a then 1 else 0) (most:=1) (by split<;>omega) (by split<;>omega) [];rwa [AS] at this
 refine NI λx p d=>⟨_,rfl,?_⟩
 refine EQ (most:=4) p (by simp only[A1];omega) (by decide) λV y e=>⟨_,rfl,?_⟩
 rw[DR (by omega) s] at*
 refine EQ (most:=501) y (by simp only[A1];omega) (by decide) λW z f=>⟨_,rfl,?_⟩
 rw[DR (by omega) t] at*
 refine EQ (most:=1) z (by simp only;omega) (by decide) λB C g=>⟨_,rfl,?_⟩
 rw[w] at*
 refine aj.mk λX _ D i Y=>aD.mk D (A0 3) λj q k Z=>?_
 have aa:=Aj m;have ab:=d.size;have ac:=e.size;have af:=f.size;have ag:=g.size;have E:j[h.size]? =some (J2 cI.z.c JN (0,0)):=k.ag (i.ag (g.ag (f.ag (e.ag (d.ag m (λh=>h)) (by omega)) (by omega)) (by omega)) (λh=>h)) (by omega);have F:KU j v.size ⟨[],false⟩:=k.ag (i.ag C (λh=>h)) (by have:=Aj p;omega);have G:Ext h j:=by
  have H:Ext h x:=o.trans d;have r:Ext h B:=H.more ((e.trans f).trans g) λc b=>by subst b;exact o.size
  exact(r.trans i).more k λc b=>by subst b;exact r.size
 refine ah.mk λK I=>QA F ⟨_,rfl,ae.no rfl (AC.mk (AB q rfl) (I _ _ (ae.no (decide_eq_false (by show ¬((nx:Int)<2);omega)) ?_)))⟩
 have J:(((if a then 1 else 0:Nat):Int)==(1:Int))=a:=by cases a<;>rfl
 refine Om.mk ⟨(st:Int),(nx:Int),_⟩ (Cr q rfl) (aD.mk E (A0 3) λL M N ai=>Om.mk ⟨(st:Int),(nx:Int),_⟩ (Cr M rfl) ?_);rw[J];exact u L (G.more N λc b=>by subst b;exact A0 _)
def Ao(wid:A31)(a:Nat):Nat:=RD wid / 256 % a
theorem uM {wid:A31}{a:Nat}(d:wid.size<=1000000)(e:1<=a)(f:a<=16)(b:R (J1 #[J6 J9 (Ao wid a:Int),J6 J9 0]) h):AA A P OC #[J7 wid,J6 J9 (a:Int)] h R:=by
 refine AF6 ?_;unfold Zn;refine ah.mk λK c=>ae.no (decide_eq_false (by omega)) ?_
 refine c _ _ (ae.no (decide_eq_false (by omega)) (oF (by omega) ⟨_,_,rfl,⟨by omega,?_⟩⟩));have g:=(YT wid);rw[uH,wrap_i64 (by omega) (by omega)];exact b
end
def fV(p f:A31):A31:=if aG p f then f else p
theorem AU2(p f b:A31):aG b (fV p f)=false↔aG b p=false/\aG b f=false:=by
 unfold fV;split
 ·rename_i c;refine⟨λa=>⟨?_,a⟩,λa=>a.2⟩;cases d:aG b p
  ·rfl
  ·rw[DK d c] at a;cases a
 ·rename_i c;refine⟨λa=>⟨a,?_⟩,λa=>a.1⟩;exact qE (by simpa using c) a
def Qo(p:A31):A31:=⟨((eE p.data.toList).getD []).toArray⟩
theorem AVH: ∀ {p q:List UInt8},eE p=some q->q≠ []
 | [],q,b=>by cases b
 |a::p,q,b=>by
  unfold eE at b;split at b
  ·obtain rfl:=B9 b;simp
  ·split at b
   ·obtain rfl:=B9 b;simp
   ·cases b
theorem AQ0(p c:A31):(decide (Qo p=⟨#[]⟩)||aG c (Qo p))=true↔ ∀q,eE p.data.toList=some q->c.data.toList<q:=by
 unfold Qo;cases d:eE p.data.toList with
 |none=>simp
 |some q=>
  have e:=AVH d;have a:decide ((⟨(Option.getD (some q) []).toArray⟩:A31)=⟨#[]⟩)=false:=decide_eq_false λa=>e (by
   have:=congrArg (λb:A31=>b.data.toList) a;simpa using this)
  rw[a,Hb,WL];simp
theorem ASc(p f a:A31):jS (fV p f) (Qo p) a=(Ky p a&& !aG a f):=by
 rw[DH];unfold jS;rw[A3,A3,AQ0,Cd,AU2,O7,<-yE,Cd];rw[show(aG a p=false↔ ¬a.data.toList<p.data.toList) from by rw[WL];simp];constructor
 ·rintro⟨⟨b,c⟩,d⟩;exact⟨⟨b,d⟩,c⟩
 ·rintro⟨⟨b,d⟩,c⟩;exact⟨⟨b,c⟩,d⟩
def iZ(m:List Pr)(p f:A31)(a:Int):List Pr:=(m.filter λx=>Ky p x.key&& !aG x.key f).take a.toNat
theorem AQC(m:List Pr)(p f:A31)(a:Int):mg m (fV p f) (Qo p) a=iZ m p f a:=by unfold mg Rl iZ;rw[HL λx _=>ASc p f x.key]
def Bc(m:List Pr)(c:Pr):Bool:=if c.gone then !(I5 m c.key).2 else(I5 m c.key).2&&decide ((I5 m c.key).1=c.val)
open M (Sorted Ac Bt BF Ae Ak BH Ah aY A7 aF Aw)
structure F9 (B:cX) (g h:aa) (s:Nat) (q:Hp) (k:Nat->Nat) (st:Db) (m:Bx) (D:YM) (bC c n:Nat):Prop where
 db:DN B g h q k st m D bC c
 cell:h[s]? =some (J2 #[Ar q.d,J6 J9 (n:Int)] xf (0,0))
 kz:k s=0
 base:g.size<=s
 fuel:m.fuel= -1
 cA:n<=1000000
def df(m a l:List Pr):Int:=if a.length>64 then 2 else if F5 l≠0 then F5 l else if a.all (Bc m) then 0 else 100
theorem AJK {m:List Pr}{c:Pr}:Bc m c= !(((I5 m c.key).2==c.gone)||((I5 m c.key).2&& !bD (I5 m c.key).1 c.val)):=by unfold Bc;rw[Bj];cases c.gone<;>cases (I5 m c.key).2<;>simp
section
variable {A : ao} {B : cX} {g h : aa} {s : Nat} {q : Hp} {k : Nat -> Nat} {st : Db} {m : Bx} {D : YM} {bC c n : Nat} {R : A30}
theorem F9.on {b:aa}(a:F9 B g h s q k st m D bC c n)(x:Ext h b):F9 B g b s q k st m D bC c n:=⟨a.db.on x,Av x a.cell,a.kz,a.base,a.fuel,a.cA⟩
theorem F9.beside {d:aa}{b:Nat->Prop}(a:F9 B g h s q k st m D bC c n)(x:Mod b h d)(hX: ∀c,b c->k c=0/\g.size<=c)(e: ¬b s):F9 B g d s q k st m D bC c n:=⟨a.db.beside x hX,x.ag a.cell e,a.kz,a.base,a.fuel,a.cA⟩
theorem F9.put {d b:Nat}(a:F9 B g h s q k st m D bC c n)(e:bC<=d)(f:c<=b)(i:b<=B.C):F9 B g h s q k st m D d b n:=⟨a.db.put e f i,a.cell,a.kz,a.base,a.fuel,a.cA⟩
theorem F9.lt(a:F9 B g h s q k st m D bC c n):s<h.size:=Aj a.cell
theorem F9.step {b:aa}{d:Hp}{k':Nat->Nat}{f:Db}{e:Bx}{i:YM}{j l:Nat}(a:F9 B g h s q k st m D bC c n)(p:DN B g b d k' f e i j l)(hd:d.d=q.d)(r:e.fuel= -1)(t:Mod (λc=>k c≠0) h b)(u: ∀c,k' c≠0->k c≠0\/h.size<=c):F9 B g b s d k' f e i j l n:=by
 refine⟨p,by rw[hd];exact t.ag a.cell (by rw[a.kz];simp),Decidable.byContradiction λv=>?_,a.base,r,a.cA⟩;have:=a.lt;rcases u s v with o|o
 ·exact o a.kz
 ·omega
theorem sy {key:A31}(b:F9 B g h s q k st m D bC c n)(d:key.size<=1099511627776)(e: ∀a,Ext h a->R (J1 #[J7 (I5 (Dm st) key).1,J3 (I5 (Dm st) key).2,J6 J9 0]) a):AA A P FP #[Ar s,J7 key] h R:=by refine AAZ ?_;unfold TS;refine ae.no rfl (aA (AY.mk (AO b.cell rfl) ?_));obtain⟨i,f,j,l⟩:=b.db.gq;exact AQX b.db.mem f d λa x=>⟨_,_,_,rfl,e a x⟩
theorem AP3 {p:A31}(Q:p.size<=1099511627776)(t: ∀u,Ext h u->R (J7 (Qo p)) u):AA A P Vg #[J7 p] h R:=by
 refine AHw ?_;unfold vA;have y:J8 J9 ((p.size:Int)-(1:Int))=(p.size:Int)-1:=wrap_i64 (by omega) (by omega);rw[y];have S:p.data.toList.length=p.size:=by rw[FG];rfl
 refine Loop.rule (λv x f=> ∃b:Nat,x=((b:Int)-1,())/\v=b/\f=h/\b<=p.size/\ ∀x∈p.data.toList.drop b,¬x<255) ?_ ⟨p.size,rfl,rfl,rfl,A0 _,λx e=>by rw[IF (by omega)] at e;cases e⟩;rintro K v _ f ⟨b,rfl,T,rfl,U,o⟩ z;dsimp only;refine ae.intro (λr=>?_) (λr=>?_)
 ·have V:1<=b:=by have:=of_decide_eq_true r;omega
  obtain⟨i,rfl⟩: ∃i,b=i+1:=⟨b-1,by omega⟩;have C:((i+1:Nat):Int)-1=(i:Int):=by omega
  rw[C];refine⟨by omega,?_⟩;have af:p.data.toList[i]? =some (p.data.toList[i]'(by omega)):=A2 _;generalize F:p.data.toList[i]'(by omega)=a at*
  have G:du p (i:Int)=(a.toNat:Int):=by
   unfold du;have:p[i]? =some a:=by rw[show p[i]? =p.data[i]? from rfl,<-A0r];exact af
   rw[show((i:Int).toNat)=i from rfl,this];rfl
  rw[G];have H:p.data.toList.drop i=a::p.data.toList.drop (i+1):=by rw[FA (by omega),F]
  refine ae.intro (λd=>?_) (λd=>?_)
  ·have d:a<255:=by rw[UInt8.lt_iff_toNat_lt];have:=of_decide_eq_true d;show a.toNat<255;omega
   have W:a.toNat<255:=UInt8.lt_iff_toNat_lt.1 d;refine⟨by omega,⟨by omega,?_⟩⟩;have I:J8 .u8 ((a.toNat:Int)+(1:Int))=((a+1).toNat:Int):=by
    rw[show(a.toNat:Int)+1=((a.toNat+1:Nat):Int) from by omega,wrap_u8];have j:(a+1).toNat=a.toNat+1:=by rw[UInt8.toNat_add];show(a.toNat+1) % 256=_;omega
    rw[j];omega
   rw[I];refine aj.mk λw _ J L X=>?_
   have v2:View IU w ⟨some ⟨f.size,0,none⟩,1,1⟩ [a+1]:=(Own.lit (E:=IU) (l:= [a+1]) J rfl (by simp[maxLen])).view;refine MK (s:=⟨some ⟨f.size,0,none⟩,1,1⟩) lS lR RN v2 ⟨_,rfl,?_⟩;have M:(Ad [a+1]).size=1:=AP _;have Y:(p.extract 0 i).size<=p.size:=by rw[ByteArray.size_extract];omega
   refine⟨by rw[show(i:Int).toNat=i from rfl,M];show(((p.extract 0 i).size+1:Nat):Int)<=9223372036854775807;omega,?_⟩;have:=t w L;have N:Qo p=p.extract 0 i++Ad [a+1]:=by unfold Qo;rw[yF af d o];apply SP;rw[IS,A0C];apply NO;rw[LR,Array.toList_extract];show p.data.toList.take i++ [a+1]=_++(Ad [a+1]).data.toList;rw[show(Ad [a+1]).data.toList= [a+1] from Bw _];simp
   rw[N] at this;exact this
  ·have d: ¬a<255:=λh=>by
    have:=UInt8.lt_iff_toNat_lt.1 h;have j:(255:UInt8).toNat=255:=rfl;have:=of_decide_eq_false d;omega
   rw[show J8 J9 ((i:Int)-(1:Int))=(i:Int)-1 from wrap_i64 (by omega) (by omega)];refine z i _ _ (by omega) ⟨i,rfl,rfl,rfl,by omega,λx e=>?_⟩;rw[H] at e;rcases List.mem_cons.1 e with rfl|e
   ·exact d
   ·exact o x e
 ·have O:b=0:=by have:=of_decide_eq_false r;omega
  subst O;have:=t f Mod.refl;have j:Qo p=⟨#[]⟩:=by unfold Qo;rw[rz (by simpa using o)];rfl
  rw[j] at this;exact this
theorem AP9 {p f:A31}{e:Int}(b:F9 B g h s q k st m D bC c n)(l:p.size<=1099511627776)(o: ∀sl d,Own Be AU d sl (iZ (Dm st) p f e)->(∀ c,sl.ag=some c->h.size<=c)->Ext h d->R (J1 #[J4 sl.p sl.len sl.cap,J6 J9 0]) d):AA A P El #[Ar s,J7 p,J7 f,J6 J9 e] h R:=by
 refine Zf ?_;unfold RX;refine ae.no rfl (aA (AY.mk (AO b.cell rfl) ?_));refine AP3 l λC a=>⟨_,rfl,⟨a.af (AO b.cell rfl),?_⟩⟩
 have i:=b.on a;obtain⟨r,t,u,E⟩:=i.db.gq;have v:(if(!aG p f)=true then p else f)=fV p f:=by unfold fV;cases aG p f<;>rfl
 rw[v];refine ASo i.db.mem r t u λsl w j x y=>⟨sl,_,rfl,?_⟩
 rw[AQC] at j;exact o sl w j (λc z=>by have:=x c z;have:=a.size;omega) (a.trans y)
theorem APb {conds sl:Sl}{d l:List Pr}(aE:bL g)(r:F9 B g h s q k st m D bC c n)(hA:bC+3<=B.A)(aF:c+64<=B.C)(aG:n+1<=1000000)(vc:View Be h conds d)(v:View Be h sl l)(aH:l≠ []-> ∀b,sl.ag=some b->b<h.size/\k b=0)(aI: ∀x∈d,x.key.size<=1099511627776)
  (z:df (Dm st) d l≠0-> ∀t,Ext h t->R (J6 J9 (df (Dm st) d l)) t)
  (H:df (Dm st) d l=0-> ∀t I U V aJ aK,I.d=q.d->I.b=q.b->F9 B g t s I U V aJ aK (bC+3) (c+64) (n+1)->Dm V=cu (Dm st) l->Mod (λc=>k c≠0\/h.size<=c\/c=s) h t->(∀ c,U c≠0->k c≠0\/h.size<=c)->R (J6 J9 0) t):
  AA A P Fq #[Ar s,J4 conds.p conds.len conds.cap,J4 sl.p sl.len sl.cap] h R:=by
 refine ACd ?_;unfold Uy;refine ae.no rfl ?_;rw[vc.len];refine ae.intro (λf=>?_) (λf=>?_)
 ·have C:d.length>64:=by have:=of_decide_eq_true f;omega
  have j:df (Dm st) d l=2:=by unfold df;rw[if_pos C]
  have:=z (by rw[j];decide) h Mod.refl;rwa [j] at this
 have C: ¬d.length>64:=by have:=of_decide_eq_false f;omega
 refine AIj (s:=sl) v λo W=>⟨_,rfl,?_⟩
 refine ae.intro (λJ=>?_) (λJ=>?_)
 ·have u:F5 l≠0:=by simpa using J
  have j:df (Dm st) d l=F5 l:=by unfold df;rw[if_neg C,if_pos u]
  have:=z (by rw[j];exact u) o W;rwa [j] at this
 have u:F5 l=0:=by simpa using J
 have j:df (Dm st) d l=if d.all (Bc (Dm st)) then 0 else 100:=by unfold df;rw[if_neg C,if_neg (by rw[u];simp)]
 rw[j] at z H;refine Loop.rule (λX x p=> ∃i:Nat,x=((i:Int),())/\X=d.length-i/\i<=d.length/\Ext h p/\(d.take i).all (Bc (Dm st))=true) ?_ ⟨0,rfl,rfl,A6 _,W,rfl⟩;rintro K X _ p ⟨i,rfl,rfl,hi,w,L⟩ aM;have E:=r.on w;dsimp only;refine ae.intro (λf=>?_) (λf=>?_)
 ·have y:i<d.length:=by have:=of_decide_eq_true f;omega
  have af:d[i]? =some d[i]:=A2 y;have aN:=aI d[i] (BT y);have aO:d[i]∈d:=BT y;have aP:d.take (i+1)=d.take i++ [d[i]]:=by rw[AE,af];rfl
  generalize d[i]=x at*
  rw[<- vc.len];refine(vc.ext w).idx af λa _ M=>?_
  obtain⟨M,aQ,aR⟩:=M.pair;refine AL.mk M (AL.mk aQ (Aa.mk aR (aj.pair λb N aW Y Z aX=>?_)));have O:=E.on Z;refine aA (AY.mk (AO O.cell rfl) (AL.mk (AO Y rfl) ?_));obtain⟨aY,aS,aZ,a0⟩:=O.db.gq;refine AQX O.db.mem aS aN λQ aa=>⟨_,_,_,rfl,ae.no rfl ?_⟩
  have ac:=Av aa Y;have ag:=(w.trans Z).trans aa;refine ah.mk λai ak=>?_
  have p:=AJK (m:=Dm st) (c:=x);have al:Bc (Dm st) x=false->ai (true,()) Q:=λS=>ak _ _ (ae.yes rfl (by
   have T: ¬d.all (Bc (Dm st))=true:=λh=>by
    have:=List.all_eq_true.1 h x aO;rw[S] at this;cases this
   rw[if_neg T] at z;exact z (by decide) Q ag))
  have aL:Bc (Dm st) x=true->ai (false,()) Q:=λS=>ak _ _ (ae.no rfl (by
   rw[Ab (by omega)];refine aM (d.length-(i+1)) _ _ (by omega) ⟨i+1,rfl,rfl,y,ag,?_⟩;rw[aP,List.all_append,L];simp[S]))
  refine Aa.mk (AB ac rfl) (ae.intro (λo=>?_) (λo=>?_))
  ·exact al (by rw[p,o];rfl)
  ·refine ae.intro (λF=>?_) (λF=>?_)
   ·refine AL.mk (AB ac rfl) ?_;cases N:bD (I5 (Dm st) x.key).1 x.val with
    |true=>exact aL (by rw[p,o,F,N];rfl)
    |false=>exact al (by rw[p,o,F,N];rfl)
   ·exact aL (by rw[p,o,F];rfl)
 ·have y:i=d.length:=by have:=of_decide_eq_false f;omega
  subst y;rw[CD] at L;rw[if_pos L] at H;have a1:=w.size;refine aA (AY.mk (AO E.cell rfl) ?_);refine AKj (B:=B) (s:=sl) aE E.db r.fuel hA (v.ext w) (λT b am=>by have:=aH T b am;exact⟨by omega,this.2⟩) aF λa2 an ao ap aq ar au aT av aw ax a3 ay az=>⟨_,rfl,?_⟩
  rw[if_pos u] at ax;have G:=E.step av au aw ay az;rw[u];refine ae.no rfl (aA (AC.mk (AB G.cell rfl) (aA ?_)));rw[Ab (by have:=r.cA;omega)];simp only[CE,AH];refine ab.mk G.cell (by simp) λaC aU aD a4=>?_
  have aV:F9 B g aC s an ao ap aq ar (bC+3) (c+64) (n+1):=⟨av.beside aD (λc e=>by subst e;exact⟨G.kz,r.base⟩),by simpa using aU,G.kz,r.base,aw,aG⟩;have am:=r.base;refine H rfl aC an ao ap aq ar au aT aV ax (((w.ak λc _ e=>e.elim).trans (ay.ak λc _ e=> .inl e)).trans (aD.ak λc _ e=> .inr (.inr e))) λc e=>?_
  rcases az c e with h|h
  ·exact .inl h
  ·exact .inr (by omega)
end
section
variable {A : ao} {B : cX} {g h : aa} {m : Bx} {D : YM} {bC c : Nat} {R : A30}
theorem AOn {b:Nat}{Sb:Nat->Prop}(n:bL g)(o:Dl h b Sb m)(p:Ext g h)(q: ∀c,Sb c->g.size<=c)(r:Calm m)(t:m.files= [])
  (u: ∀a s f i j v w,f.b=b->F9 B g a s f i j v w 1 0 0->Dm j= []->Mod (λc=>Sb c\/h.size<=c) h a->(∀ c,i c≠0->Sb c\/h.size<=c)->h.size<=s->R (J1 #[Ar s,J6 J9 0]) a):AA A P TH #[Ar b] h R:=by
 refine AJo ?_;unfold vW;refine AQM (B:=B) n o p q r t λx y z C E F G d H I _ k J=>⟨_,_,rfl,ae.no rfl (aj.mk λK _ L l N=>?_)⟩
 have M:=d.mem.ext.size;exact u K x.size y z C E F G ⟨d.on l,L,d.free (A0 _),M,H,A6 _⟩ I ((k.ak λc _ e=> .inl e).trans (l.ak λc _ e=>e.elim)) J k.size
end
structure AVk where
 kind:Int
 cs:Sl
 bs:Sl
 key:A31
 bV:A31
 most:Int
 all:Bool
structure AVv (N:Nat) (h:aa) (x:AVk) (cl l:List Pr):Prop where
 cs:View Be h x.cs cl
 bs:View Be h x.bs l
 keys: ∀c∈cl,c.key.size<=N
 key:x.key.size<=N
section
variable {A : ao} {h : aa} {R : A30}
end
theorem lY:P.underlying Fe=some (.map BL BL):=by kernel_rfl
theorem lZ:P.underlying Eh=some (.map BL lC):=by kernel_rfl
theorem gZ:P.underlying BL=some (.int J9):=by kernel_rfl
theorem oK:(zeroValue BL).calc P=some (J6 J9 0):=by kernel_rfl
theorem oL:(zeroValue lC).calc P=some (.int .u64 0):=by kernel_rfl
def dw(f:Nat->Nat)(a b:Nat):Nat->Nat:=λm=>if m=a then b else f m
structure Dw (g h:aa) (k:Nat->Nat) (s p bh bu:Nat) (name:A31) (au:Nat) (f u:Nat->Nat) (N:Nat):Prop where
 cell:h[p]? =some (J2 #[Ar s,J7 name,J6 J9 (au:Int),.map (some bh),.map (some bu)] SY (0,0))
 held: ∃hm,UB J9 h bh hm/\hm.length<=N/\ ∀n:Nat,(Lx n hm).getD (J6 J9 0)=J6 J9 (f n:Int)
 used: ∃um,UB J9 h bu um/\um.length<=N/\ ∀n:Nat,(Lx n um).getD (.int .u64 0)= .int .u64 (u n:Int)
 bz: ∀c,c=p\/c=bh\/c=bu->k c=0/\g.size<=c/\c≠s
 ne:bh≠bu
 named:Am name=true
 sh:1<=au/\au<=16
 cA:N<=1000000
def Gp(d:List Pr)(e a:Nat)(b:A31):Prop:=(a=0/\b=⟨#[]⟩/\(I5 d (CQ e)).2=false)\/(1<=a/\a<=2147483647/\Am b=true/\I5 d (CQ e)=(Kk a b,true))
section
variable {A : ao} {B : cX} {g h : aa} {s p bh bu : Nat} {q : Hp} {k : Nat -> Nat} {st : Db} {m : Bx} {D : YM} {bC c nn N : Nat} {name : A31} {au : Nat} {f u : Nat -> Nat} {R : A30}
theorem Dw.lt(a:Dw g h k s p bh bu name au f u N): ∀c,c=p\/c=bh\/c=bu->c<h.size:=by
 obtain⟨e,b,_⟩:=a.held;obtain⟨i,d,_⟩:=a.used;rintro c (rfl|rfl|rfl)
 ·exact Aj a.cell
 ·exact b.lt
 ·exact d.lt
theorem Dw.mE(a:Dw g h k s p bh bu name au f u N):p≠bh/\p≠bu:=by
 obtain⟨i,⟨_,_,b,_⟩,_⟩:=a.held;obtain⟨j,⟨_,_,d,_⟩,_⟩:=a.used;have e:=a.cell;constructor
 ·rintro rfl;rw[e] at b;cases b
 ·rintro rfl;rw[e] at d;cases d
theorem Dw.beside {d:aa}{e:Nat->Nat}{i:Nat->Prop}(a:Dw g h k s p bh bu name au f u N)(b:Mod i h d)(hX: ∀c,c=p\/c=bh\/c=bu-> ¬i c)(l: ∀c,c=p\/c=bh\/c=bu->e c=0):Dw g d e s p bh bu name au f u N:=by obtain⟨n,o,r,t⟩:=a.held;obtain⟨v,w,x,y⟩:=a.used;exact⟨b.ag a.cell (hX p (.inl rfl)),⟨n,o.mod b (hX bh (.inr (.inl rfl))),r,t⟩,⟨v,w.mod b (hX bu (.inr (.inr rfl))),x,y⟩,λc j=>⟨l c j,(a.bz c j).2⟩,a.ne,a.named,a.sh,a.cA⟩
theorem Dw.on {a:aa}(b:Dw g h k s p bh bu name au f u N)(x:Ext h a):Dw g a k s p bh bu name au f u N:=b.beside x (λ_ _ h=>h) λc d=>(b.bz c d).1
theorem Dw.more {b:Nat}(a:Dw g h k s p bh bu name au f u N)(r:N<=b)(d:b<=1000000):Dw g h k s p bh bu name au f u b:=by obtain⟨e,i,t,j⟩:=a.held;obtain⟨l,n,v,o⟩:=a.used;exact⟨a.cell,⟨e,i,by omega,j⟩,⟨l,n,by omega,o⟩,a.bz,a.ne,a.named,a.sh,d⟩
theorem Dw.step {e:aa}{k':Nat->Nat}{i:Nat->Prop}(b:Dw g h k s p bh bu name au f u N)(j:Mod i h e)(l: ∀c,i c->k c≠0\/h.size<=c\/c=s\/ ¬(c=p\/c=bh\/c=bu))(n: ∀c,k' c≠0->k c≠0\/h.size<=c):Dw g e k' s p bh bu name au f u N:=by
 refine b.beside j (λc a o=>?_) λc a=>Decidable.byContradiction λr=>?_
 ·have d:=b.bz c a;have t:=b.lt c a;rcases l c o with h|h|h|h
  ·exact h d.1
  ·omega
  ·exact d.2.2 h
  ·exact h a
 ·have d:=b.bz c a;have t:=b.lt c a;rcases n c r with h|h
  ·exact h d.1
  ·omega
theorem AS5 {s:Nat}(b:F9 B g h s q k st m D bC c nn)(j:Am name=true)(o:1<=au/\au<=16)
  (r: ∀a p bh bu,Dw g a k s p bh bu name au (λ_=>0) (λ_=>0) 0->(∀ c,c=p\/c=bh\/c=bu->h.size<=c/\c<a.size)->Ext h a->R (J1 #[Ar p,J6 J9 0]) a):AA A P QS #[Ar s,J7 name,J6 J9 (au:Int)] h R:=by
 refine AHX ?_;unfold vU;refine ah.mk λK t=>ae.no rfl (FK ⟨_,rfl,ae.no (by rw[j];rfl) (ae.no (decide_eq_false (by omega)) (t _ _ (ae.no (decide_eq_false (by omega)) ?_)))⟩)
 refine aj.mk λl _ v w H=>aj.mk λx _ y n I=>aj.mk λd _ z e J=>?_
 have C:=(w.trans n).trans e;have L:=b.db.mem.ext.size;have M:=b.lt;have E:d[h.size]? =some (.map #[] 0):=e.ag (n.ag v (λh=>h)) (λh=>h);have F:d[l.size]? =some (.map #[] 0):=e.ag y (λh=>h);refine r d x.size h.size l.size ⟨z,⟨[],UB.empty E,A0 _,λG=>rfl⟩,⟨[],UB.empty F,A0 _,λG=>rfl⟩,λc i=>?_,by omega,j,o,by omega⟩ (λc i=>?_) C
 ·have:h.size<=c:=by rcases i with rfl|rfl|rfl<;>omega
  exact⟨b.db.free this,by omega,by omega⟩
 ·rcases i with rfl|rfl|rfl<;>omega
theorem sA {a:Nat}(b:Dw g h k s p bh bu name au f u N)(d:R (J6 J9 (f a:Int)) h):AA A P BZ #[Ar p,J6 J9 (a:Int)] h R:=by obtain⟨j,e,l,i⟩:=b.held;refine We ?_;unfold O8;exact ae.no rfl (aA (Ed.mk (AB b.cell rfl) (MQ lY gZ oK e ⟨_,i a,d⟩)))
theorem ARC {b:List (Int×J0)}{a d:Nat}(h: ∀m:Nat,(Lx m b).getD (J6 J9 0)=J6 J9 (f m:Int))(m:Nat):(Lx m (UK a (J6 J9 (d:Int)) b)).getD (J6 J9 0)=J6 J9 (dw f a d m:Int):=by
 rw[rA];unfold dw;by_cases e:m=a
 ·subst e;rw[if_pos rfl,if_pos rfl];rfl
 ·rw[if_neg (by omega),if_neg e];exact h m
theorem AKD {b:List (Int×J0)}{a r:Nat}(h: ∀m:Nat,(Lx m b).getD (.int .u64 0)= .int .u64 (f m:Int))(m:Nat):(Lx m (UK a (.int .u64 (r:Int)) b)).getD (.int .u64 0)= .int .u64 (dw f a r m:Int):=by
 rw[rA];unfold dw;by_cases d:m=a
 ·subst d;rw[if_pos rfl,if_pos rfl];rfl
 ·rw[if_neg (by omega),if_neg d];exact h m
theorem Dw.strike {d:Nat}{j:Q7}{K:A30}(a:Dw g h k s p bh bu name au f u N)(l: ∀b,Dw g b k s p bh bu name au (dw f d 0) u N->Mod (λc=>c=bh) h b->K (J1 #[]) b):Af A P (Builtin.delete_ #[Fe,BL] j #[.map (some bh),J6 J9 (d:Int)]) h K:=by
 obtain⟨z,n,o,r⟩:=a.held;obtain⟨t,v,w,x⟩:=a.used;refine ALN lY gZ n λb y e C=>l b ⟨e.ag a.cell a.mE.1,⟨_,y,AK ARL o,λm=>?_⟩,⟨t,v.mod e a.ne.symm,w,x⟩,a.bz,a.ne,a.named,a.sh,a.cA⟩ e
 rw[yG];unfold dw;by_cases i:m=d
 ·subst i;rw[if_pos rfl,if_pos rfl];rfl
 ·rw[if_neg (by omega),if_neg i];exact r m
theorem AJq {b j:Nat}{l:A31}(w:F9 B g h s q k st m D bC c nn)(a:Dw g h k s p bh bu name au f u N)(F:b<au)(x:Gp (Dm st) b j l)(n: ∀o,Ext h o->R (J1 #[J6 J9 (j:Int),J7 l,J6 J9 0]) o):AA A P GY #[Ar p,J6 J9 (b:Int)] h R:=by
 have G:=a.sh;refine Xr ?_;unfold QD;refine ah.mk λK y=>ae.no rfl (ae.no (decide_eq_false (by omega)) (aA (AC.mk (AB a.cell rfl) (y _ _ (ae.no (decide_eq_false (by omega)) ?_)))))
 refine aA (AY.mk (AO a.cell rfl) (UI (by omega) λr d=>⟨_,rfl,⟨AO (Av d a.cell) rfl,?_⟩⟩));refine sy (w.on d) (by rw[Kc];omega) λt z=>⟨_,_,_,rfl,?_⟩
 have v:=d.trans z;refine ah.mk λH C=>ae.no rfl (C _ _ ?_)
 rcases x with⟨rfl,rfl,e⟩|⟨r,t,i,e⟩
 ·rw[e];exact ae.yes rfl (n _ v)
 ·rw[e];exact ae.no rfl (AOx r t i λi E=>⟨_,_,_,rfl,n i (v.trans E)⟩)
theorem AUi {k v:A31}(a:k≠⟨#[]⟩)(d:k.size<=64)(e:v.size<=8192):F5 [⟨k,v,false⟩]=0:=by
 have b:Ah ⟨k,v,false⟩=0:=by unfold Ah;rw[if_neg (by simp[a]),if_neg (by simp;omega)]
 unfold F5;rw[if_neg (by simp),if_neg (by simp)];unfold GJ;rw[if_neg (by rw[b];decide)];rfl
theorem AKY {d r:Nat}{av:A31}(E:bL g)(Q:F9 B g h s q k st m D bC c nn)(n:Dw g h k s p bh bu name au f u N)(aP:d<au)(ac:Gp (Dm st) d r av)(aw:r+1<=2147483647)(hA:bC+3<=B.A)(aQ:c+64<=B.C)(aR:nn+1<=1000000)(aS:N+1<=1000000)
  (aT: ∀S ag k' ax aU aV,ag.d=q.d->ag.b=q.b->F9 B g S s ag k' ax aU aV (bC+3) (c+64) (nn+1)->Dm ax=cu (Dm st) [⟨CQ d,Kk (r+1) name,false⟩]->Dw g S k' s p bh bu name au (dw f d (r+1)) (dw u d 0) (N+1)->
   Mod (λc=>k c≠0\/h.size<=c\/c=s\/c=bh\/c=bu) h S->(∀ c,k' c≠0->k c≠0\/h.size<=c)->R (J1 #[J6 J9 ((r+1:Nat):Int),J6 J9 0]) S):
  AA A P Ey #[Ar p,J6 J9 (d:Int)] h R:=by
 have bN:=n.sh;refine T9 ?_;unfold Mk;refine AJq Q n aP ac λL aW=>⟨_,_,_,rfl,ae.no rfl ?_⟩
 refine UI (by omega) λai aX=>⟨_,rfl,?_⟩
 have ay:=aW.trans aX;refine aj.pair λb T bO az aY bP=>?_
 have aC:=ay.trans aY;have bQ:=ay.size;have bR:=Q.db.mem.ext.size;refine ah.mk λK aZ=>?_
 have aD: ∀U y z,Ext h U->U[b]? =some (J2 #[J7 (CQ d),J7 y,J3 z] AU (0,0))->Bc (Dm st) ⟨CQ d,y,z⟩=true->K () U:=by
  intro U y z ak a0 a1;refine aZ _ _ ?_;have bS:=Q.on ak;have a2:=n.on ak;refine aA (AL.mk (AB a2.cell rfl) ?_);rw[Ab (by omega)];refine oJ (by omega) aw n.named λV aE=>⟨_,_,rfl,?_⟩
  have al:=ak.trans aE;refine ae.no rfl (ah.mk λa3 a4=>?_);have aF:=Q.on al;have am:=n.on al;have I:=Av aE a0;have go: ∀e M C,Ext V e->e[M]? =some (J2 #[J7 (CQ d),J7 y,J3 z] AU (0,0))->e[C]? =some (J2 #[J7 (CQ d),J7 (Kk (r+1) name),J3 false] AU (0,0))->V.size<=C->
    AA A P Fq #[Ar s,J4 (some (⟨M,0,none⟩:Q6)) 1 1,J4 (some (⟨C,0,none⟩:Q6)) 1 1] e λa5 an=> ∃aG:Int,a5=J6 J9 aG/\a3 (aG,()) an:=by
   intro e M C w a6 aH a7;have a8:=aF.on w;have a9:=am.on w;have aI:=al.trans w;have vc:View Be e ⟨some ⟨M,0,none⟩,1,1⟩ [⟨CQ d,y,z⟩]:=(Own.lit (E:=Be) (l:= [⟨CQ d,y,z⟩]) a6 rfl (by simp[maxLen])).view;have ba:View Be e ⟨some ⟨C,0,none⟩,1,1⟩ [⟨CQ d,Kk (r+1) name,false⟩]:=(Own.lit (E:=Be) (l:= [⟨CQ d,Kk (r+1) name,false⟩]) aH rfl (by simp[maxLen])).view;have bb:=AUi (AOK d) (show(CQ d).size<=64 by rw[Kc];omega) (ALw aw n.named);have bc:df (Dm st) [⟨CQ d,y,z⟩] [⟨CQ d,Kk (r+1) name,false⟩]=0:=by unfold df;rw[if_neg (by simp),if_neg (by rw[bb];decide),if_pos (by simp[a1])]
   have bd:k C=0:=aF.db.free a7;refine APb (B:=B) (conds:=⟨some ⟨M,0,none⟩,1,1⟩) (sl:=⟨some ⟨C,0,none⟩,1,1⟩) E a8 hA aQ aR vc ba (λ_ be W=>by
    have o:C=be:=by simpa [Sl.ag] using W
    subst o;exact⟨Aj aH,bd⟩) (λx e=>by rw[List.mem_singleton.1 e];show(CQ d).size<=_;rw[Kc];omega) (λbf=>absurd bc bf) λ_ an bg X bi bj bk bm bn bo bp aJ aK=>⟨_,rfl,a4 _ _ (ae.no rfl ?_)⟩
   have bT:=aI.size;have i:=a9.step (k':=X) aJ (λc a=>by
    rcases a with h|h|h
    ·exact .inl h
    ·exact .inr (.inl h)
    ·exact .inr (.inr (.inl h))) aK
   have bq:Mod (λc=>k c≠0\/h.size<=c\/c=s\/c=bh\/c=bu) h an:=(aI.ak λc _ a=>a.elim).trans (aJ.ak λc _ a=>by
    rcases a with h|h|h
    ·exact .inl h
    ·exact .inr (.inl (by omega))
    ·exact .inr (.inr (.inl h)))
   obtain⟨bU,br,bV,bs⟩:=i.held;refine aA (Ed.mk (AB i.cell rfl) (aA (Ed.mk (AB i.cell rfl) ?_)));refine yH lY gZ oK (v:=J6 J9 ((r+1:Nat):Int)) br (by have:=i.cA;simp only[maxLen];omega) λbW bt Y bX=>?_
   obtain⟨bY,bv,bZ,bw⟩:=i.used;have bx:=bv.mod Y n.ne.symm;refine yH lZ gZ oL (v:= .int .u64 0) bx (by have:=i.cA;simp only[maxLen];omega) λbz bA Z b0=>?_
   have bB: ∀c,c=bh->X c=0/\g.size<=c:=λc a=>⟨(i.bz c (.inr (.inl a))).1,(i.bz c (.inr (.inl a))).2.1⟩
   have bD: ∀c,c=bu->X c=0/\g.size<=c:=λc a=>⟨(i.bz c (.inr (.inr a))).1,(i.bz c (.inr (.inr a))).2.1⟩
   have bE:=(bo.beside Y bB λo=>(i.bz s (.inr (.inl o))).2.2 rfl).beside Z bD λo=>(i.bz s (.inr (.inr o))).2.2 rfl
   refine aT bz bg X bi bj bk bm bn bE bp ⟨Z.ag (Y.ag i.cell n.mE.1) n.mE.2,⟨_,bt.mod Z n.ne,AK Yw (by omega),λm=>ARC bs m⟩,⟨_,bA,AK Yw (by omega),λm=>AKD (r:=0) bw m⟩,i.bz,i.ne,i.named,i.sh,aS⟩ ((bq.trans (Y.ak λc _ a=> .inr (.inr (.inr (.inl a))))).trans (Z.ak λc _ a=> .inr (.inr (.inr (.inr a))))) λc a=>?_
   rcases aK c a with h|h
   ·exact .inl h
   ·exact .inr (by omega)
  have F: ∀ {e:aa},Ext V e->af e ⟨p,0,none⟩=some (Ar s):=λw=>AO (Av w am.cell) rfl
  have row: ∀ {e:aa},Ext V e->af e (⟨b,0,none⟩:Q6)=some (J7 (CQ d))/\af e ((⟨b,0,none⟩:Q6).add 1)=some (J7 y)/\af e ((⟨b,0,none⟩:Q6).add 2)=some (J3 z):=λw=>⟨AO (Av w I) rfl,AB (Av w I) rfl,AB (Av w I) rfl⟩
  refine aA (AY.mk (AO am.cell rfl) (AL.mk (AO I rfl) (AL.mk (AB I rfl) (Aa.mk (AB I rfl) ?_))));refine⟨?_,?_⟩
  ·refine aj.mk λbF _ bG G b1=>⟨F G,?_⟩
   refine UI (by omega) λW J=>⟨_,rfl,?_⟩
   have j:=G.trans J;refine⟨row j,⟨F j,?_⟩⟩;refine aj.mk λa _ O H aL=>?_
   have t:=j.trans H;exact⟨row t,⟨F t,go a _ _ t (Av H (Av J bG)) O j.size⟩⟩
  ·refine UI (by omega) λbF G=>⟨_,rfl,⟨row G,⟨F G,⟨?_,?_⟩⟩⟩⟩
   ·refine aj.mk λW _ ao J bH=>?_
    have j:=G.trans J;refine⟨F j,aj.mk λa _ O H aL=>?_⟩;have t:=j.trans H;exact⟨row t,⟨F t,go a _ _ t (Av H ao) O j.size⟩⟩
   ·refine aj.mk λW _ ao J bH=>?_
    have j:=G.trans J;refine⟨row j,⟨F j,aj.mk λa _ O H aL=>?_⟩⟩;have t:=j.trans H;exact⟨F t,go a _ _ t O (Av H ao) G.size⟩
 refine ae.intro (λap=>?_) (λap=>?_)
 ·have bI:0<r:=by have:=of_decide_eq_true ap;omega
  rcases ac with⟨L,_⟩|⟨L,ai,T,o⟩
  ·omega
  simp only[CE,AH];refine ab.mk az (by simp) λaM aq bJ b2=>?_
  have aq:aM[b]? =some (J2 #[J7 (CQ d),J7 ⟨#[]⟩,J3 false] AU (0,0)):=by simpa using aq
  refine oJ L ai T λb3 aN=>⟨_,_,rfl,?_⟩
  refine ab.mk (Av aN aq) (by simp) λaO ar bK b4=>?_
  have ar:aO[b]? =some (J2 #[J7 (CQ d),J7 (Kk r av),J3 false] AU (0,0)):=by simpa using ar
  have bM:Ext h aM:=aC.then (bJ.ak λc _ a=> .inr (by omega));refine aD aO _ _ ((bM.trans aN).then (bK.ak λc _ a=> .inr (by omega))) ar ?_;unfold Bc;rw[o];simp
 ·have bI:r=0:=by have:=of_decide_eq_false ap;omega
  rcases ac with⟨L,_,o⟩|⟨L,ai,T,o⟩
  ·refine aD T _ _ aC az ?_;unfold Bc;rw[o];simp
  ·omega
end
end Go.Lf.G
