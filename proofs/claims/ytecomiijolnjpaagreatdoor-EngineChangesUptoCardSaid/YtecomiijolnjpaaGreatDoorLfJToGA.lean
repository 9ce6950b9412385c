/-
 LIFT, part J: a function: its formula, its contract.
-/
import Derived.Test.YtecomiijolnjpaaGreatDoorLfAToI
import Derived.Test.YtecomiijolnjpaaGreatDoorProg
import Derived.Laws.FloatArith
import Derived.MapKept
import Derived.Maps.Own
import Derived.Lib.Bytealg
import Derived.Sort.KeysCollected
import Derived.StringKeys
import Derived.Laws.BytesString
import Derived.Laws.BytesArg
import Derived.Laws.StructEq
import Derived.ChangeKeysEq
set_option maxRecDepth 100000
set_option linter.unusedVariables false
set_option linter.unusedSimpArgs false
open Go.IntKind renaming i64→J9,wrap→J8
open Go.Value renaming string→J7,int→J6,pointer→J5,slice→J4,bool→J3,tuple→J1
open Go.Obj renaming cells→J2
open Go renaming Value→J0,Addr→Q6,TypeId→Q7,FuncId→Q8,Program→Q1
open Go.Addr renaming add→Q9,mk→Q5
namespace Go.Lf
def Zp(P:Q1):List ResultVar->Env->aa->(List J0->Prop)->Prop
 | [],_,_,K=>K []
 | .tmp t::d,b,c,K=>match b.get t with|some v=>Zp P d b c λe=>K (v::e)|none=>False
 | .cell a t::d,b,c,K=>match b.get a with
  |some v=>(match v with| .pointer p=>At p λf=>loadT P t c f λv _=>Zp P d b c λe=>K (v::e)|_=>False)
  |none=>False
def oneOf(a:List J0)(K:J0->Prop):Prop:=match a with| [v]=>K v|a=>K (.tuple a.toArray)
def ue(P:Q1)(l:List ResultVar)(a:Env)(b:aa)(K:J0->Prop):Prop:=Zp P l a b λc=>oneOf c K
def qg:List Nat->aa->(aa->Prop)->Prop
 | [],a,K=>K a
 |r::b,a,K=>a[r]? =some (.deferred (some []))/\qg b (a.setIfInBounds r (.deferred none)) K
def lJ:Nat->List J0->Nat->Option J0
 |_,[],_=>none
 |i,v::a,t=>bif Nat.beq t i then some v else lJ (i+1) a t
def qh(P:Q1)(fn:Func)(c:A2O)(a:Env)(d:aa):Prop:=qg a.ds d λb=>ue P fn.results.toList a b λv=>c v b
def qi(A:al)(P:Q1)(f:Q8)(b:bW)(args:List J0)(d:aa)(a:A2O):Prop:=
 match P.funcs[f]? with
 |none=>False
 |some fn=>match fn.body with
  |none=>False
  |some c=>match Nat.ble args.length fn.ntmps with
   |true=>FZ A P fn.ntmps false c b {get:=lJ 0 args,ds:= []} d (qh P fn a) (λ_ _ _=>False) (qh P fn a)
   |false=>False
theorem uf: ∀ {l:List J0} {i t:Nat} {v:J0},lJ i l t=some v->i<=t/\l[t-i]? =some v
 | [],_,_,_,a=>by cases a
 |u::e,i,t,v,a=>by
  unfold lJ at a;by_cases b:t=i
  ·subst b;have c:Nat.beq t t=true:=by simp
   rw[c,cond_true] at a;exact⟨A0 _,by simpa using a⟩
  ·rw[TG b,cond_false] at a;obtain⟨f,d⟩:=uf a;refine⟨by omega,?_⟩;have:t-i=(t-(i+1))+1:=by omega
   rw[this,PJ];exact d
section
variable {P : Q1} {A : al}
def nA(tmps:Array J0):ResultVar->Sem J0
 | .tmp t=>pure (tmps.getD t undef)
 | .cell x t=>do loadVar t (<- asAddr (tmps.getD x undef))
theorem AKA(fn:Func)(tmps:Array J0):results fn tmps=(do let a <-fn.results.mapM (nA tmps);pure (if b:a.size=1 then a[0] else .tuple a)):=rfl
theorem Qj {N:Nat}{a:Act}{j:Env}(d:Fits N a j){e:aa}{n:Nat}: ∀ {l:List ResultVar} {K:List J0->Prop},Zp P l j e K->
  ∃c,(l.mapM (nA a.tmps)).run P (A.at e n)= .ok c (A.at e n)/\K c
 | [],K,b=>⟨[],rfl,b⟩
 | .tmp t::k,K,b=>by
  unfold Zp at b;split at b
  ·rename_i v f;obtain⟨c,g,h⟩:=Qj (n:=n) d b;refine⟨v::c,?_,h⟩;have i:a.tmps.getD t undef=v:=by have:=d.get t v f;simp[this]
   rw[PF];simp only[Sem.run_bind,Sem.run_pure,Result.andThen_ok,nA,g,i]
  ·exact b.elim
 | .cell x t::k,K,b=>by
  unfold Zp at b;split at b
  ·rename_i v f;split at b
   ·rename_i p;obtain⟨m,rfl,o⟩:=At.mk b;obtain⟨u,st,q,r,h⟩:=tw (A:=A) o;obtain⟨c,g,s⟩:=Qj (n:=n) d h;refine⟨u::c,?_,s⟩;have i:a.tmps.getD x undef= .pointer (some m):=by have:=d.get x _ f;simp[this]
    rw[PF];simp only[Sem.run_bind,Sem.run_pure,Result.andThen_ok,nA,i,asAddr,q e r n,g]
   ·exact b.elim
  ·exact b.elim
theorem AKK {N:Nat}{a:Act}{e:Env}(f:Fits N a e){fn:Func}{c:aa}{n:Nat}{K:J0->Prop}(b:ue P fn.results.toList e c K):
  ∃v,(results fn a.tmps).run P (A.at c n)= .ok v (A.at c n)/\K v:=by
 obtain⟨d,g,b⟩:=Qj (A:=A) f (n:=n) b;have h:(results fn a.tmps).run P (A.at c n)= .ok (if i:d.toArray.size=1 then d.toArray[0] else .tuple d.toArray) (A.at c n):=by rw[AKA,WD];simp only[Sem.run_bind,Sem.run_map,g,Result.andThen_ok,Sem.run_pure]
 refine⟨_,h,?_⟩
 match d,b with
 | [],b=>exact b
 | [v],b=>exact b
 |u::v::j,b=>simpa [oneOf] using b
theorem ug {fn:Func}{tmps:Array J0}{d:Ending->World->Prop}{K:aa->Prop}(e: ∀a b,K a->LeavesInM (Fw none) 0 P fn tmps d [] .returning (A.at a b)):
  ∀(l:List Nat) (a:aa) (b:Nat),qg l a K->LeavesInM (Fw none) 0 P fn tmps d (l.map Zu) .returning (A.at a b)
 | [],a,b,c=>e a b c
 |r::f,a,b,⟨g,c⟩=>by
  refine⟨by simp,.inl ⟨r,_,rfl,run_takeDeferred (w:=A.at a b) g,?_⟩⟩;exact ug e f _ b c
theorem AGX(s:P.follows .mixedOrders=true){f:Q8}{m:bW}{args:List J0}{j:aa}{e:A2O}(b:qi A P f m args j e):
  AA A P f args.toArray j e:=by
 intro n;unfold qi at b;split at b
 ·exact b.elim
 ·rename_i fn u;split at b
  ·exact b.elim
  ·rename_i c w;split at b
   ·rename_i o;have o:=Xs o;refine Vu.1 (callsIn_of_wp_marks (F:=Fw none) (n:=0) u w trivial ?_);have x:Fits fn.ntmps {tmps:=args.toArray++Array.replicate (fn.ntmps-args.toArray.size) undef,defers:= []} {get:=lJ 0 args,ds:= []}:=by refine⟨by simp;omega,λt v k=>?_,rfl⟩;obtain⟨_,g⟩:=uf k;have y:t<args.length:=(List.getElem?_eq_some_iff.1 (by simpa using g)).1;rw[MA (by simpa using y)];simpa using g
    refine wpIn_mono (AJN s c 0 false none m _ j _ _ _ _ n (λ_=>rfl) b x) ?_;intro z a H B;obtain⟨h,d,i,rfl,p,_,l⟩:=B;have q:qh P fn e h d->LeavesInM (Fw none) 0 P fn a.tmps (λh C=> ∃v,h= .returned v/\ ∃d i,C=A.at d i/\e v d) a.defers .returning (A.at d i):=by intro D;rw[p.ds];refine ug ?_ h.ds d i D;intro g r E;obtain⟨v,k,G⟩:=AKK (A:=A) p (n:=r) E;exact⟨v,k,v,rfl,g,r,rfl,G⟩
    cases z<;>simp only at l
    ·exact q l
    ·exact q l
   ·exact b.elim
end
def GU(c:IntKind)(a b:Int):Int:=c.wrap ((BitVec.ofInt c.bits a &&& BitVec.ofInt c.bits b).toNat:Int)
def dY(c:IntKind)(a b:Int):Int:=c.wrap ((BitVec.ofInt c.bits a ||| BitVec.ofInt c.bits b).toNat:Int)
def Yo(c:IntKind)(a b:Int):Int:=c.wrap ((BitVec.ofInt c.bits a ^^^ BitVec.ofInt c.bits b).toNat:Int)
end Go.Lf
namespace Go.Lf.G
noncomputable abbrev P:Q1:=Go.Proofs.Tryz.prog
def Io:Q8:=5
def Ja:Q8:=6
def Ew:Q8:=7
def Dg:Q8:=8
def EQ:Q8:=9
def IR:Q8:=12
def Iz:Q8:=13
def Bc:Q8:=14
def CS:Q8:=15
def PV:Q8:=16
def Di:Q8:=17
def F8:Q8:=18
def Jd:Q8:=19
def EC:Q8:=20
def Eg:Q8:=21
def Dy:Q8:=22
def Dw:Q8:=23
def DT:Q8:=24
def JE:Q8:=25
def Re:Q8:=26
def ZB:Q8:=27
def PI:Q8:=28
def Ex:Q8:=29
def Jk:Q8:=30
def Me:Q8:=31
def NJ:Q8:=32
def Gj:Q8:=33
def Dv:Q8:=34
def Ka:Q8:=35
def Lm:Q8:=36
def Jp:Q8:=37
def Bz:Q8:=38
def Av:Q8:=39
def Fj:Q8:=44
def JU:Q8:=45
def Ll:Q8:=46
def NH:Q8:=47
def OQ:Q8:=48
def PW:Q8:=49
def Jf:Q8:=50
def GH:Q8:=51
def FD:Q8:=52
def Ov:Q8:=53
def Hw:Q8:=54
def GG:Q8:=55
def Nc:Q8:=56
def CJ:Q8:=57
def P9:Q8:=58
def Lj:Q8:=59
def RZ:Q8:=60
def Bt:Q8:=61
def Kj:Q8:=62
def Hr:Q8:=63
def KO:Q8:=64
def Fe:Q8:=65
def OG:Q8:=66
def Kb:Q8:=67
def Es:Q8:=68
def Bj:Q8:=69
def Ad:Q8:=70
def CO:Q8:=71
def NY:Q8:=72
def PS:Q8:=75
def UE:Q8:=76
def JY:Q8:=77
def RL:Q8:=78
def Jo:Q8:=79
def Jj:Q8:=80
def Dn:Q8:=81
def DD:Q8:=82
def DZ:Q8:=83
def Lg:Q8:=84
def RG:Q8:=85
def Pk:Q8:=86
def RS:Q8:=87
def Nz:Q8:=88
def Tw:Q8:=89
def Gh:Q8:=90
def Js:Q8:=91
def Na:Q8:=92
def Mk:Q8:=93
def KT:Q8:=94
def Kh:Q8:=95
def Qk:Q8:=96
def Pv:Q8:=97
def Iw:Q8:=98
def JA:Q8:=99
def NV:Q8:=100
def Ik:Q8:=101
def Gq:Q8:=102
def Pf:Q8:=103
def Jr:Q8:=104
def OL:Q8:=105
def PT:Q8:=106
def Km:Q8:=107
def Oz:Q8:=108
def KV:Q8:=109
def Im:Q8:=110
def Ff:Q8:=111
def Gb:Q8:=112
def Q3:Q8:=113
def Ko:Q8:=116
def NN:Q8:=117
def Rb:Q8:=118
def I7:Q8:=119
def IC:Q8:=120
def TK:Q8:=121
def Df:Q8:=122
def Cn:Q8:=123
def Rp:Q8:=124
def Cz:Q8:=125
def IU:Q8:=126
def KX:Q8:=127
def QR:Q8:=128
def Ve:Q8:=129
def Fp:Q8:=130
def PG:Q8:=131
def Jn:Q8:=132
def Gg:Q8:=133
def KU:Q8:=134
def KC:Q8:=135
def Ki:Q8:=136
def Ga:Q8:=137
def OO:Q8:=138
def KZ:Q8:=139
def Ra:Q8:=140
def Kc:Q8:=141
def Tt:Q8:=142
def Ea:Q8:=143
def Gx:Q8:=144
def JR:Q8:=145
def Sj:Q8:=146
def CV:Q8:=147
def Jq:Q8:=148
def OE:Q8:=149
def Q4:Q8:=150
def OU:Q8:=151
def CU:Q8:=152
def JJ:Q8:=153
def Hq:Q8:=154
def Ot:Q8:=155
def VI:Q8:=156
def KS:Q8:=157
def PQ:Q8:=158
def IY:Q8:=159
def RQ:Q8:=160
def Iy:Q8:=161
def P8:Q8:=162
def RU:Q8:=163
def KW:Q8:=165
def Fy:Q8:=166
def Bq:Q8:=167
def Il:Q8:=170
def Gy:Q8:=171
def Hg:Q8:=172
def JX:Q8:=173
def NG:Q8:=174
def Cr:Q8:=175
def BJ:Q8:=176
def Cu:Q8:=177
def Jm:Q8:=178
def JG:Q8:=179
def JW:Q8:=180
def Cy:Q8:=181
def KA:Q8:=182
def I5:Q8:=183
def Pm:Q8:=184
def Mo:Q8:=185
def NE:Q8:=186
def Dh:Q8:=192
def GN:Q8:=194
def NT:Q8:=195
def PD:Q8:=196
def FK:Q8:=200
def TL:Q8:=206
def PZ:Q8:=207
def Cs:Q8:=208
def EH:Q8:=209
def FL:Q8:=210
def GZ:Q8:=211
def Ii:Q8:=212
def PU:Q8:=213
def DX:Q8:=240
def NS:Q8:=241
def NZ:Q8:=242
def DI:Q8:=268
def t_:Q7:=0
def Bb:Q7:=3
def lN:Q7:=4
def EG:Q7:=5
def Az:Q7:=9
def I4:Q7:=25
def GY:Q7:=30
def Ep:Q7:=32
def GR:Q7:=35
def UD:Q7:=38
def Qt:Q7:=40
def Dl:Q7:=41
def Cw:Q7:=43
def JC:Q7:=52
def EL:Q7:=53
def DL:Q7:=54
def Ao:Q7:=56
def CX:Q7:=58
def BC:Q7:=65
def Ct:Q7:=68
def DN:Q7:=69
def Co:Q7:=72
def Bg:Q7:=74
def AR:Q7:=78
def F5:Q7:=90
def YQ:Q7:=112
def AQ:Q7:=118
def MZ:Q7:=128
def uz:Q7:=136
def CE:Q7:=142
def Yv:Q7:=144
def FU:Q7:=145
def Eb:Q7:=146
def RD:Q7:=148
def GJ:Q7:=170
def ADx:Q7:=180
def Am:Q7:=181
def Ey:Q7:=183
def BG:Q7:=186
def CB:Q7:=189
def VX:Q7:=203
def Bd:Q7:=209
def Dr:Q7:=222
def Qi:Q7:=224
def Ls:Q7:=228
def Zl:Q7:=237
def uA:Q7:=239
def uB:Q7:=240
def WV:Q7:=242
def nE:Q7:=246
def MC:Q7:=257
def A9:Q7:=260
def JI:Q7:=279
def EN:Q7:=290
def Sy:Q7:=346
def EO:Q7:=353
def Eu:Q7:=355
theorem mixed:P.follows .mixedOrders=true:=by decide +kernel
end Go.Lf.G
namespace Go.Lf
theorem add_add(a:Q6)(m b:Nat):(a.add m).add b=a.add (m+b):=by
 unfold Addr.add;by_cases c:m=0
 ·subst c;simp
 ·by_cases d:b=0
  ·subst d;simp[c]
  ·have:m+b≠0:=by omega
   simp[c,d,GB]
theorem add_zero(a:Q6):a.add 0=a:=by simp[Addr.add]
theorem aM(a:Q6)(b:Nat):(a.add b).block=a.block:=by unfold Addr.add;split<;>rfl
theorem Ba(b c a:Nat):(⟨b,c,none⟩:Q6).add a=⟨b,c+a,none⟩:=by unfold Addr.add;by_cases d:a=0<;>simp[d]
structure Mod (S:Nat->Prop) (h h':aa):Prop where
 size:h.size<=h'.size
 get: ∀b,b<h.size-> ¬S b->h'[b]? =h[b]?
abbrev Ext:=Mod (λ_=>False)
theorem Mod.refl {b:Nat->Prop}{a:aa}:Mod b a a:=⟨A0 _,λ_ _ _=>rfl⟩
theorem Mod.trans {d:Nat->Prop}{e f g:aa}(a:Mod d e f)(b:Mod d f g):Mod d e g:=
 ⟨AF a.size b.size,λc h i=>(b.get c (GF h a.size) i).trans (a.get c h i)⟩
theorem Mod.ai {e S':Nat->Prop}{d f:aa}(a:Mod e d f)(h: ∀b,b<d.size->e b->S' b):Mod S' d f:=⟨a.size,λc g i=>a.get c g λd=>i (h c g d)⟩
theorem Ext.mod {d:Nat->Prop}{b c:aa}(a:Ext b c):Mod d b c:=a.ai λ_ _ b=>b.elim
theorem Mod.then {e:Nat->Prop}{d f g:aa}(a:Mod e d f)(b:Mod (λc=>e c\/d.size<=c) f g):Mod e d g:=
 ⟨AF a.size b.size,λc h i=>(b.get c (GF h a.size) (λd=>d.elim i (λd=>by omega))).trans (a.get c h i)⟩
theorem Mod.push {d:Nat->Prop}(a:aa)(e:Obj):Mod d a (a.push e):=
 ⟨by simp,λb c _=>by rw[R0 c];simp[c]⟩
theorem Mod.af {c:Nat->Prop}{d e:aa}(a:Mod c d e){b:Nat}{f:Obj}(g:d[b]? =some f)(h: ¬c b):e[b]? =some f:=
 (a.get b (Array.getElem?_eq_some_iff.1 g).1 h).trans g
theorem Af {a:aa}{b:Nat}{c:Obj}(d:a[b]? =some c):b<a.size:=(Array.getElem?_eq_some_iff.1 d).1
theorem UV {b:aa}{a:Q6}{v:J0}(c:ag b a=some v):a.block<b.size:=by
 unfold ag at c;cases d:b[a.block]? with
 |none=>rw[d] at c;cases c
 |some e=>exact Af d
theorem QD {b c:aa}{a:Q6}(d:c[a.block]? =b[a.block]?):ag c a=ag b a:=by unfold ag;rw[d]
theorem Mod.ag {b:Nat->Prop}{c d:aa}(m:Mod b c d){a:Q6}{v:J0}(e:ag c a=some v)(f: ¬b a.block):Lf.ag d a=some v:=
 (QD (m.get _ (UV e) f)).trans e
theorem Ext.ag {b c:aa}(m:Ext b c){a:Q6}{v:J0}(d:Lf.ag b a=some v):Lf.ag c a=some v:=Mod.ag m d (λb=>b)
theorem Hl {a:aa}{b c:Nat}{d:Array J0}{T:Q7}{fr:Nat×Nat}(e:a[b]? =some (.cells d T fr)):ag a ⟨b,c,none⟩=d[c]? :=by simp[ag,e]
theorem Og {a:aa}{b c:Nat}{d:Array J0}{T:Q7}(e:a[b]? =some (.cells d T (0,0))):fW a ⟨b,c,none⟩=false:=by simp[fW,e]
theorem uh {a:aa}{b c:Nat}{d:Array J0}{T:Q7}{fr:Nat×Nat}{v:J0}(e:a[b]? =some (.cells d T fr)):
  (dc a ⟨b,c,none⟩ v)[b]? =some (.cells (d.setIfInBounds c v) T fr):=by
 simp[dc,GP,e]
theorem AKF {b:aa}{a:Q6}{v:J0}{c:Nat}(d:c≠a.block):(dc b a v)[c]? =b[c]? :=by simp[dc,GP,Ne.symm d]
theorem ZL {b:aa}{a:Q6}{v:J0}:(dc b a v).size=b.size:=by simp[dc]
theorem Mod.set {S:Nat->Prop}{b:aa}{a:Q6}{v:J0}(c:S a.block):Mod S b (dc b a v):=
 ⟨by rw[ZL];exact A0 _,λ_ _ d=>AKF (λe=>d (e▸c))⟩
theorem ak.mk {a:aa}{c:Obj}{K:Nat->aa->Prop}(d: ∀b,b=a.push c->b[a.size]? =some c->Ext a b->b.size=a.size+1->K a.size b):ak a c K:=
 d _ rfl (by simp) (Mod.push a c) (by simp)
theorem ab.mk {a:aa}{b c:Nat}{v:J0}{d:Array J0}{T:Q7}{K:aa->Prop}(f:a[b]? =some (.cells d T (0,0)))(g:c<d.size)
  (h: ∀e,e[b]? =some (.cells (d.setIfInBounds c v) T (0,0))->Mod (· =b) a e->e.size=a.size->K e):ab a ⟨b,c,none⟩ v K:=
 ⟨⟨d[c],by rw[Hl f];simp[g]⟩,Og f,h _ (uh f) (Mod.set rfl) ZL⟩
theorem ae.intro {b:Bool}{a c:Prop}(d:b=true->a)(e:b=false->c):ae b a c:=by
 cases b
 ·exact e rfl
 ·exact d rfl
theorem ae.yes {b:Bool}{a c:Prop}(d:b=true)(e:a):ae b a c:=by subst d;exact e
theorem ae.no {b:Bool}{c a:Prop}(d:b=false)(e:a):ae b c a:=by subst d;exact e
theorem bH.mk {p:Q2}{len:Nat}{a:Q6}{k:Nat}{K:Q6->Prop}(b:p=some a)(d:k<len)(c:K a):bH p len (k:Int) K:=
 ⟨a,b,⟨by omega,by omega⟩,c⟩
theorem YU.mk {b:Bool}{K:Prop}(a:b=true)(c:K):YU b K:=by subst a;exact c
theorem ah.mk {a:Type}{b:a->aa->Prop}{body:(a->aa->Prop)->Prop}(d: ∀K:a->aa->Prop,(∀ x c,b x c->K x c)->body K):ah b body:=d
theorem Du.func {A:al}{P:Q1}{f:Q8}{first bQ args:Array J0}{h:aa}{R:A2O}
  (c:(callFunc f (first++args++bQ)).calc P=some (.enter f (first++args++bQ))) (d:AA A P f (first++args++bQ) h R):Du A P (.func (.func f) first bQ) args h R:=by
 intro a;have e:=DR c (A.at h a);have g:(do let b <-Deferred.ofValue (.func (.func f) first bQ) args;invoke b.target b.args:Sem Next).run P (A.at h a)= .ok (.enter f (first++args++bQ)) (A.at h a):=by simp only[Deferred.ofValue,Sem.run_bind,Sem.run_pure,Result.andThen_ok,invoke];exact e
 rw[g];exact d a
structure cz (α:Type) where
 enc:α->List J0
 w:Nat
 len: ∀x,(enc x).length=w
 pos:0<w
 one: ∀x v,v∈enc x->LP v=true
variable {α : Type}
def Cells(c:aa)(a:Q6)(d:List J0):Prop:= ∀b v,d[b]? =some v->ag c (a.add b)=some v
theorem Cells.mod {b:Nat->Prop}{d e:aa}{a:Q6}{f:List J0}(c:Cells d a f)(m:Mod b d e)(g: ¬b a.block):Cells e a f:=
 λh v i=>m.ag (c h v i) (by rw[aM];exact g)
structure View (E:cz α) (h:aa) (s:Sl) (l:List α):Prop where
 len:s.len=l.length
 cap:s.len<=s.cap
 cells: ∀i x,l[i]? =some x-> ∃a,s.p=some a/\Cells h (a.add (i*E.w)) (E.enc x)
def Sl.af(s:Sl):Option Nat:=s.p.map (·.block)
theorem View.mod {c:cz α}{d:Nat->Prop}{e f:aa}{s:Sl}{l:List α}(v:View c e s l)(m:Mod d e f)(h: ∀b,s.af=some b-> ¬d b):View c f s l:=
 ⟨v.len,v.cap,λi x j=>let ⟨a,g,k⟩:=v.cells i x j;⟨a,g,k.mod m (by rw[aM];exact h _ (by simp[Sl.af,g]))⟩⟩
theorem View.ext {b:cz α}{a c:aa}{s:Sl}{l:List α}(v:View b a s l)(m:Ext a c):View b c s l:=v.mod m λ_ _ a=>a
theorem View.nil {b:cz α}{a:aa}:View b a ⟨none,0,0⟩ []:=⟨rfl,A0 _,λ_ _ a=>by simp at a⟩
structure Own (E:cz α) (T:Q7) (h:aa) (s:Sl) (l:List α):Prop where
 len:s.len=l.length
 row:(s=⟨none,0,0⟩/\l= [])\/ ∃g cur,s.p=some ⟨g,0,none⟩/\h[g]? =some (.cells cur T (0,0))/\s.len<=s.cap/\s.cap<=maxLen/\cur.size=s.cap*E.w/\cur.toList.take (s.len*E.w)=l.flatMap E.enc
theorem Own.nil {a:cz α}{T:Q7}{b:aa}:Own a T b ⟨none,0,0⟩ []:=⟨rfl,.inl ⟨rfl,rfl⟩⟩
theorem dt {E:cz α}: ∀ {l:List α} {i:Nat} {x:α},l[i]? =some x-> ∀a v,(E.enc x)[a]? =some v->(l.flatMap E.enc)[i*E.w+a]? =some v
 | [],i,x,b,_,_,_=>by simp at b
 |y::l,0,x,b,a,v,c=>by
  simp at b;subst b;rw[AH,HQ,AI,Fk (List.getElem?_eq_some_iff.1 c).1];exact c
 |y::l,i+1,x,b,a,v,c=>by
  have d:=dt (E:=E) (l:=l) (i:=i) (by simpa using b) a v c;rw[AH,DE (by rw[E.len,BW];omega),E.len];rw[show(i+1)*E.w+a-E.w=i*E.w+a by rw[BW];omega];exact d
theorem Jh {E:cz α}: ∀ {l:List α},(l.flatMap E.enc).length=l.length*E.w
 | []=>by simp
 |x::l=>by rw[AH,A1,Jh,E.len,A5,BW];omega
theorem Own.view {E:cz α}{T:Q7}{a:aa}{s:Sl}{l:List α}(b:Own E T a s l):View E a s l:=by
 rcases b.row with⟨rfl,rfl⟩|⟨g,m,c,d,e,_,n,f⟩
 ·exact View.nil
 ·refine⟨b.len,e,λi x h=>⟨_,c,λj v k=>?_⟩⟩;have:=dt (E:=E) h j v k;rw[<- f,Fo] at this;split at this
  ·rw[add_add,Ba,Hl d];simpa using this
  ·cases this
theorem Own.mod {a:cz α}{T:Q7}{c:Nat->Prop}{d e:aa}{s:Sl}{l:List α}(f:Own a T d s l)(m:Mod c d e)(i: ∀b,s.af=some b-> ¬c b):Own a T e s l:=by
 refine⟨f.len,?_⟩;rcases f.row with j|⟨g,k,h,n,rest⟩
 ·exact .inl j
 ·exact .inr ⟨g,k,h,m.af n (i g (by simp[Sl.af,h])),rest⟩
theorem Own.ext {b:cz α}{T:Q7}{a c:aa}{s:Sl}{l:List α}(d:Own b T a s l)(m:Ext a c):Own b T c s l:=d.mod m λ_ _ a=>a
theorem Own.lit {E:cz α}{T:Q7}{c:aa}{b:Nat}{l:List α}{a:Array J0}(e:c[b]? =some (.cells a T (0,0)))(d:a.toList=l.flatMap E.enc)(f:l.length<=maxLen):
  Own E T c ⟨some ⟨b,0,none⟩,l.length,l.length⟩ l:=by
 have g:a.size=l.length*E.w:=by rw[<- DS,d,Jh]
 exact⟨rfl,.inr ⟨b,a,rfl,e,A0 _,f,g,by rw[d];exact AG (by rw[Jh];exact A0 _)⟩⟩
def Pi(P:Q1)(t T:Q7)(a b:Nat):Bool:=
 match P.underlying t with
 |some (.slice c)=>Nat.beq c T&&match P.info? T with
  |some i=>Nat.beq i.size a&&Nat.beq i.bytes b&&match i.zero with
   |some z=>Nat.beq z.cells.size a
   |none=>false
  |none=>false
 |_=>false
theorem Zm {P:Q1}{t T:Q7}{b c:Nat}(a:Pi P t T b c=true):
  P.underlying t=some (.slice T)/\ ∃i z,P.info? T=some i/\i.zero=some z/\i.size=b/\i.bytes=c/\z.cells.size=b:=by
 unfold Pi at a;split at a
 ·rename_i h d;split at a
  ·rename_i i e;split at a
   ·rename_i z f;simp only[A3,Nat.beq_eq] at a;obtain⟨rfl,⟨rfl,rfl⟩,g⟩:=a;exact⟨d,i,z,e,f,rfl,rfl,g⟩
   ·simp at a
  ·simp at a
 ·simp at a
theorem ui {A:al}{b a:World}{h:aa}{n:Nat}(c:b=A.at h n)(d:a.os=b.os)(e:a.tape=b.tape)(f:a.output=b.output):a=A.at a.heap a.drawn:=by
 subst c;cases a;simp only[al.at] at*
 simp[d,e,f]
theorem Ou {v:J0}(a:LP v=true):v.oneCell'=true:=by cases v<;>first|rfl|(simp[LP] at a)
theorem Own.kV {a:cz α}{T:Q7}{A:al}{b:aa}{s:Sl}{l:List α}{n:Nat}(c:Own a T b s l):(A.at b n).ownsRow 0 T a.w (.slice s.p s.len s.cap) s.len (l.flatMap a.enc):=by
 refine⟨by rw[Jh,c.len],?_⟩;rcases c.row with⟨rfl,rfl⟩|⟨g,d,e,f,h,i,j,k⟩
 ·exact .inl ⟨rfl,rfl⟩
 ·exact .inr ⟨g,s.cap,d,by rw[e],AD _,f,h,i,j,k⟩
theorem AHT {a:cz α}{T:Q7}{c:World}{v:J0}{b:Nat}{l:List α}(d:c.ownsRow 0 T a.w v b (l.flatMap a.enc))(e:b=l.length):
  ∃s:Sl,v= .slice s.p s.len s.cap/\Own a T c.heap s l/\(v= .slice none 0 0->s=⟨none,0,0⟩):=by
 rcases d.2 with⟨rfl,p⟩|⟨g,f,h,rfl,_,i,j,k,m,n⟩
 ·have:l= []:=CC (by omega);subst this;exact⟨⟨none,0,0⟩,rfl,Own.nil,λ_=>rfl⟩
 ·refine⟨⟨some ⟨g,0,none⟩,b,f⟩,rfl,⟨e,.inr ⟨g,h,rfl,i,j,k,m,n⟩⟩,λo=>by cases o⟩
theorem GX {A:al}{P:Q1}{E:cz α}{t p T:Q7}{M:Nat}(am:Pi P t T E.w M=true){d:aa}{s src:Sl}{l m:List α}{K:Sl->aa->Prop}
  (h:Own E T d s l) (N:View E d src m) (j:(l.length+m.length)*M<=140737488355328) (W:l.length+m.length<=maxLen)
  (X: ∀f B,Own E T B f (l++m)->Mod (λb=>s.af=some b) d B->(∀ b,f.af=some b->s.af=some b\/d.size<=b)->(f.p=none↔s.p=none/\m= [])->K f B):
  BI A P (Builtin.append_ #[t,t] p #[.slice s.p s.len s.cap,.slice src.p src.len src.cap]) d λv B=> ∃f:Sl,v= .slice f.p f.len f.cap/\K f B:=by
 obtain⟨q,i,z,r,O,G,hB,an⟩:=Zm am;intro n;have Q:=N.len;by_cases R:m= []
 ·subst R;simp only[FG,AM,Gk] at*
  have ao:(Builtin.append_ #[t,t] p #[.slice s.p s.len s.cap,.slice src.p src.len src.cap]).run P (A.at d n)= .ok (.slice s.p s.len s.cap) (A.at d n):=by
   have S:s.len<=s.cap:=h.view.cap;have w: ∀U:World,(Builtin.firstCells i.size 0 (.slice src.p 0 src.cap)).run P U= .ok #[] U:=by intro U;cases src.p<;>simp[Builtin.firstCells,loadCells,loadCellsFrom]
   cases o:s.p with
   |none=>simp[Builtin.append_,BH q,run_sizeOf r,Builtin.lenOf,Q,S,w]
   |some a=>simp[Builtin.append_,BH q,run_sizeOf r,Builtin.lenOf,Q,S,w,storeCells]
  exact⟨_,d,n,ao,s,rfl,X s d h Mod.refl (λb j=> .inl j) (by simp)⟩
 ·have Y:0<m.length:=List.length_pos_iff.2 R;obtain⟨a,Z,_⟩:=N.cells 0 m[0] (by simp[Y]);have H: ∀e u,(m.flatMap E.enc)[e]? =some u->(A.at d n).cell? (a.add e)=some u:=by
   intro e u ab;have ap:e<m.length*E.w:=by rw[<- Jh (E:=E)];exact(List.getElem?_eq_some_iff.1 ab).1
   have aq:e / E.w<m.length:=Nat.div_lt_of_lt_mul (by rw[Dd];exact ap);have k:e % E.w<E.w:=CT _ E.pos;have I:m[e / E.w]? =some m[e / E.w]:=by simp[aq]
   have ac:e % E.w<(E.enc m[e / E.w]).length:=by rw[E.len];exact k
   have w:=dt (E:=E) I (e % E.w) _ (A2 ac);have ad:e / E.w*E.w+e % E.w=e:=Nat.div_add_mod' e E.w;rw[ad,ab] at w;obtain⟨aF,ae,ar⟩:=N.cells _ _ I;rw[Z] at ae;cases ae;have:=ar (e % E.w) _ (A2 ac);rw[add_add,ad] at this;rw[BY] at w;rw[w];exact this
  have J: ∀u∈m.flatMap E.enc,u.oneCell'=true:=by intro u au;obtain⟨x,_,I⟩:=List.mem_flatMap.1 au;exact Ou (E.one x u I)
  obtain⟨af,y,k,ag,C,aG⟩:=run_append_own (P:=P) (A.at d n) 0 t p T i z E.w M q r O G hB an E.pos (.slice s.p s.len s.cap) s.len (l.flatMap E.enc) h.kV a m.length src.cap (m.flatMap E.enc)
   (by rw[Jh]) H J (by rw[h.len];exact W) (by rw[h.len];exact j) (AD _)
  rw[<- GC] at ag;obtain⟨f,V,av,aH⟩:=AHT ag (by rw[h.len,A1]);have aw:y=A.at y.heap y.drawn:=ui rfl C.os C.tape C.output;have L:(m.flatMap E.enc).length=m.length*i.size:=by rw[Jh,G]
  have ah:((s.len+m.length:Nat):Int)<=9223372036854775807:=by have:=W;simp only[maxLen] at this;rw[h.len];omega
  have ai:(s.len+m.length)*i.bytes<=140737488355328:=by rw[h.len,hB];exact j
  have ax: ∃g c,af= .slice (some ⟨g,0,none⟩) (s.len+m.length) c/\(s.af=some g\/g=d.size):=by
   rcases h.row with⟨rfl,rfl⟩|⟨g,ay,o,az,S,aI,aA,aJ⟩
   ·have D:=run_append_nil (P:=P) (A.at d n) t p T i z q r O a m.length src.cap (m.flatMap E.enc) L H Y (by simpa using ah) (by have:=ai;simp only[AI] at this;omega);rw[D] at k;cases k;exact⟨d.size,_,by rw[AI];rfl,.inr rfl⟩
   ·by_cases aj:s.len+m.length<=s.cap
    ·have D:=run_append_room (P:=P) (A.at d n) t p T i q r g s.len s.cap ay az a m.length src.cap (m.flatMap E.enc) L H J aj (by rw[L,aA,<-G,<-BW];exact AS _ aj);rw[o,D] at k;cases k;exact⟨g,_,rfl,.inl (by simp[Sl.af,o])⟩
    ·have D:=run_append_grow (P:=P) (A.at d n) t p T i z q r O ⟨g,0,none⟩ s.len s.cap (l.flatMap E.enc) (by rw[Jh,h.len,G])
      (h.kV (A:=A) (n:=n) |>.cells (g:=g) (by simp[Value.ownBlock,o])) a m.length src.cap (m.flatMap E.enc) L H (by omega) ah (growslice_fits (by omega) ai)
     rw[o,D] at k;cases k;exact⟨d.size,_,rfl,.inr rfl⟩
  obtain⟨g,c,aC,aD⟩:=ax;have ak:f.p=some ⟨g,0,none⟩:=by rw[aC] at V;injection V with J _ _;exact J.symm
  refine⟨af,y.heap,y.drawn,?_,f,V,X f y.heap av ⟨C.size,?_⟩ ?_ ?_⟩
  ·rw[Z,Q,<-aw];exact k
  ·intro b j aE;refine C.block b j ?_;intro F;apply aE;unfold Sl.af;cases o:s.p with
   |none=>rw[o] at F;simp[Value.ownBlock] at F
   |some a=>rw[o] at F;simp[Value.ownBlock] at F;simp[F]
  ·intro b j;simp[Sl.af,ak] at j;subst j;rcases aD with d|d
   ·exact .inl d
   ·exact .inr (by omega)
  ·rw[ak];simp[R]
theorem Loop.rule {b:Type}{g:(b->aa->Prop)->b->aa->Prop}(d:Nat->b->aa->Prop)
  (step: ∀K m x a,d m x a->(∀ c e f,c<m->d c e f->K e f)->g K x a) {m:Nat} {x:b} {a:aa} (h:d m x a):Loop g x a:=by
 intro K i
 induction m using Nat.strongRecOn generalizing x a with
 |_ m j=>exact i _ _ (step K m x a h λc e f k l=>j c k l)
theorem Gz {a:Nat}(c:a<=9223372036854775807):J8 J9 (a:Int)=(a:Int):=by
 simp only[J8,IntKind.bits,IntKind.signed];have b:((a:Int)) % ((2:Int)^64)=a:=by omega
 have d: ¬((a:Int)>=(2:Int)^(64-1)):=by omega
 simp only[b];simp;omega
theorem Ab {a:Nat}(b:a<9223372036854775807):J8 J9 ((a:Int)+(1:Int))=((a+1:Nat):Int):=by rw[show((a:Int)+1)=((a+1:Nat):Int) by omega];exact Gz b
theorem Rj.mk {b:aa}{a:Q6}{K:J0->Prop}{v:J0}(c:ag b a=some v)(d:K v):Rj b a K:=⟨v,c,d⟩
theorem AC.mk {b:aa}{a:Q6}{k:IntKind}{K:Int->Prop}{n:Int}(c:ag b a=some (.int k n))(d:K n):AC k b a K:=⟨n,c,d⟩
theorem Aa.mk {b:aa}{a:Q6}{K:Bool->Prop}{n:Bool}(c:ag b a=some (J3 n))(d:K n):Aa b a K:=⟨n,c,d⟩
theorem AJ.mk {b:aa}{a:Q6}{K:A2P->Prop}{n:A2P}(c:ag b a=some (J7 n))(d:K n):AJ b a K:=⟨n,c,d⟩
theorem AZ.mk {b:aa}{a:Q6}{K:Q2->Prop}{n:Q2}(c:ag b a=some (J5 n))(d:K n):AZ b a K:=⟨n,c,d⟩
theorem AY.mk {b:aa}{a:Q6}{K:Sl->Prop}{s:Sl}(c:ag b a=some (J4 s.p s.len s.cap))(d:K s):AY b a K:=⟨s,c,d⟩
theorem AL {a:aa}{b j:Nat}{c:Array J0}{T:Q7}{fr:Nat×Nat}{v:J0}(d:a[b]? =some (J2 c T fr))(e:c[j]? =some v):ag a ⟨b,j,none⟩=some v:=by rw[Hl d];exact e
theorem AB {a:aa}{b c:Nat}{d:Array J0}{T:Q7}{fr:Nat×Nat}{v:J0}(e:a[b]? =some (J2 d T fr))(f:d[c]? =some v):ag a ((⟨b,0,none⟩:Q6).add c)=some v:=by rw[Ba,AI];exact AL e f
structure Pr where
 key:A2P
 val:A2P
 gone:Bool
deriving DecidableEq
def Pr.agg(x:Pr):J0:= .agg #[J7 x.key,J7 x.val,J3 x.gone]
def Pr.cells(x:Pr):Array J0:= #[J7 x.key,J7 x.val,J3 x.gone]
def BZ:cz Pr where
 enc x:= [J7 x.key,J7 x.val,J3 x.gone]
 w:=3
 len _:=rfl
 pos:=by omega
 one x v a:=by simp at a;rcases a with rfl|rfl|rfl<;>rfl
def hG:cz Sl where
 enc s:= [J4 s.p s.len s.cap]
 w:=1
 len _:=rfl
 pos:=by omega
 one x v a:=by simp at a;subst a;rfl
structure hP where
 v:J0
 one:LP v=true
def jJ:cz hP where
 enc s:= [s.v]
 w:=1
 len _:=rfl
 pos:=by omega
 one x v a:=by simp at a;subst a;exact x.one
theorem View.idx {b:Type}{c:cz b}{d:aa}{s:Sl}{l:List b}(v:View c d s l){i:Nat}{x:b}(e:l[i]? =some x){K:Q6->Prop}
  (g: ∀a,s.p=some a->Cells d (a.add (i*c.w)) (c.enc x)->K a):bH s.p s.len ((i:Nat):Int) K:=by
 obtain⟨a,f,h⟩:=v.cells i x e;have:i<s.len:=by rw[v.len];exact(List.getElem?_eq_some_iff.1 e).1
 exact bH.mk f this (g a f h)
theorem Cells.pair {b:aa}{a:Q6}{x:Pr}(c:Cells b a (BZ.enc x)):ag b a=some (J7 x.key)/\ag b (a.add 1)=some (J7 x.val)/\ag b (a.add 2)=some (J3 x.gone):=by have d:=c 0 _ rfl;rw[add_zero] at d;exact⟨d,c 1 _ rfl,c 2 _ rfl⟩
theorem Cells.sl {b:aa}{a:Q6}{x:Sl}(c:Cells b a (hG.enc x)):ag b a=some (J4 x.p x.len x.cap):=by have d:=c 0 _ rfl;rwa [add_zero] at d
theorem Cells.val {b:aa}{a:Q6}{x:hP}(c:Cells b a (jJ.enc x)):ag b a=some x.v:=by have d:=c 0 _ rfl;rwa [add_zero] at d
theorem ak.pair {a:aa}{T:Q7}{j k:A2P}{l:Bool}{d v:A2P}{g:Bool}{K:Nat->aa->Prop}
  (n: ∀b c,b=a.size->c[b]? =some (J2 #[J7 d,J7 v,J3 g] T (0,0))->Ext a c->c.size=a.size+1->K b c):
  ak a (J2 #[J7 j,J7 k,J3 l] T) λb e=>ab e ⟨b,0,none⟩ (J7 d) λf=>ab f ((⟨b,0,none⟩:Q6).add 1) (J7 v) λh=>ab h ((⟨b,0,none⟩:Q6).add 2) (J3 g) λi=>K b i:=by
 refine ak.mk λe _ o p y=>?_
 refine ab.mk o (by simp) λf q r z=>?_
 rw[Ba,Ba];refine ab.mk q (by simp) λh s t A=>?_
 refine ab.mk s (by simp) λi u w B=>?_
 refine n _ _ rfl (by simpa using u) ?_ (by omega);have m:=(r.trans t).trans w;exact⟨by omega,λb x _=>(m.get b (by omega) (by omega)).trans (p.get b x (by simp))⟩
theorem ak.aY {k:al}{P:Q1}{t m T:Q7}{g:Nat}{e:Type}{E:cz e}{x:e}{h:Array J0}(n:h.toList=E.enc x)(o:Pi P t T E.w g=true){d:aa}{s:Sl}{l:List e}{K:Sl->aa->Prop}
  (p:Own E T d s l) (q:(l.length+1)*g<=140737488355328) (r:l.length+1<=maxLen)
  (u: ∀a c,Own E T c a (l++ [x])->Mod (λb=>s.af=some b) d c->(∀ b,a.af=some b->s.af=some b\/d.size<=b)->a.p≠none->K a c):
  ak d (J2 h T) λb f=>BI k P (Builtin.append_ #[t,t] m #[J4 s.p s.len s.cap,J4 (some ⟨b,0,none⟩) 1 1]) f λv c=> ∃a:Sl,v=J4 a.p a.len a.cap/\K a c:=by
 refine ak.mk λf _ w i G=>?_
 have y:Own E T f ⟨some ⟨d.size,0,none⟩,1,1⟩ [x]:=Own.lit (E:=E) (l:= [x]) w (by simp[n]) (by simp[maxLen]);refine GX (s:=s) (src:=⟨some ⟨d.size,0,none⟩,1,1⟩) o (p.ext i) y.view (by simpa using q) (by simpa using r) λa c z A B C=>?_
 refine u a c z ?_ ?_ ?_
 ·exact i.mod.trans A
 ·intro b D;rcases B b D with j|j
  ·exact .inl j
  ·exact .inr (by omega)
 ·intro F;have:=(C.1 F).2;simp at this
theorem View.sub {d:Type}{b:cz d}{e:aa}{s:Sl}{l:List d}(v:View b e s l){lo hi:Nat}(h:lo<=hi)(j:hi<=l.length):
  View b e ⟨A7 s.p s.cap lo b.w,hi-lo,s.cap-lo⟩ ((l.take hi).drop lo):=by
 have k:=v.cap;have m:=v.len;refine⟨by simp;omega,by simp;omega,λi x c=>?_⟩;rw[Bs,Fo] at c;split at c
 ·rename_i n;obtain⟨a,f,g⟩:=v.cells _ _ c;refine⟨a.add (lo*b.w),?_,?_⟩
  ·unfold A7;simp only[f];rw[if_neg (by omega)];rfl
  ·rw[add_add,<-BW];exact g
 ·cases c
theorem Ze {p:Q2}{e f g:Nat}{b:Nat}{len c:Nat}(d:Sl.af ⟨A7 p e f g,len,c⟩=some b):p.map (·.block)=some b:=by
 unfold Sl.af A7 at d;simp only at d;split at d
 ·exact d
 ·cases p with
  |none=>simp at d
  |some a=>simp[aM] at d;simp[d]
def Yields(h:al)(P:Q1)(j:J0)(l:List Pr)(d:Nat->Bool->(Nat->Prop)->aa->Prop):Prop:=
 ∀i x c a,l[i]? =some x->d i true c a->Du h P j #[x.agg] a λv e=> ∃g f,v=J3 g/\(∀ b,f b->c b\/a.size<=b)/\Mod c a e/\d (i+1) g f e
structure Body (h:aa) (J:Nat->Bool->(Nat->Prop)->aa->Prop):Prop where
 wf: ∀i g O hh,J i g O hh-> ∀b,O b->b<hh.size
 bd: ∀i g O hh h',J i g O hh->Mod (λb=>¬O b/\h.size<=b) hh h'->J i g O h'
def EJ(k:al)(P:Q1)(fv:J0)(j:Nat->Prop)(m:aa)(l:List Pr):Prop:=
 (∀ b,j b->b<m.size)/\ ∃f d,fv= .func (.func f) #[] d/\(∀ a,(callFunc f (#[]++ #[a]++d)).calc P=some (.enter f (#[]++ #[a]++d)))/\
  ∀(c:aa),(∀ b,j b->c[b]? =m[b]?)-> ∀a e h,LP a=true->(∀ b,j b-> ¬h b)->Body c e->Yields k P a l e->e 0 true h c->
   AA k P f (#[]++ #[a]++d) c λv n=>v=J1 #[]/\ ∃i g o,Mod h c n/\(∀ b,o b->h b\/c.size<=b)/\e i g o n/\(g=true->i=l.length)/\i<=l.length
theorem EJ.ai {e:al}{P:Q1}{fv:J0}{c S':Nat->Prop}{g d:aa}{l:List Pr}(i:EJ e P fv c g l)(h: ∀b,c b->S' b)(j: ∀b,S' b->b<d.size)(k: ∀b,c b->d[b]? =g[b]?):EJ e P fv S' d l:=by obtain⟨_,f,m,n,o,p⟩:=i;refine⟨j,f,m,n,o,λq r s t u v hd=>p q (λb a=>(r b (h b a)).trans (k b a)) s t u v λb a=>hd b (h b a)⟩
theorem EJ.one {a:al}{P:Q1}{fv:J0}{b:Nat->Prop}{c:aa}{l:List Pr}(d:EJ a P fv b c l):LP fv=true/\jB fv/\WR fv=false:=by obtain⟨_,f,e,rfl,_⟩:=d;exact⟨rfl,by simp[jB],rfl⟩
def uj(x:Pr):iB [.agg [.str,.str,.bool]]:=((x.key,x.val,x.gone,()),())
def uk(l:Nat)(rec:Go.Loop)(c:aa)(d:Nat->Prop)(f:(Nat->Prop)->aa->Prop)(a:aa):Prop:=
 ∃e,(∀ b,e b->d b\/c.size<=b)/\Mod (λb=>d b\/b=l) c a/\a[l]? =some (.loop {rec with state:= .busy})/\f e a
theorem Mod.setObj {S:Nat->Prop}{a:aa}{l:Nat}{c:Obj}(d:S l):Mod S a (a.setIfInBounds l c):=
 ⟨by simp,λb _ e=>by rw[E0];intro f;exact e (f▸d)⟩
theorem CQ {a:aa}{l:Nat}{b:Obj}(c:l<a.size):(a.setIfInBounds l b)[l]? =some b:=by simp[c]
theorem Wd {Q:al}{P:Q1}{fv:J0}{F:Nat->Prop}{R a:aa}{l:List Pr}(ai:EJ Q P fv F R l)(S: ∀b,F b->a[b]? =R[b]?)
  (Inv:Nat->Option (Option Nat)->(Nat->Prop)->aa->Prop) (n:Nat->Prop) (hd: ∀b,F b-> ¬n b)
  {body:iB [.agg [.str,.str,.bool]]->Nat->aa->(aa->Prop)->(Option Nat->aa->Prop)->Prop} {T:aa->Prop} {U:Option Nat->aa->Prop}
  (H: ∀i c n j,Inv i c n j-> ∀b,n b->b<j.size)
  (z: ∀i c n j k,Inv i c n j->Mod (λb=>¬n b/\a.size<=b) j k->Inv i c n k)
  (V:Inv 0 none n a)
  (round: ∀i x m j rec W X,l[i]? =some x->Inv i none m j-> ¬m (a.size+1)->a.size+1<j.size->j[a.size+1]? =some (.loop rec)->rec.state= .ready->
   (∀ k,uk (a.size+1) rec j m (Inv (i+1) none) k->W k)->(∀ o k,uk (a.size+1) rec j m (Inv (i+1) (some o)) k->X o k)->body (uj x) (a.size+1) j W X)
  (aj: ∀r k,Inv l.length none r k->Mod n a k-> ¬r a.size->(∀ b,r b->n b\/a.size<=b)->k[a.size]? =some (.deferred (some []))->T k)
  (ak: ∀i o r k,Inv i (some o) r k->i<=l.length->Mod n a k-> ¬r a.size->(∀ b,r b->n b\/a.size<=b)->k[a.size]? =some (.deferred (some []))->U o k):
  WM Q P fv [.agg [.str,.str,.bool]] body a T U:=by
 intro rec G I aA am;obtain⟨an,f,Y,rfl,ao,ap⟩:=ai;have Z: ∀b,n b->b<a.size:=H _ _ _ _ V;have ab: ∀b,F b->b<a.size:=λb e=>by
  have:=S b e;rw[CD (an b e)] at this;exact Af this
 have J:Ext a ((a.push (.deferred (some []))).push (.loop rec)):=(Mod.push a _).trans (Mod.push _ _);have aC:((a.push (.deferred (some []))).push (.loop rec)).size=a.size+2:=by simp
 refine⟨f,_,?_,AA.mono (ap ((a.push (.deferred (some []))).push (.loop rec)) (λb e=>(J.get b (ab b e) (by simp)).trans (S b e)) (.func (.yield (a.size+1)) #[] #[])
  (λi g D j=> ∃m:Nat->Prop,(∀ b,D b↔m b\/b=a.size\/b=a.size+1)/\ ¬m a.size/\ ¬m (a.size+1)/\(∀ b,m b->n b\/a.size<=b)/\a.size+2<=j.size/\j[a.size]? =some (.deferred (some []))/\
   match g with
   |true=>j[a.size+1]? =some (.loop rec)/\Inv i none m j
   |false=> ∃o y,j[a.size+1]? =some (.loop y)/\y.state≠ .busy/\y.pending=some (ZJ o)/\Inv i (some o) m j)
  (λb=>n b\/b=a.size\/b=a.size+1) rfl ?_ ?_ ?_ ?_) ?_⟩
 ·have aq:(do let ac <-Deferred.ofValue (.func (.func f) #[] Y) #[.func (.yield (a.size+1)) #[] #[]];invoke ac.target ac.args:Sem Next).calc P=(callFunc f (#[]++ #[.func (.yield (a.size+1)) #[] #[]]++Y)).calc P:=rfl;unfold Ro;rw[aq,ao]
 ·intro b e d;have:=ab b e;rcases d with d|d|d
  ·exact hd b e d
  ·omega
  ·omega
 ·constructor
  ·rintro i g D j ⟨m,p,_,_,_,K,_,t⟩ b e;rcases(p b).1 e with d|d|d
   ·cases g
    ·obtain⟨o,y,_,_,_,A⟩:=t;exact H _ _ _ _ A b d
    ·exact H _ _ _ _ t.2 b d
   ·omega
   ·omega
  ·rintro i g D j k ⟨m,p,w,u,B,K,C,t⟩ q;have ad:Mod (λb=>¬m b/\a.size<=b) j k:=q.ai λb _ e=>⟨λd=>e.1 ((p b).2 (.inl d)),by omega⟩
   have ar:k[a.size]? =j[a.size]? :=q.get _ (by omega) λe=>e.1 ((p _).2 (.inr (.inl rfl)))
   have ae:k[a.size+1]? =j[a.size+1]? :=q.get _ (by omega) λe=>e.1 ((p _).2 (.inr (.inr rfl)))
   refine⟨m,p,w,u,B,by have:=q.size;omega,ar.trans C,?_⟩;cases g
   ·obtain⟨o,y,d,h,L,A⟩:=t;exact⟨o,y,ae.trans d,h,L,z _ _ _ _ _ A ad⟩
   ·exact⟨ae.trans t.1,z _ _ _ _ _ t.2 ad⟩
 ·rintro i x D j au ⟨m,p,w,u,B,K,C,af,A⟩;refine am (uj x) j _ af (round i x m j rec _ _ au A u (by omega) af G ?_ ?_)
  ·rintro k ⟨r,s,q,M,N⟩;have O:a.size+1<k.size:=by have:=q.size;omega
   refine⟨_,M,true,λb=>r b\/b=a.size\/b=a.size+1,rfl,?_,?_,r,λ_=>Ds,?_,?_,?_,?_,?_,?_,?_⟩
   ·rintro b (e|e)
    ·rcases s b e with d|d
     ·exact .inl ((p b).2 (.inl d))
     ·exact .inr d
    ·exact .inl ((p b).2 (.inr e))
   ·refine(q.trans (Mod.setObj (.inr rfl))).ai λb _ e=>(p b).2 (e.elim .inl λd=> .inr (.inr d))
   ·intro d;rcases s _ d with h|h
    ·exact w h
    ·omega
   ·intro d;rcases s _ d with h|h
    ·exact u h
    ·omega
   ·intro b e;rcases s _ e with h|h
    ·exact B _ h
    ·exact .inr (by omega)
   ·simp;omega
   ·rw[E0 (by omega)];exact(q.get _ (by omega) (by rintro(d|d);exact w d;omega)).trans C
   ·rw[CQ O];cases rec;simp at G I;simp[G,I]
   ·refine z _ _ _ _ _ N (Mod.setObj ⟨?_,by omega⟩);intro d;rcases s _ d with h|h
    ·exact u h
    ·omega
  ·rintro o k ⟨r,s,q,M,N⟩;have O:a.size+1<k.size:=by have:=q.size;omega
   refine⟨_,M,false,λb=>r b\/b=a.size\/b=a.size+1,rfl,?_,?_,r,λ_=>Ds,?_,?_,?_,?_,?_,o,{rec with state:= .done,pending:=some (ZJ o)},?_,?_,rfl,?_⟩
   ·rintro b (e|e)
    ·rcases s b e with d|d
     ·exact .inl ((p b).2 (.inl d))
     ·exact .inr d
    ·exact .inl ((p b).2 (.inr e))
   ·refine(q.trans (Mod.setObj (.inr rfl))).ai λb _ e=>(p b).2 (e.elim .inl λd=> .inr (.inr d))
   ·intro d;rcases s _ d with h|h
    ·exact w h
    ·omega
   ·intro d;rcases s _ d with h|h
    ·exact u h
    ·omega
   ·intro b e;rcases s _ e with h|h
    ·exact B _ h
    ·exact .inr (by omega)
   ·simp;omega
   ·rw[E0 (by omega)];exact(q.get _ (by omega) (by rintro(d|d);exact w d;omega)).trans C
   ·exact CQ O
   ·simp
   ·refine z _ _ _ _ _ N (Mod.setObj ⟨?_,by omega⟩);intro d;rcases s _ d with h|h
    ·exact u h
    ·omega
 ·refine⟨n,λ_=>Ds,λd=>?_,λd=>?_,λb e=> .inl e,by omega,?_,?_⟩;rotate_left 2
  ·rw[R0 (by simp)];simp
  ·exact⟨by have av:a.size+1=(a.push (.deferred (some []))).size:=(by simp);rw[av];exact R1,z _ _ _ _ _ V J.mod⟩
  ·have:=Z _ d;omega
  ·have:=Z _ d;omega
 ·rintro v h ⟨_,i,g,D,q,aD,⟨m,p,w,u,B,K,C,t⟩,aw,ax⟩;have ag: ∀E,Mod n a (h.setIfInBounds (a.size+1) (.loop E)):=λE=>by
   refine⟨by simp;omega,λb e ay=>?_⟩;rw[E0 (by omega)];exact(q.get b (by omega) (by rintro(d|d|d);exact ay d;omega;omega)).trans (J.get b e (by simp))
  have ah: ∀E,(h.setIfInBounds (a.size+1) (.loop E))[a.size]? =some (.deferred (some [])):=λE=>by
   rw[E0 (by omega)];exact C
  cases g
  ·obtain⟨o,y,d,L,az,A⟩:=t;exact⟨y,d,L,.inr ⟨o,az,ak i o m _ (z _ _ _ _ _ A (Mod.setObj ⟨u,by omega⟩)) ax (ag _) w B (ah _)⟩⟩
  ·refine⟨rec,t.1,by simp[G],.inl ⟨I,aj m _ ?_ (ag _) w B (ah _)⟩⟩;have:=aw rfl;subst this;exact z _ _ _ _ _ t.2 (Mod.setObj ⟨u,by omega⟩)
open Go Ieee
abbrev fD:Format:=Ieee.double
theorem AKG(s:Bool)(m u v:Nat):signed s m (u+v)=signed s m u*(2:Int)^v:=by
 unfold signed;rw[ON,ON,Hb,<-G3];split
 ·push_cast;rw[Int.neg_mul]
 ·push_cast;rfl
def DV(b:Datum)(c:Int):Prop:= ∃s m,∃a:Nat,b= .number s m (-(a:Int))/\signed s m 0=c*(2:Int)^a
def VR(b:Nat)(a:Int):Prop:=DV (fD.read b) a
theorem Nh(s:Bool)(m u:Nat):signed s m u=signed s m 0*(2:Int)^u:=by have:=AKG s m 0 u;rwa [AI] at this
theorem pow_pos(a:Nat):(0:Int)<(2:Int)^a:=Int.pow_pos (by decide)
theorem AG9(a b:Int)(c:Nat):compare (a*(2:Int)^c) (b*(2:Int)^c)=compare a b:=by have d:=pow_pos c;simp only[compare,compareOfLessAndEq];have e:(a*2^c<b*2^c)↔a<b:=Int.mul_lt_mul_right d;have f:(a*2^c=b*2^c)↔a=b:=Int.mul_eq_mul_right_iff (by omega);by_cases g:a<b<;>by_cases h:a=b<;>simp[e,f,g,h]
theorem DV.order {x d:Datum}{e m:Int}(f:DV x e)(h:DV d m):x.order d=some (compare e m):=by
 obtain⟨s,a,c,rfl,i⟩:=f;obtain⟨t,b,l,rfl,g⟩:=h;simp only[Datum.order];congr 1;have j:(-(c:Int)-min (-(c:Int)) (-(l:Int))).toNat=max c l-c:=by omega
 have k:(-(l:Int)-min (-(c:Int)) (-(l:Int))).toNat=max c l-l:=by omega
 rw[j,k,Nh s,Nh t,i,g,Iv,Iv,<-Ix,<-Ix,show c+(max c l-c)=max c l by omega,show l+(max c l-l)=max c l by omega,AG9]
theorem VR.order {x a:Nat}{b m:Int}(c:VR x b)(d:VR a m):fD.order x a=some (compare b m):=DV.order c d
theorem cmp_eq {a m:Int}:(compare a m= .eq)↔a=m:=by simp only[compare,compareOfLessAndEq];by_cases b:a<m<;>by_cases c:a=m<;>simp[b,c]<;>omega
theorem wu(b:Bool){a:Nat}(c:a<fD.signWeight):
  fD.read (fD.word b a)=if a<fD.binade then .number b a fD.leastPlace else if a<fD.infRung then .number b (fD.binade+a % fD.binade) (fD.leastPlace+(a / fD.binade-1:Nat)) else if a=fD.infRung then .infinity b else .nan b (a-fD.infRung):=by
 have d:0<fD.signWeight:=HG _;have e:(fD.word b a / fD.signWeight % 2==1)=b:=by
  unfold Format.word;cases b
  ·simp[Nat.div_eq_of_lt c]
  ·simp[Nat.add_div_left _ d,Nat.div_eq_of_lt c]
 have f:fD.word b a % fD.signWeight=a:=by
  unfold Format.word;cases b
  ·simp[As c]
  ·simp[As c]
 unfold Format.read;simp only[e,f]
theorem wv(s:Bool)(u:Nat):signed s 0 u=0:=by cases s<;>simp[signed]
theorem nX:fD.binade=4503599627370496:=by decide
theorem qO:fD.infRung=9218868437227405312:=by decide
theorem wx:fD.signWeight=9223372036854775808:=by decide
theorem lU:fD.leastPlace= -1074:=by decide
theorem ASW:fD.fractionBits=52:=rfl
theorem AQD(a:Bool):VR (fD.word a 0) 0:=by refine⟨a,0,1074,?_,by rw[wv,Int.zero_mul]⟩;rw[wu a (by rw[wx];decide),if_pos (by rw[nX];decide),lU];rfl
theorem XQ {v:Nat}(f:0<v)(K:Nat):(v*2^K).log2=v.log2+K:=by
 have a:v≠0:=by omega
 have c:0<2^K:=HG K;have b:v*2^K≠0:=Nat.mul_ne_zero a (by omega);have d:2^v.log2<=v:=(SD a).1 (A0 _);have e:v<2^(v.log2+1):=(OR a).1 (HP _);have g:v.log2+K<=(v*2^K).log2:=by rw[SD b,Hb];exact AS _ d
 have h:(v*2^K).log2<v.log2+1+K:=by rw[OR b,Hb];exact SJ e c
 omega
theorem APA(b:Bool)(a:Nat):Toward.even.cut b a 0=a:=by simp[Toward.cut,Nat.mod_one]
theorem AMW(b:Toward)(c:Bool){M a:Nat}(d:0<M):b.cut c (M*2^a) a=M:=by
 unfold Toward.cut;have hd:min a ((M*2^a).log2+2)=a:=by rw[XQ d];omega
 have e:0<2^a:=HG a;simp only[hd,Nat.one_shiftLeft,Nat.mul_mod_left,Nat.mul_div_cancel _ e];cases b
 ·have f: ¬(2^a=0):=by omega
  simp[f]
 all_goals simp
theorem AOZ {L M:Nat}(a:L<=52)(b:M<9007199254740992):min ((L+1022)*4503599627370496+M) 9218868437227405312=(L+1022)*4503599627370496+M:=by omega
theorem ARH {L M:Nat}(a:4503599627370496<=M): ¬(L+1022)*4503599627370496+M<4503599627370496:=by omega
theorem ARU {L M:Nat}(a:L<=52)(b:M<9007199254740992):(L+1022)*4503599627370496+M<9218868437227405312:=by omega
theorem wy {L M:Nat}(a:4503599627370496<=M)(b:M<9007199254740992):((L+1022)*4503599627370496+M) % 4503599627370496=M-4503599627370496/\((L+1022)*4503599627370496+M) / 4503599627370496=L+1023:=by omega
theorem ARN {M:Nat}(a:4503599627370496<=M):4503599627370496+(M-4503599627370496)=M:=by omega
theorem ARa {L:Nat}(a:L<=52):(-1074:Int)+((L+1023-1:Nat):Int)=(L:Int)-52:=by omega
theorem AR0 {L:Nat}(a:L<=52):(L:Int)-52= -((52-L:Nat):Int):=by omega
theorem ARc {L M:Nat}(a:L<=52)(b:M<9007199254740992):(L+1022)*4503599627370496+M<9223372036854775808:=by omega
theorem AEB(a:Bool){v K:Nat}(i:0<v)(j:v<9007199254740992):VR (fD.nearest a (v*2^K) (-(K:Int))) (if a then -(v:Int) else v):=by
 have e:v≠0:=by omega
 have k:=XQ i K;have b:v.log2<=52:=by have:v.log2<53:=(OR e).2 (by simpa using j);omega
 have l:2^v.log2<=v:=(SD e).1 (A0 _);have m:v<2^(v.log2+1):=(OR e).1 (HP _);have n: ¬v*2^K=0:=Nat.mul_ne_zero e (by have:=HG K;omega);generalize u:v.log2=L at*
 have f:4503599627370496<=v*2^(52-L):=by have c:2^L*2^(52-L)<=v*2^(52-L):=AS _ l;rw[<- Hb,show L+(52-L)=52 by omega] at c;exact c
 have d:v*2^(52-L)<9007199254740992:=by have c:v*2^(52-L)<2^(L+1)*2^(52-L):=SJ m (HG _);rw[<- Hb,show L+1+(52-L)=53 by omega] at c;exact c
 have o:fD.nearest a (v*2^K) (-(K:Int))=fD.word a ((L+1022)*4503599627370496+v*2^(52-L)):=by
  unfold Format.nearest;rw[if_neg n];have p:max (-(K:Int)+((v*2^K).log2:Nat)-(fD.fractionBits:Nat)) fD.leastPlace=(L:Int)-52:=by rw[k,lU,ASW];push_cast;omega
  simp only[p];have q:Toward.even.cut a ((v*2^K) <<< (-(K:Int)-((L:Int)-52)).toNat) (((L:Int)-52)- -(K:Int)).toNat=v*2^(52-L):=by
   by_cases w:K+L<=52
   ·have g:(((L:Int)-52)- -(K:Int)).toNat=0:=by omega
    have h:(-(K:Int)-((L:Int)-52)).toNat=52-L-K:=by omega
    rw[g,h,APA,ON,G3,<-Hb];congr 2;omega
   ·have g:(((L:Int)-52)- -(K:Int)).toNat=L+K-52:=by omega
    have h:(-(K:Int)-((L:Int)-52)).toNat=0:=by omega
    have r:v*2^K=(v*2^(52-L))*2^(L+K-52):=by rw[G3,<-Hb];congr 2;omega
    rw[g,h,Ly,r,AMW _ _ (by omega)]
  have s:(((L:Int)-52)-fD.leastPlace).toNat=L+1022:=by rw[lU];omega
  rw[q,s,nX,qO,AOZ b d]
 rw[o];have t:(L+1022)*4503599627370496+v*2^(52-L)<fD.signWeight:=by rw[wx];exact ARc b d
 refine⟨a,v*2^(52-L),52-L,?_,?_⟩
 ·rw[wu a t,nX,qO,lU,if_neg (ARH f),if_pos (ARU b d),(wy f d).1,(wy f d).2,ARN f,ARa b,AR0 b]
 ·unfold signed;rw[Ly];cases a
  ·simp
  ·simp[Int.neg_mul]
theorem AOv {s:Bool}{a:Nat}{K:Nat}{b:Int}(c:signed s a 0=b*(2:Int)^K)(j:b.natAbs<9007199254740992):VR (fD.write (.number s a (-(K:Int)))) b:=by
 show VR (fD.nearest s a (-(K:Int))) b;have h:=pow_pos K;have k:(2:Int)^K=((2^K:Nat):Int):=by push_cast;rfl
 by_cases l:b=0
 ·subst l;have e:a=0:=by unfold signed at c;rw[Ly,Int.zero_mul] at c;split at c<;>omega
  subst e;have f:fD.nearest s 0 (-(K:Int))=fD.word s 0:=by unfold Format.nearest;rw[if_pos rfl]
  rw[f];exact AQD s
 ·have e:a=b.natAbs*2^K/\(if s then -(b.natAbs:Int) else b.natAbs)=b:=by
   unfold signed at c;rw[Ly] at c;have i:(a:Int).natAbs=(b*2^K).natAbs:=by rw[<- c];split<;>simp
   have f:(b*2^K).natAbs=b.natAbs*2^K:=by rw[Int.natAbs_mul,k,OS]
   refine⟨by rw[f] at i;simpa using i,?_⟩;split at c
   ·rename_i g;rw[if_pos g];have:b*(2:Int)^K<=0:=by omega
    have:b<=0:=by
     rcases Int.lt_or_le 0 b with d|d
     ·have:=Int.mul_pos d h;omega
     ·exact d
    omega
   ·rename_i g;rw[if_neg g];have:0<=b*(2:Int)^K:=by omega
    have:0<=b:=by
     rcases Int.lt_or_le b 0 with d|d
     ·have:=Int.mul_neg_of_neg_of_pos d h;omega
     ·exact d
    omega
  rw[e.1];have:=AEB s (v:=b.natAbs) (K:=K) (by omega) j;rw[e.2] at this;exact this
theorem AH8(t:Int):signed (decide (t<0)) t.natAbs 0=t:=by
 unfold signed;rw[Ly];split
 ·rename_i a;simp at a;omega
 ·rename_i a;simp at a;omega
theorem DV.sum {x e:Datum}{d m:Int}(i:DV x d)(j:DV e m)(k:(d+m).natAbs<9007199254740992): ∃f,x.sum e=some f/\VR (fD.write f) (d+m):=by
 obtain⟨s,a,c,rfl,n⟩:=i;obtain⟨t,b,l,rfl,g⟩:=j;refine⟨_,rfl,?_⟩;have o:min (-(c:Int)) (-(l:Int))= -((max c l:Nat):Int):=by omega
 have p:(-(c:Int)-min (-(c:Int)) (-(l:Int))).toNat=max c l-c:=by omega
 have q:(-(l:Int)-min (-(c:Int)) (-(l:Int))).toNat=max c l-l:=by omega
 have r:signed s a (-(c:Int)-min (-(c:Int)) (-(l:Int))).toNat+signed t b (-(l:Int)-min (-(c:Int)) (-(l:Int))).toNat=(d+m)*(2:Int)^(max c l):=by rw[p,q,Nh s,Nh t,n,g,Iv,Iv,<-Ix,<-Ix,show c+(max c l-c)=max c l by omega,show l+(max c l-l)=max c l by omega,Int.add_mul]
 simp only[r];rw[o];generalize u:(d+m)*(2:Int)^(max c l)=T at*
 refine AOv ?_ k;rw[u];split
 ·rename_i h;rw[h];exact(wv _ _).trans (by rw[<- h])
 ·exact(AH8 T)
theorem AMe {b:Nat}{s:Bool}{m:Nat}{i:Int}(a:fD.read b= .number s m i):i<=0\/4503599627370496<=m:=by
 unfold Format.read at a;simp only[nX,qO,lU] at a;split at a
 ·injection a with _ _ c;exact .inl (by omega)
 ·split at a
  ·injection a with _ d _;exact .inr (by omega)
  ·split at a<;>cases a
theorem AJk(s:Bool)(m u:Nat):(signed s m u).natAbs=m*2^u:=by
 unfold signed;rw[ON];split
 ·rw[Int.natAbs_neg,OS]
 ·rw[OS]
theorem VR.of_eq {x k:Nat}{m:Int}(o:VR k m)(v:m.natAbs<4503599627370496)(c:fD.order x k=some .eq):VR x m:=by
 obtain⟨t,b,l,p,g⟩:=o;unfold Format.order at c;rw[p] at c;unfold VR;cases e:fD.read x with
 |nan s f=>rw[e] at c;simp[Datum.order] at c
 |infinity s=>rw[e] at c;cases s<;>simp[Datum.order] at c
 |number s a i=>
  rw[e] at c;simp only[Datum.order,BY] at c;rw[cmp_eq] at c;by_cases q:i<=0
  ·refine⟨s,a,(-i).toNat,by rw[show -(((-i).toNat:Nat):Int)=i by omega],?_⟩;generalize w:(-i).toNat=d;have h:(i-min i (-(l:Int))).toNat=max d l-d:=by omega
   have j:(-(l:Int)-min i (-(l:Int))).toNat=max d l-l:=by omega
   rw[h,j,Nh s,Nh t,g,Iv,<-Ix,show l+(max d l-l)=max d l by omega] at c;refine Int.eq_of_mul_eq_mul_right (a:=(2:Int)^(max d l-d)) (by have:=pow_pos (max d l-d);omega) ?_;rw[c,Iv,<-Ix,show d+(max d l-d)=max d l by omega]
  ·exfalso;have y:=(AMe e).resolve_left q;have h:(i-min i (-(l:Int))).toNat=i.toNat+l:=by omega
   have j:(-(l:Int)-min i (-(l:Int))).toNat=0:=by omega
   rw[h,j,g] at c;have n:=congrArg Int.natAbs c;have r:(2:Int)^l=((2^l:Nat):Int):=by push_cast;rfl
   rw[AJk,Int.natAbs_mul,r,OS,Hb,<-G3] at n;have z:a*2^i.toNat=m.natAbs:=Nat.eq_of_mul_eq_mul_right (HG l) n;have u:1<=2^i.toNat:=HG _;have A:a*1<=a*2^i.toNat:=Nat.mul_le_mul_left _ u;omega
theorem BI.run {A:al}{P:Q1}{s:Sem J0}{h:aa}{K:A2O}{v:J0}(b: ∀a,s.run P a= .ok v a)(c:K v h):BI A P s h K:=λd=>⟨v,h,d,b _,c⟩
section
variable {A : al} {P : Q1} {t : Q7} {o1 o2 : Operand} {x y : Nat} {h : aa} {K : A2O}
end
open Go
theorem toList_inj {a b:A2P}:(a.toList==b.toList)=decide (a=b):=by rw[ByteArray.toList_eq,ByteArray.toList_eq];rw[DH];simp[MD,<-Array.toList_inj]
theorem CY {a b:A2P}:bL a b=decide (a=b):=toList_inj
theorem QO: ∀(a:List UInt8),Op.bytesLess a a=false
 | []=>rfl
 |a::x=>by simp[Op.bytesLess,QO x]
theorem lL: ∀(a b:List UInt8),Op.bytesLess a b=false->Op.bytesLess b a=false->a=b
 | [],[],_,_=>rfl
 | [],_::_,c,_=>by simp[Op.bytesLess] at c
 |_::_,[],_,c=>by simp[Op.bytesLess] at c
 |a::x,b::f,d,e=>by
  simp only[Op.bytesLess,Hk,A0d,decide_eq_false_iff_not,beq_eq_false_iff_ne] at d e;have g:a=b:=by have h:=d.1;have i:=e.1;exact UInt8.le_antisymm (UInt8.not_lt.1 i) (UInt8.not_lt.1 h)
  subst g;rw[lL x f (d.2.resolve_left (by simp)) (e.2.resolve_left (by simp))]
theorem Sn: ∀(a b c:List UInt8),Op.bytesLess a b=true->Op.bytesLess b c=true->Op.bytesLess a c=true
 |_,[],_,f,_=>by simp[Op.bytesLess] at f
 |_,_::_,[],_,f=>by simp[Op.bytesLess] at f
 | [],_::_,_::_,_,_=>by simp[Op.bytesLess]
 |a::x,b::g,c::z,e,d=>by
  simp only[Op.bytesLess,Cp,A3,decide_eq_true_eq,beq_iff_eq] at e d ⊢;rcases e with e|⟨rfl,e⟩
  ·rcases d with d|⟨rfl,d⟩
   ·exact .inl (UInt8.lt_trans e d)
   ·exact .inl e
  ·rcases d with d|⟨rfl,d⟩
   ·exact .inl d
   ·exact .inr ⟨rfl,Sn x g z e d⟩
theorem Bo(a:A2P):aO a a=false:=QO _
theorem DJ {a b c:A2P}(d:aO a b=true)(e:aO b c=true):aO a c=true:=Sn _ _ _ d e
theorem NU {a b:A2P}(d:aO a b=false)(e:aO b a=false):a=b:=by
 have:=lL _ _ d e;have c:bL a b=true:=by simp[bL,this]
 rw[CY] at c;simpa using c
theorem Nq {a b:A2P}(c:aO a b=true):aO b a=false:=by
 cases d:aO b a
 ·rfl
 ·have:=DJ c d;rw[Bo] at this;cases this
theorem OD {a b:A2P}(c:aO a b=true):a≠b:=by rintro rfl;rw[Bo] at c;cases c
theorem nD {a b c:A2P}(d:aO a b=true)(f:aO c b=false):aO a c=true:=by
 cases e:aO b c
 ·rw[NU f e];exact d
 ·exact DJ d e
theorem Yp {a b c:A2P}(e:aO b a=false)(d:aO c b=false):aO c a=false:=by
 cases f:aO c a
 ·rfl
 ·have:=nD f e;rw[this] at d;cases d
theorem uO: ∀(a b:List UInt8),Op.bytesLess a b=decide (a<b)
 | [],[]=>by simp[Op.bytesLess]
 | [],_::_=>by simp[Op.bytesLess]
 |_::_,[]=>by simp[Op.bytesLess]
 |a::x,b::c=>by
  simp only[Op.bytesLess,uO x c,A0n];by_cases d:a<b<;>by_cases e:a=b<;>simp[d,e]
theorem YT(a b:A2P):aO a b=decide (a.data.toList<b.data.toList):=by simp[aO,ByteArray.toList_eq,uO]
def IV:cz A2P where
 enc x:= [.string x]
 w:=1
 len _:=rfl
 pos:=by omega
 one x v a:=by simp at a;subst a;rfl
def IE:cz Int where
 enc x:= [.int J9 x]
 w:=1
 len _:=rfl
 pos:=by omega
 one x v a:=by simp at a;subst a;rfl
theorem Cells.str {b:aa}{a:Q6}{x:A2P}(c:Cells b a (IV.enc x)):ag b a=some (.string x):=by have d:=c 0 _ rfl;rwa [add_zero] at d
theorem Cells.int {b:aa}{a:Q6}{x:Int}(c:Cells b a (IE.enc x)):ag b a=some (.int J9 x):=by have d:=c 0 _ rfl;rwa [add_zero] at d
theorem Own.lt {c:Type}{e:cz c}{T:Q7}{d:aa}{s:Sl}{l:List c}(f:Own e T d s l){b:Nat}(a:s.af=some b):b<d.size:=by
 rcases f.row with⟨rfl,_⟩|⟨g,j,h,i,_⟩
 ·simp[Sl.af] at a
 ·simp[Sl.af,h] at a;subst a;exact Af i
def ZY(a:A2P)(v:J0):List (A2P×J0)->List (A2P×J0)
 | []=> [(a,v)]
 |p::m=>if p.1=a then(a,v)::m else p::ZY a v m
def TY(a:A2P)(m:List (A2P×J0)):Option J0:=(m.find? λp=>decide (p.1=a)).map (·.2)
def iC(a:A2P)(m:List (A2P×J0)):List (A2P×J0):=m.filter λp=> !decide (p.1=a)
theorem Nw(a:A2P)(p:A2P×J0)(m:List (A2P×J0)):TY a (p::m)=if p.1=a then some p.2 else TY a m:=by unfold TY;rw[DO];by_cases b:p.1=a<;>simp[b]
structure dO (es:Array MapEntry) (clock:Nat) (m:List (A2P×J0)):Prop where
 same:es.toList.map (λe=>(e.key,e.val))=m.map λp=>(Value.string p.1,p.2)
 stamped:MapKept.Stamped es clock
 size:es.size<=maxLen
 keys: ∀p∈m,p.1.size<=maxLen
def Uo(d:aa)(b:Nat)(m:List (A2P×J0)):Prop:= ∃a c,d[b]? =some (.map a c)/\dO a c m
theorem Uo.mod {a c:aa}{b:Nat}{m:List (A2P×J0)}{d:Nat->Prop}(M:Uo a b m)(x:Mod d a c)(e: ¬d b):Uo c b m:=by obtain⟨f,g,h,i⟩:=M;exact⟨f,g,x.af h e,i⟩
theorem Uo.lt {a:aa}{b:Nat}{m:List (A2P×J0)}(M:Uo a b m):b<a.size:=by obtain⟨d,e,c,f⟩:=M;exact Af c
theorem Uo.empty {a:aa}{b c:Nat}(d:a[b]? =some (.map #[] c)):Uo a b []:=⟨#[],c,d,rfl,MapKept.stamped_empty c,by simp,by simp⟩
theorem dO.len {a:Array MapEntry}{b:Nat}{m:List (A2P×J0)}(M:dO a b m):a.size=m.length:=by rw[<- DS];have:=congrArg List.length M.same;simpa using this
theorem dO.keysOf {a:Array MapEntry}{b:Nat}{m:List (A2P×J0)}(M:dO a b m):a.toList.map (·.key)=m.map λp=>Value.string p.1:=by have:=congrArg (List.map Prod.fst) M.same;simpa [AT,G4] using this
theorem dO.nodup {b:Array MapEntry}{c:Nat}{m:List (A2P×J0)}(M:dO b c m):(m.map (·.1)).Nodup:=by
 have a:=M.stamped.2.2;rw[M.keysOf] at a;have d:(m.map λp=>Value.string p.1)=(m.map (·.1)).map Value.string:=by simp
 rw[d] at a;exact(List.pairwise_map.1 a).imp λe f=>e (congrArg _ f)
theorem Ug(a:A2P)(v:J0): ∀(c:List MapEntry) (m:List (A2P×J0)) (i:Nat),(c.map λe=>(e.key,e.val))=(m.map λp=>(Value.string p.1,p.2))->
  (Instr.findNow .string (.string a) c i=some none/\TY a m=none/\ZY a v m=m++ [(a,v)]/\iC a m=m/\ ∀e∈c,e.key≠ .string a)\/
  ∃d u,Instr.findNow .string (.string a) c i=some (some (i+d,u))/\TY a m=some u/\(∃ e,c[d]? =some e/\e.key= .string a)/\((c.modify d λe=> {e with key:= .string a,val:=v}).map λe=>(e.key,e.val))=(ZY a v m).map (λp=>(Value.string p.1,p.2))/\
   ((m.map (·.1)).Nodup->((c.eraseIdx d).map λe=>(e.key,e.val))=(iC a m).map λp=>(Value.string p.1,p.2))
 | [],[],i,_=> .inl ⟨rfl,rfl,rfl,rfl,by simp⟩
 | [],_::_,_,h=>by simp at h
 |_::_,[],_,h=>by simp at h
 |e::c,p::m,i,h=>by
  simp only[By,Is,Kx] at h;obtain⟨⟨j,l⟩,n⟩:=h;have o:Instr.sameNow .string (.string a) e.key=some (decide (a=p.1)):=by rw[j];show some (a==p.1)=_;congr 1;rw[DH,MapKept.bytes_beq];simp
  by_cases b:p.1=a
  ·refine .inr ⟨0,e.val,?_,?_,⟨e,rfl,by rw[j,b]⟩,?_,?_⟩
   ·unfold Instr.findNow;rw[o,decide_eq_true b.symm];rfl
   ·rw[Nw,if_pos b,l]
   ·unfold ZY;rw[if_pos b];simp[n]
   ·intro g;have g:=List.nodup_cons.1 g;simp only[List.eraseIdx_zero,List.tail_cons];rw[n];congr 1;unfold iC;rw[B9];simp only[b,decide_true,LR,Cl,if_false];refine(List.filter_eq_self.2 λC w=>?_).symm;simp only[CA,decide_eq_false_iff_not];rintro rfl;exact g.1 (by show p.1∈_;rw[b];exact No (f:=Prod.fst) w)
  ·rcases Ug a v c m (i+1) n with⟨q,r,s,k,y⟩|⟨d,u,q,r,⟨z,s,A⟩,B,k⟩
   ·refine .inl ⟨?_,?_,?_,?_,?_⟩
    ·unfold Instr.findNow;rw[o,decide_eq_false (λe=>b e.symm)];exact q
    ·rw[Nw,if_neg b];exact r
    ·unfold ZY;rw[if_neg b,s];rfl
    ·unfold iC at k ⊢;rw[B9];simp[b];simpa using k
    ·intro x t;rcases List.mem_cons.1 t with rfl|t
     ·rw[j];intro e;injection e with e;exact b e
     ·exact y x t
   ·refine .inr ⟨d+1,u,?_,?_,⟨z,by simpa using s,A⟩,?_,?_⟩
    ·unfold Instr.findNow;rw[o,decide_eq_false (λe=>b e.symm)];rw[show i+(d+1)=i+1+d by omega];exact q
    ·rw[Nw,if_neg b];exact r
    ·unfold ZY;rw[if_neg b];simp[j,l,B]
    ·intro g;have g:=List.nodup_cons.1 g;have:=k g.2;unfold iC at this ⊢;rw[B9];simp[b,j,l];simpa using this
section
variable {P : Q1}
theorem JP {a:Q7}(c:P.underlying a=some .string)(d:Bool)(e:Nat)(f:A2P)(b:World):(Instr.checkKey d (e+1) a (.string f)).run P b= .ok () b:=by simp[Instr.checkKey,BH c]
theorem QW {g:al}{t h i:Q7}{z:J0}(j:P.underlying t=some (.map h i))(c:P.underlying h=some .string)(n:(zeroValue i).calc P=some z){a:aa}{b:Nat}{m:List (A2P×J0)}{d:A2P}{K:A2O}
  (M:Uo a b m) (o:K ((TY d m).getD z) a):BI g P (Instr.lookup t (.map (some b)) (.string d) false) a K:=by
 intro k;refine⟨_,a,k,?_,o⟩;obtain⟨p,v,q,s⟩:=M;have l:=MapKept.run_getObj_map (P:=P) (w:=g.at a k) (r:=b) q;rcases Ug d z p.toList m 0 s.same with⟨e,f,_⟩|⟨x,u,e,f,_,_⟩
 ·simp[Instr.lookup,BH j,l,JP c,Instr.findKey,BH c,e,f,Result.andThen,DR n]
 ·simp[Instr.lookup,BH j,l,JP c,Instr.findKey,BH c,e,f,Result.andThen]
theorem uP {b:A2P}{v:J0}: ∀ {m:List (A2P×J0)} {p:A2P×J0},p∈ZY b v m->p.1=b\/p∈m
 | [],p,a=>by simp[ZY] at a;exact .inl (by rw[a])
 |q::m,p,a=>by
  unfold ZY at a;split at a
  ·rcases List.mem_cons.1 a with rfl|a
   ·exact .inl rfl
   ·exact .inr (An _ a)
  ·rcases List.mem_cons.1 a with rfl|a
   ·exact .inr AN
   ·exact(uP a).imp id (An _)
theorem AMG {g:al}{t s I:Q7}(y:P.underlying t=some (.map s I))(h:P.underlying s=some .string){d:aa}{b:Nat}{m:List (A2P×J0)}{a:A2P}{v:J0}{K:aa->Prop}
  (M:Uo d b m) (J:a.size<=maxLen) (U:m.length<maxLen) (z: ∀i,Uo i b (ZY a v m)->Mod (λc=>c=b) d i->i.size=d.size->K i):gI g P (Instr.mapUpdate t (.map (some b)) (.string a) v) d K:=by
 intro f;obtain⟨j,l,n,e⟩:=M;have A:=Af n;have B:=MapKept.run_getObj_map (P:=P) (w:=g.at d f) (r:=b) n;have C: ∀k,(setObj b k).run P (g.at d f)= .ok () (g.at (d.setIfInBounds b k) f):=λk=>MapKept.run_setObj_map (P:=P) (w:=g.at d f) k n
 have D: ∀p∈ZY a v m,p.1.size<=maxLen:=λp L=>(uP L).elim (λd=>by rw[d];exact J) (e.keys p)
 have V:=e.len;rcases Ug a v j.toList m 0 e.same with⟨o,N,q,_,O⟩|⟨E,u,o,N,⟨Q,q,F⟩,R,_⟩
 ·refine⟨d.setIfInBounds b (.map (j.push {key:= .string a,val:=v,born:=l}) (l+1)),f,?_,z _ ⟨_,_,CQ A,?_,MapKept.stamped_push e.stamped O,by simp;omega,D⟩ (Mod.setObj rfl) (by simp)⟩
  ·simp[Instr.mapUpdate,BH y,B,JP h,Instr.findKey,BH h,o,Result.andThen,C]
  ·rw[q];simp[e.same]
 ·have G:j[E]? =some Q:=by simpa using q
  refine⟨d.setIfInBounds b (.map (j.modify E λe=> {e with key:= .string a,val:=v}) l),f,?_,z _ ⟨_,_,CQ A,?_,MapKept.stamped_modify e.stamped _ _ (λ_ _=>rfl) (λx _ H=>?_),by simpa using e.size,D⟩ (Mod.setObj rfl) (by simp)⟩
  ·have S: ∀w,(Instr.keyThatStays (.string a) (.string a)).run P w= .ok (.string a) w:=λw=>by
    have T:(a==a)=true:=(MapKept.bytes_beq a a).2 rfl;simp[Instr.keyThatStays,Instr.sameBits,T]
   simp[Instr.mapUpdate,BH y,B,JP h,Instr.findKey,BH h,o,G,F,S,Result.andThen,C]
  ·rw[Hv];exact R
  ·rw[G] at H;cases H;exact F.symm
theorem ALn {g:al}{t l D E:Q7}(v:P.underlying t=some (.map l D))(h:P.underlying l=some .string){a:aa}{b:Nat}{m:List (A2P×J0)}{i:A2P}{K:A2O}
  (M:Uo a b m) (x: ∀j,Uo j b (iC i m)->Mod (λc=>c=b) a j->j.size=a.size->K (.tuple #[]) j):BI g P (Builtin.delete_ #[t,l] E #[.map (some b),.string i]) a K:=by
 intro e;obtain⟨f,y,n,d⟩:=M;have z:=Af n;have A:=MapKept.run_getObj_map (P:=P) (w:=g.at a e) (r:=b) n;have B: ∀k,(setObj b k).run P (g.at a e)= .ok () (g.at (a.setIfInBounds b k) e):=λk=>MapKept.run_setObj_map (P:=P) (w:=g.at a e) k n
 have C: ∀p∈iC i m,p.1.size<=maxLen:=λp F=>d.keys p (List.mem_filter.1 F).1
 rcases Ug i (.bool true) f.toList m 0 d.same with⟨o,G,_,q,_⟩|⟨s,u,o,G,⟨H,I,N⟩,_,q⟩
 ·refine⟨_,a.setIfInBounds b (.map f y),e,?_,x _ ⟨_,_,CQ z,by rw[q];exact d.same,d.stamped,d.size,C⟩ (Mod.setObj rfl) (by simp)⟩;simp[Builtin.delete_,BH v,A,JP h,Instr.findKey,BH h,o,Result.andThen,B]
 ·have J:f[s]? =some H:=by simpa using I
  refine⟨_,a.setIfInBounds b (.map (f.eraseIdxIfInBounds s) y),e,?_,x _ ⟨_,_,CQ z,?_,MapKept.stamped_erase d.stamped _,?_,C⟩ (Mod.setObj rfl) (by simp)⟩
  ·simp[Builtin.delete_,BH v,A,JP h,Instr.findKey,BH h,o,Result.andThen,B]
  ·have L:=(Array.getElem?_eq_some_iff.1 J).1;rw[Array.eraseIdxIfInBounds,dif_pos L,A0q];exact q d.nodup
  ·have:(f.eraseIdxIfInBounds s).size<=f.size:=by unfold Array.eraseIdxIfInBounds;split<;>simp
   have:=d.size;omega
end
def kF(_:J0):Option (DataW Unit×List MemPlace):=some (.nil,[])
theorem uQ {a:Type}(x:Lit×DataW a): ∀l:List (Lit×DataW a),(DataW.insert x l).Perm (x::l)
 | []=>by simp[DataW.insert]
 |y::b=>by
  unfold DataW.insert;split
  ·exact IT _
  ·exact((uQ x b).cons y).trans (List.Perm.swap x y b)
theorem sorted_perm {a:Type}: ∀l:List (Lit×DataW a),(l.foldr DataW.insert []).Perm l
 | []=>IT _
 |x::b=>(uQ x _).trans ((sorted_perm b).cons x)
theorem AJt {P:Q1}{kt:Q7}(j:P.underlying kt=some .string){w:World}{b:Nat}{m:List (A2P×J0)}(M:Uo w.heap b m):
  ∃e:DataW Unit,w.ownsMap P kt kF b m.length e/\(strKeys e).Perm (m.map λp=>p.1.data.toList)/\Maps.size e=m.length:=by
 obtain⟨c,k,l,a⟩:=M;have h: ∀x∈c.toList,∃s:A2P,x.key= .string s/\WideElems.rd P kt kF x=some (.string s.data.toList,.nil):=by
  intro x d;have:x.key∈m.map λp=>Value.string p.1:=by rw[<- a.keysOf];exact No d
  obtain⟨p,n,i⟩:=List.mem_map.1 this;refine⟨p.1,i.symm,?_⟩;simp[WideElems.rd,<-i,Go.WideMaps.keyOf_string_mk j (a.keys p n),kF]
 refine⟨_,⟨c,k,l,⟨a.size,a.stamped,λx d=>?_⟩,by rw[a.len];exact A0 _,rfl⟩,?_,?_⟩
 ·obtain⟨s,_,f⟩:=h x d;exact⟨_,f⟩
 ·show((c.toList.map (WideElems.rg P kt kF)).foldr DataW.insert [] |>.map λp=>strOf p.1).Perm _;refine((sorted_perm _).map _).trans ?_;have g:(c.toList.map (WideElems.rg P kt kF)).map (λp=>strOf p.1)=(c.toList.map (·.key)).map λv=>match v with| .string s=>s.data.toList|_=> []:=by
   rw[AT,AT];refine CM λx d=>?_
   obtain⟨s,g,f⟩:=h x d;simp[Function.comp,WideElems.rg,f,g,strOf]
  rw[g,a.keysOf,AT];exact List.Perm.of_eq (CM λx _=>rfl)
 ·show((c.toList.map (WideElems.rg P kt kF)).foldr DataW.insert []).length=_;rw[(sorted_perm _).length_eq];simp[a.len]
def nL(l:List A2P):Prop:=l.Pairwise λa b=>aO a b=true
theorem AIz {d:List (List UInt8)}{l:List A2P}(e:nL l)(f:d.Perm (l.map λx=>x.data.toList)):(d.mergeSort λx g=>decide (x<=g))=l.map λx=>x.data.toList:=by
 have h:=mergeSort_of_perm f;have i:(l.map λx=>x.data.toList).mergeSort leB=l.map λx=>x.data.toList:=by refine List.mergeSort_of_pairwise ?_;refine List.pairwise_map.2 (e.imp λ{a b} c=>?_);rw[YT] at c;simp only[decide_eq_true_eq] at c ⊢;exact List.le_of_lt c
 exact h.trans i
theorem ALz(l:List A2P):(l.map λx=>x.data.toList).map Proofs.encStr=l.flatMap IV.enc:=by
 induction l with
 |nil=>rfl
 |cons x b a=>rw[By,By,a,AH];rfl
theorem wrap_u32(a:Nat):J8 .u32 (a:Int)=((a % 4294967296:Nat):Int):=by simp[J8,IntKind.bits,IntKind.signed]
theorem wrap_u64(a:Nat):J8 .u64 (a:Int)=((a % 18446744073709551616:Nat):Int):=by simp[J8,IntKind.bits,IntKind.signed]
theorem UU {a b:Nat}(c:a<4294967296)(d:b<4294967296):Yo .u32 (a:Int) (b:Int)=((a ^^^ b:Nat):Int):=by
 have e:a ^^^ b<2^32:=Lz (by simpa using c) (by simpa using d);unfold Yo;have f:(BitVec.ofInt (IntKind.bits .u32) (a:Int) ^^^ BitVec.ofInt (IntKind.bits .u32) (b:Int)).toNat=a ^^^ b:=by show(BitVec.ofInt 32 (a:Int) ^^^ BitVec.ofInt 32 (b:Int)).toNat=a ^^^ b;rw[BitVec.ofInt_natCast,BitVec.ofInt_natCast,BitVec.toNat_xor,BitVec.toNat_ofNat,BitVec.toNat_ofNat,As (by simpa using c),As (by simpa using d)]
 rw[f,wrap_u32,As (by simpa using e)]
theorem AQ6 {a b:Nat}(c:a<4294967296)(d:b<4294967296):dY .u32 (a:Int) (b:Int)=((a ||| b:Nat):Int):=by
 have e:a ||| b<2^32:=Ln (by simpa using c) (by simpa using d);unfold dY;have f:(BitVec.ofInt (IntKind.bits .u32) (a:Int) ||| BitVec.ofInt (IntKind.bits .u32) (b:Int)).toNat=a ||| b:=by show(BitVec.ofInt 32 (a:Int) ||| BitVec.ofInt 32 (b:Int)).toNat=a ||| b;rw[BitVec.ofInt_natCast,BitVec.ofInt_natCast,BitVec.toNat_or,BitVec.toNat_ofNat,BitVec.toNat_ofNat,As (by simpa using c),As (by simpa using d)]
 rw[f,wrap_u32,As (by simpa using e)]
theorem qP {a b:Nat}(c:a<18446744073709551616)(d:b<18446744073709551616):dY .u64 (a:Int) (b:Int)=((a ||| b:Nat):Int):=by
 have e:a ||| b<2^64:=Ln (by simpa using c) (by simpa using d);unfold dY;have f:(BitVec.ofInt (IntKind.bits .u64) (a:Int) ||| BitVec.ofInt (IntKind.bits .u64) (b:Int)).toNat=a ||| b:=by show(BitVec.ofInt 64 (a:Int) ||| BitVec.ofInt 64 (b:Int)).toNat=a ||| b;rw[BitVec.ofInt_natCast,BitVec.ofInt_natCast,BitVec.toNat_or,BitVec.toNat_ofNat,BitVec.toNat_ofNat,As (by simpa using c),As (by simpa using d)]
 rw[f,wrap_u64,As (by simpa using e)]
theorem qQ(a b:Nat):((a:Nat):Int)*((b:Nat):Int)=((a*b:Nat):Int):=(Int.natCast_mul a b).symm
def hA(a c:Nat):Nat:=((a ^^^ c)*16777619) % 4294967296
def hX(b c:Nat):Nat:=((b+c) % 4294967296*2246822507) % 4294967296
def hB(b c:Nat):Nat:=hX b c ^^^ (hX b c / 8192)
def Ti(l:List UInt8):Nat×Nat:=l.foldl (λs c=>(hA s.1 c.toNat,hB s.2 c.toNat)) (2166136261,2538058380)
def lV(a:A2P):Nat:=(Ti a.data.toList).1
def nY(a:A2P):Nat:=(Ti a.data.toList).2 ||| 1
theorem ASX(a c:Nat):hA a c<4294967296:=CT _ (by decide)
theorem wz(b c:Nat):hX b c<4294967296:=CT _ (by decide)
theorem ASE(b c:Nat):hB b c<4294967296:=by have a:=wz b c;have:hB b c<2^32:=Lz (by simpa using a) (by have:hX b c / 8192<=hX b c:=RW _ _;omega);simpa using this
theorem wA(l:List UInt8)(c:UInt8):Ti (l++ [c])=(hA (Ti l).1 c.toNat,hB (Ti l).2 c.toNat):=by simp[Ti]
theorem wB(l:List UInt8):(Ti l).1<4294967296/\(Ti l).2<4294967296:=by
 rw[<- List.reverse_reverse l];cases l.reverse with
 |nil=>decide
 |cons c a=>rw[SM,wA];exact⟨ASX _ _,ASE _ _⟩
theorem wC(a:A2P):lV a<4294967296:=(wB _).1
theorem PK {a c:Nat}(b:a<4294967296)(d:c<256):J8 .u32 ((Yo .u32 (a:Int) (J8 .u32 (c:Int)))*(16777619:Int))=((hA a c:Nat):Int):=by rw[wrap_u32,As (by omega),UU b (by omega),show((a ^^^ c:Nat):Int)*(16777619:Int)=(((a ^^^ c)*16777619:Nat):Int) from qQ _ 16777619,wrap_u32];rfl
theorem AR9 {b c:Nat}(a:b<4294967296)(d:c<256):J8 .u32 ((J8 .u32 ((b:Int)+(J8 .u32 (c:Int))))*(2246822507:Int))=((hX b c:Nat):Int):=by rw[wrap_u32 c,As (by omega),show((b:Int)+(c:Int))=((b+c:Nat):Int) by push_cast;rfl,wrap_u32,show(((b+c) % 4294967296:Nat):Int)*(2246822507:Int)=(((b+c) % 4294967296*2246822507:Nat):Int) from qQ _ 2246822507,wrap_u32];rfl
theorem QC(n a:Nat):((n:Nat):Int).fdiv ((2:Int)^a)=((n / 2^a:Nat):Int):=by
 rw[Wg _ (by have:=Int.pow_pos (n:=2) (m:=a) (by decide);omega)]
 push_cast;rfl
theorem AST {b c:Nat}(a:b<4294967296)(d:c<256):Yo .u32 (J8 .u32 ((J8 .u32 ((b:Int)+(J8 .u32 (c:Int))))*(2246822507:Int))) ((J8 .u32 ((J8 .u32 ((b:Int)+(J8 .u32 (c:Int))))*(2246822507:Int))).fdiv ((2:Int)^(13:Nat)))=((hB b c:Nat):Int):=by have e:=wz b c;have f:hX b c / 2^13<=hX b c:=RW _ _;rw[AR9 a d,QC,UU e (by omega)];rfl
theorem O7 {s:A2P}{i:Nat}{c:UInt8}(a:s.data.toList[i]? =some c):du s ((i:Nat):Int)=((c.toNat:Nat):Int):=by
 have b:i<s.data.toList.length:=(List.getElem?_eq_some_iff.1 a).1;have d:i<s.size:=by simpa using b
 unfold du;have e:((i:Nat):Int).toNat=i:=by omega
 rw[e];have f:s[i]? =some c:=by rw[getElem?_pos s i d];congr 1;have g:=(List.getElem?_eq_some_iff.1 a).2;rw[<- g];rw[Array.getElem_toList];rfl
 rw[f];rfl
def AX(l:List UInt8):A2P:=⟨l.toArray⟩
theorem Ce(l:List UInt8):(AX l).data.toList=l:=by simp[AX]
theorem EE(s:A2P):AX s.data.toList=s:=by simp[AX]
theorem AP(l:List UInt8):(AX l).size=l.length:=by simp[AX,ByteArray.size]
theorem N7 {a b:List UInt8}:AX a=AX b↔a=b:=⟨λc=>by simpa [AX] using congrArg (λs:A2P=>s.data.toList) c,λc=>by rw[c]⟩
def Cq(a:Nat):UInt8:=UInt8.ofNat a
theorem EA {a:Nat}(b:a<256):(Cq a).toNat=a:=by simp[Cq,UInt8.toNat_ofNat'];omega
theorem wE(c:UInt8):Cq c.toNat=c:=by simp[Cq]
def BX(a:Nat):List UInt8:=if a<128 then [Cq a] else Cq (a % 128+128)::BX (a / 128)
termination_by a
decreasing_by omega
theorem Fg {n:Nat}(a:n<128):BX n= [Cq n]:=by rw[BX,if_pos a]
theorem XK {n:Nat}(a: ¬n<128):BX n=Cq (n % 128+128)::BX (n / 128):=by rw[BX,if_neg a]
def MB:Nat->Nat->List UInt8->Option (Nat×List UInt8)
 |_,_,[]=>none
 |i,a,c::t=>
  if 10<=i\/(i=9/\1<c.toNat)\/(0<i/\c.toNat=0) then none
  else if c.toNat<128 then some (a+c.toNat*128^i,t) else MB (i+1) (a+c.toNat % 128*128^i) t
theorem Ld {i a:Nat}(b:i<=a):128^i<=128^a:=RM (by decide) b
theorem iD(t:List UInt8): ∀(b i a:Nat),b*128^i<18446744073709551616->(i=0\/0<b)->MB i a (BX b++t)=some (a+b*128^i,t):=by
 intro b
 induction b using Nat.strongRecOn with
 |ind b k=>
  intro i a h m;have n:0<128^i:=Nat.pos_of_ne_zero (Nat.pos_iff_ne_zero.1 (SO (by decide)));by_cases e:b<128
  ·rw[Fg e];simp only[F0,DA,MB,EA (show b<256 by omega)];rw[if_neg,if_pos e];rintro(c|⟨c,f⟩|⟨c,f⟩)
   ·have g:=Ld c;have j:1*128^i<=b*128^i:=AS _ (by omega);have d:(128:Nat)^10=1180591620717411303424:=by decide
    omega
   ·subst c;have d:(128:Nat)^9=9223372036854775808:=by decide
    rw[d] at h;omega
   ·omega
  ·rw[XK e];have hd:b / 128<b:=by omega
   simp only[F0,MB,EA (show b % 128+128<256 by omega)];rw[if_neg,if_neg (by omega),k (b / 128) hd]
   ·have l:(b % 128+128) % 128=b % 128:=by omega
    rw[l,Fc,GB,show b % 128*128^i+b / 128*(128^i*128)=(b % 128+128*(b / 128))*128^i by
     rw[BW,Dd (128^i) 128,<-G3,Dd (b / 128) 128],Nat.mod_add_div]
   ·have g:b / 128*128<=b:=Nat.div_mul_le_self _ _;have j:b / 128*128*128^i<=b*128^i:=AS _ g;rw[Fc,Dd (128^i) 128,<-G3];omega
   ·omega
   ·rintro(c|⟨c,f⟩|⟨c,f⟩)
    ·have g:=Ld c;have j:128*128^i<=b*128^i:=AS _ (by omega);have d:(128:Nat)^10=1180591620717411303424:=by decide
     omega
    ·subst c;have d:(128:Nat)^9=9223372036854775808:=by decide
     rw[d] at h;omega
    ·omega
theorem wF: ∀(l:List UInt8) (i a n:Nat) (t:List UInt8),MB i a l=some (n,t)-> ∃m,n=a+m*128^i/\l=BX m++t/\m*128^i<18446744073709551616/\(i=0\/0<m)
 | [],i,a,n,t,b=>by simp[MB] at b
 |c::l,i,a,n,t,b=>by
  simp only[MB] at b;split at b
  ·cases b
  ·rename_i v;have w:c.toNat<256:=c.toNat_lt;split at b
   ·rename_i e;obtain⟨rfl,rfl⟩:=b;refine⟨c.toNat,rfl,by rw[Fg e,wE];rfl,?_,by omega⟩;have x:i<=9:=by omega
    by_cases h:i=9
    ·subst h;have d:(128:Nat)^9=9223372036854775808:=by decide
     rw[d];omega
    ·have j:=Ld (show i<=8 by omega);have d:(128:Nat)^8=72057594037927936:=by decide
     have k:c.toNat*128^i<=127*128^i:=AS _ (by omega);omega
   ·rename_i e;obtain⟨m,o,rfl,f,y⟩:=wF l (i+1) _ n t b;have p:0<m:=by omega
    refine⟨c.toNat % 128+128*m,?_,?_,?_,by omega⟩
    ·rw[o,Fc,BW,GB,Dd (128^i) 128,<-G3,Dd m 128]
    ·rw[XK (n:=c.toNat % 128+128*m) (by omega),show(c.toNat % 128+128*m) % 128+128=c.toNat by omega,show(c.toNat % 128+128*m) / 128=m by omega,wE];rfl
    ·rw[Fc,Dd (128^i) 128,<-G3] at f;have z:(18446744073709551616:Nat)=144115188075855872*128:=by decide
     have A:i<=8:=by
      refine P0 λq=>?_
      have j:=Ld (show 9<=i from q);have d:(128:Nat)^9=9223372036854775808:=by decide
      have k:1*128*128^i<=m*128*128^i:=AS _ (AS _ p);omega
     have g:(18446744073709551616:Nat)=128^(i+1)*(18446744073709551616 / 128^(i+1)):=by
      have:i=0\/i=1\/i=2\/i=3\/i=4\/i=5\/i=6\/i=7\/i=8:=by omega
      rcases this with rfl|rfl|rfl|rfl|rfl|rfl|rfl|rfl|rfl<;>decide
     have r:0<128^i:=Nat.pos_of_ne_zero (Nat.pos_iff_ne_zero.1 (SO (by decide)));have s:m<18446744073709551616 / 128^(i+1):=by refine Nat.lt_of_mul_lt_mul_left (a:=128^(i+1)) ?_;rw[<- g,Fc,Dd,Dd (128^i) 128,<-G3];exact f
     have u:128^(i+1)*(m+1)<=128^(i+1)*(18446744073709551616 / 128^(i+1)):=Nat.mul_le_mul_left _ s;rw[<- g,Fc] at u;have B:(c.toNat % 128+128*m)*128^i<128*(m+1)*128^i:=SJ (by omega) r;have C:128*(m+1)*128^i=128^i*128*(m+1):=by rw[Dd,<-G3]
     omega
theorem wG: ∀(b a:Nat),a<128^(b+1)->(BX a).length<=b+1:=by
 intro b
 induction b with
 |zero=>intro a c;rw[Fg (by simpa using c)];simp
 |succ b e=>
  intro a c;by_cases d:a<128
  ·rw[Fg d];simp
  ·rw[XK d];have:=e (a / 128) (by rw[Nat.div_lt_iff_lt_mul (by decide),<-Fc];exact c);simp;omega
theorem AV {n:Nat}(a:n<18446744073709551616):(BX n).length<=10:=by refine wG 9 n (GF a ?_);decide
theorem lW {l:List UInt8}{a:Nat}{t:List UInt8}(d:MB 0 0 l=some (a,t)):l=BX a++t/\a<18446744073709551616:=by obtain⟨m,b,e,c,_⟩:=wF l 0 0 a t d;simp at b c;subst b;exact⟨e,c⟩
theorem UZ {a:Nat}(b:a<18446744073709551616)(t:List UInt8):MB 0 0 (BX a++t)=some (a,t):=by rw[iD t a 0 0 (by simpa using b) (.inl rfl)];simp
def lX(c:Nat):Nat:=if c % 2=1 then c / 2 ^^^ 3988292384 else c / 2
def nZ:Nat->Nat->Nat
 |0,c=>c
 |k+1,c=>lX (nZ k c)
def o0(c:Nat)(b:UInt8):Nat:=nZ 8 (c ^^^ b.toNat)
def iE(l:List UInt8):Nat:=l.foldl o0 4294967295
def j5(l:List UInt8):Nat:=4294967295-iE l
theorem AL0 {c:Nat}(a:c<4294967296):lX c<4294967296:=by
 unfold lX;split
 ·exact Lz (n:=32) (by omega) (by decide)
 ·omega
theorem qR {c:Nat}(a:c<4294967296): ∀k,nZ k c<4294967296
 |0=>a
 |k+1=>AL0 (qR a k)
theorem AQe {c:Nat}(a:c<4294967296)(b:UInt8):o0 c b<4294967296:=by have d:b.toNat<256:=b.toNat_lt;exact qR (Lz (n:=32) a (by omega)) 8
theorem AMj(l:List UInt8)(b:UInt8):iE (l++ [b])=o0 (iE l) b:=by simp[iE]
theorem wH(l:List UInt8):iE l<4294967296:=by
 unfold iE
 suffices ∀(l:List UInt8) (c:Nat),c<4294967296->l.foldl o0 c<4294967296 from this l _ (by decide)
 intro l
 induction l with
 |nil=>exact λc a=>a
 |cons x l b=>exact λc a=>b _ (AQe a x)
def QX(a:Nat):List UInt8:= [Cq (a / 16777216 % 256),Cq (a / 65536 % 256),Cq (a / 256 % 256),Cq (a % 256)]
theorem KM(a:Nat):(QX a).length=4:=rfl
def Cj(l:List UInt8):List UInt8:=BX l.length++QX (j5 l)++l
def Gp(l:List UInt8):Nat×List UInt8×List UInt8:=
 match MB 0 0 l with
 |none=>if l.length<10/\ ∀c∈l,128<=c.toNat then(20,[],[]) else(21,[],[])
 |some (a,b)=>
  if 1048576<a then(21,[],[]) else if b.length<4+a then(20,[],[])
  else if b.take 4=QX (j5 ((b.drop 4).take a)) then(0,(b.drop 4).take a,b.drop (4+a)) else(21,[],[])
theorem wI {l:List UInt8}(d:l.length<=1048576)(t:List UInt8):Gp (Cj l++t)=(0,l,t):=by
 unfold Gp Cj;rw[A4,A4,UZ (by omega)];dsimp only;rw[if_neg (by omega),if_neg (by simp[KM])];have b:(QX (j5 l)++(l++t)).take 4=QX (j5 l):=by rw[OF (by simp[KM])];exact AG (by simp[KM])
 have a:(QX (j5 l)++(l++t)).drop 4=l++t:=by rw[N5 (by simp[KM])];simp[QX]
 have c:(l++t).take l.length=l:=by simp
 rw[b,a,c,if_pos rfl,<-HT,a];simp
structure Rd where
 rest:List UInt8
 bad:Bool
def Rd.fail:Rd:=⟨[],true⟩
def G5(a:Rd):Nat×Rd:=if a.bad then(0,a) else match MB 0 0 a.rest with|none=>(0,Rd.fail)|some (b,t)=>(b,⟨t,false⟩)
def Bu(b:Nat)(a:Rd):Nat×Rd:=if(G5 a).2.bad then(0,(G5 a).2) else if b<(G5 a).1 then(0,Rd.fail) else G5 a
def KF(b:Nat)(a:Rd):List UInt8×Rd:=if a.bad then([],a) else if a.rest.length<b then([],Rd.fail) else(a.rest.take b,⟨a.rest.drop b,false⟩)
def FW(a:Rd):List UInt8×Rd:=if(G5 a).2.bad then([],(G5 a).2) else KF (G5 a).1 (G5 a).2
def X8(a:Rd):Bool:= !a.bad&&a.rest.isEmpty
def BP(l:List UInt8):List UInt8:=BX l.length++l
theorem wJ {a:Nat}(b:a<18446744073709551616)(t:List UInt8):G5 ⟨BX a++t,false⟩=(a,⟨t,false⟩):=by simp[G5,UZ b]
theorem Ci {n most:Nat}(a:n<18446744073709551616)(b:n<=most)(t:List UInt8):Bu most ⟨BX n++t,false⟩=(n,⟨t,false⟩):=by simp only[Bu,wJ a];simp;omega
theorem wK(l t:List UInt8):KF l.length ⟨l++t,false⟩=(l,⟨t,false⟩):=by simp[KF];omega
theorem JQ {l:List UInt8}(a:l.length<18446744073709551616)(t:List UInt8):FW ⟨BP l++t,false⟩=(l,⟨t,false⟩):=by simp only[FW,BP,A4,wJ a,wK];simp
theorem ANG {a:Rd}(b:a.bad=true):G5 a=(0,a):=by simp[G5,b]
theorem wL {r:Rd}(a:(G5 r).2.bad=false):r.bad=false/\r.rest=BX (G5 r).1++(G5 r).2.rest/\(G5 r).1<18446744073709551616:=by
 unfold G5 at a ⊢;split at a
 ·rename_i b;rw[a] at b;cases b
 ·rename_i b;cases c:MB 0 0 r.rest with
  |none=>rw[c] at a;cases a
  |some p=>
   obtain⟨f,t⟩:=p;obtain⟨d,e⟩:=lW c;simp only[b];exact⟨by simp,d,e⟩
theorem Fa {a:Rd}{m:Nat}(b:(Bu m a).2.bad=false):a.bad=false/\a.rest=BX (Bu m a).1++(Bu m a).2.rest/\(Bu m a).1<=m:=by
 unfold Bu at b ⊢;split at b
 ·rename_i c;rw[b] at c;cases c
 ·split at b
  ·cases b
  ·rename_i c d;rw[if_neg c,if_neg d];obtain⟨e,f,_⟩:=wL b;exact⟨e,f,by omega⟩
theorem AJ6 {a:Rd}{b:Nat}(c:(KF b a).2.bad=false):a.bad=false/\a.rest=(KF b a).1++(KF b a).2.rest/\(KF b a).1.length=b:=by
 unfold KF at c ⊢;split at c
 ·rename_i d;rw[c] at d;cases d
 ·split at c
  ·cases c
  ·rename_i d e;rw[if_neg d,if_neg e];exact⟨by simpa using d,by simp,by simp;omega⟩
theorem Qv {r:Rd}(b:(FW r).2.bad=false):r.bad=false/\r.rest=BP (FW r).1++(FW r).2.rest:=by
 unfold FW at b ⊢;split at b
 ·rename_i a;rw[b] at a;cases a
 ·rename_i a;rw[if_neg a];obtain⟨c,d,_⟩:=wL (r:=r) (by simpa using a);obtain⟨_,e,f⟩:=AJ6 b;refine⟨c,?_⟩;rw[d,e,BP,A4];rw[f]
theorem TE(a:Rd):(G5 a).2.rest.length<=a.rest.length:=by
 unfold G5;split
 ·exact A0 _
 ·split
  ·simp[Rd.fail]
  ·rename_i d t b;obtain⟨c,_⟩:=lW b;rw[c];simp
theorem Fh(m:Nat)(a:Rd):(Bu m a).2.rest.length<=a.rest.length:=by
 unfold Bu;split
 ·exact TE a
 ·split
  ·simp[Rd.fail]
  ·exact TE a
theorem AL6(b:Nat)(a:Rd):(KF b a).2.rest.length<=a.rest.length/\(KF b a).1.length<=a.rest.length:=by
 unfold KF;split
 ·simp
 ·split
  ·simp[Rd.fail]
  ·simp;omega
theorem Ni(a:Rd):(FW a).2.rest.length<=a.rest.length/\(FW a).1.length<=a.rest.length:=by
 unfold FW;split
 ·exact⟨TE a,by simp⟩
 ·have:=AL6 (G5 a).1 (G5 a).2;have:=TE a;omega
def H7:cz UInt8 where
 enc x:= [.int .u8 (x.toNat:Int)]
 w:=1
 len _:=rfl
 pos:=by omega
 one x v a:=by simp at a;subst a;rfl
theorem Cells.byte {b:aa}{a:Q6}{x:UInt8}(c:Cells b a (H7.enc x)):ag b a=some (.int .u8 (x.toNat:Int)):=by have d:=c 0 _ rfl;rwa [add_zero] at d
theorem wM: ∀(l:List UInt8) (s:A2P),(l.map λc=>(c.toNat:Int)).foldl (λa b=>a.push (UInt8.ofNat b.toNat)) s=⟨s.data++l.toArray⟩
 | [],s=>by simp
 |c::l,s=>by
  simp only[By,I2];rw[wM l];simp[ByteArray.push,Array.append_assoc]
theorem LU {e:al}{P:Q1}{g h i:Q7}(m:P.underlying g=some (.slice i))(n:P.underlying i=some (.int .u8))(hd:P.underlying h=some .string){b:aa}{s:Sl}{l:List UInt8}{K:A2O}
  (v:View H7 b s l) (o:K (.string (AX l)) b):BI e P (convert g h (.slice s.p s.len s.cap)) b K:=by
 have p:=v.len;refine λf=>⟨_,b,f,?_,o⟩
 rw[run_convert_bytes_string _ g h i _ s.len s.cap m n hd];cases j:s.p with
 |none=>
  have q:l= []:=by
   cases l with
   |nil=>rfl
   |cons c l=>
    obtain⟨a,d,_⟩:=v.cells 0 c rfl;rw[j] at d;cases d
  subst q;simp[Conv.bytesToString,AX];rfl
 |some a=>
  have r:(loadCells a s.len).run P (e.at b f)= .ok ((l.map λc=>(c.toNat:Int)).map (Value.int .u8)).toArray (e.at b f):=by
   have:=run_loadCells_list (P:=P) (w:=e.at b f) a ((l.map λc=>(c.toNat:Int)).map (Value.int .u8)) (λt u k=>by
    simp only[Bm,Option.map_map,A0i] at k;obtain⟨c,x,rfl⟩:=k;obtain⟨z,d,y⟩:=v.cells t c x;rw[j] at d;cases d;have:=Cells.byte y;simp only[H7,Bk] at this;exact this)
   simpa [p] using this
  rw[run_bytesToString _ a s.len s.cap _ r,wM];simp[AX,ByteArray.empty,ByteArray.emptyWithCapacity];rfl
theorem dR(s:A2P)(i a:Nat):s.extract i a=AX ((s.data.toList.take a).drop i):=by apply SP;rw[SR,AX];apply Array.toList_inj.1;simp[SU,List.extract_eq_take_drop,List.drop_take]
theorem wN(s:A2P):s.data.toList.length=s.size:=by rw[DS];rfl
theorem ACM(s:A2P)(i:Nat):s.extract i s.size=AX (s.data.toList.drop i):=by rw[dR,AG (by rw[wN];exact A0 _)]
theorem ANF(s:A2P)(i:Nat):s.extract 0 i=AX (s.data.toList.take i):=by rw[dR];simp
theorem wrap_u8(a:Nat):J8 .u8 (a:Int)=((a % 256:Nat):Int):=by simp[J8,IntKind.bits,IntKind.signed]
theorem wO {a b:Nat}(c:a<256)(d:b<256):dY .u8 (a:Int) (b:Int)=((a ||| b:Nat):Int):=by
 have e:a ||| b<2^8:=Ln (by simpa using c) (by simpa using d);unfold dY;have f:(BitVec.ofInt (IntKind.bits .u8) (a:Int) ||| BitVec.ofInt (IntKind.bits .u8) (b:Int)).toNat=a ||| b:=by show(BitVec.ofInt 8 (a:Int) ||| BitVec.ofInt 8 (b:Int)).toNat=a ||| b;rw[BitVec.ofInt_natCast,BitVec.ofInt_natCast,BitVec.toNat_or,BitVec.toNat_ofNat,BitVec.toNat_ofNat,As (by simpa using c),As (by simpa using d)]
 rw[f,wrap_u8,As (by simpa using e)]
theorem wP {a b:Nat}(c:a<256)(d:b<256):GU .u8 (a:Int) (b:Int)=((a &&& b:Nat):Int):=by
 have e:a &&& b<2^8:=RT Nat.and_le_left (by simpa using c);unfold GU;have f:(BitVec.ofInt (IntKind.bits .u8) (a:Int) &&& BitVec.ofInt (IntKind.bits .u8) (b:Int)).toNat=a &&& b:=by show(BitVec.ofInt 8 (a:Int) &&& BitVec.ofInt 8 (b:Int)).toNat=a &&& b;rw[BitVec.ofInt_natCast,BitVec.ofInt_natCast,BitVec.toNat_and,BitVec.toNat_ofNat,BitVec.toNat_ofNat,As (by simpa using c),As (by simpa using d)]
 rw[f,wrap_u8,As (by simpa using e)]
theorem AQJ {a b:Nat}(c:a<4294967296)(d:b<4294967296):GU .u32 (a:Int) (b:Int)=((a &&& b:Nat):Int):=by
 have e:a &&& b<2^32:=RT Nat.and_le_left (by simpa using c);unfold GU;have f:(BitVec.ofInt (IntKind.bits .u32) (a:Int) &&& BitVec.ofInt (IntKind.bits .u32) (b:Int)).toNat=a &&& b:=by show(BitVec.ofInt 32 (a:Int) &&& BitVec.ofInt 32 (b:Int)).toNat=a &&& b;rw[BitVec.ofInt_natCast,BitVec.ofInt_natCast,BitVec.toNat_and,BitVec.toNat_ofNat,BitVec.toNat_ofNat,As (by simpa using c),As (by simpa using d)]
 rw[f,wrap_u32,As (by simpa using e)]
theorem ASn: ∀x,x<256->x ||| 128=x % 128+128:=by decide +kernel
theorem ARY: ∀x,x<256->x &&& 127=x % 128:=by decide +kernel
theorem APQ(c:Nat):dY .u8 (J8 .u8 (c:Int)) (128:Int)=(((Cq (c % 128+128)).toNat:Nat):Int):=by have d:=wO (a:=c % 256) (b:=128) (CT _ (by decide)) (by decide);rw[wrap_u8];rw[show(128:Int)=((128:Nat):Int) from rfl,d,ASn _ (CT _ (by decide)),EA (by omega)];congr 1;omega
theorem qS(i:Nat):2^(7*i)=128^i:=by rw[Nat.pow_mul]
theorem AP1 {a x i:Nat}(d:i<=9)(e:a<128^i)(f:x<128):dY .u64 (a:Int) (((x*128^i % 18446744073709551616:Nat)):Int)=((a+x*128^i % 18446744073709551616:Nat):Int):=by
 have g:0<128^i:=SO (by decide);have h:=Ld d;have j:(128:Nat)^9=9223372036854775808:=by decide
 rw[qP (by omega) (CT _ (by decide))];congr 1;have b: ∃c,(18446744073709551616:Nat)=128^i*c:=by
  have:i=0\/i=1\/i=2\/i=3\/i=4\/i=5\/i=6\/i=7\/i=8\/i=9:=by omega
  refine⟨18446744073709551616 / 128^i,?_⟩;rcases this with rfl|rfl|rfl|rfl|rfl|rfl|rfl|rfl|rfl|rfl<;>decide
 obtain⟨c,b⟩:=b;rw[b,Dd x,Nat.mul_mod_mul_left,<-qS,Nat.or_comm,Nat.add_comm];exact(A0O (by rw[qS];exact e) _).symm
theorem ARv {x i:Nat}(b:i<=9)(c:x<128):J8 .u64 (((x:Nat):Int)*((2:Int)^(min ((7*i:Nat):Int).toNat (IntKind.bits .u64))))=((x*128^i % 18446744073709551616:Nat):Int):=by
 have a:min ((7*i:Nat):Int).toNat (IntKind.bits .u64)=7*i:=by have:IntKind.bits .u64=64:=rfl;omega
 rw[a,show((2:Int)^(7*i))=((2^(7*i):Nat):Int) by simp,qQ,wrap_u64,qS]
theorem Mod.more {a d e:aa}{f:Nat->Prop}(x:Ext a d)(m:Mod f d e)(g: ∀b,f b->a.size<=b):Ext a e:=
 Mod.then x (m.ai λc _ h=> .inr (g c h))
abbrev bl(s:A2P):List UInt8:=s.data.toList
theorem BA(s:A2P):(bl s).length=s.size:=wN s
theorem EP(l:List UInt8):bl (AX l)=l:=Ce l
def Au(s:A2P):Bool:=decide (1<=s.size/\s.size<=16/\ ∀c∈bl s,33<=c.toNat/\c.toNat<=126)
theorem Hm {s:A2P}:Au s=true↔1<=s.size/\s.size<=16/\ ∀c∈bl s,33<=c.toNat/\c.toNat<=126:=by simp[Au]
structure bO where
 kind:Int
 name:A2P
 aL:A2P
 tries:Int
 az:Int
 wait:Int
def bO.cells(x:bO):Array J0:= #[J6 J9 x.kind,J7 x.name,J7 x.aL,J6 J9 x.tries,J6 J9 x.az,J6 J9 x.wait]
def Oh:cz bO where
 enc x:= [J6 J9 x.kind,J7 x.name,J7 x.aL,J6 J9 x.tries,J6 J9 x.az,J6 J9 x.wait]
 w:=6
 len _:=rfl
 pos:=by omega
 one x v a:=by simp at a;rcases a with rfl|rfl|rfl|rfl|rfl|rfl<;>rfl
abbrev Ha:A2P:=⟨#[]⟩
def bU(a b c:Int):Bool:=decide (b<=a/\a<=c)
theorem BR {a b c:Int}:bU a b c=true↔b<=a/\a<=c:=by simp[bU]
def MS(x:bO):Bool:=
 if x.kind=1 then((decide (x.aL=Ha)&&decide (x.az=0))||(Au x.aL&&bU x.az 1 5))&&Au x.name&&bU x.tries 1 5&&decide (x.wait=0)
 else if x.kind=2 then decide (x.name=Ha)&&decide (x.aL=Ha)&&decide (x.tries=0)&&decide (x.az=0)&&bU x.wait 1 1000
 else if x.kind=3 then decide (x.aL=Ha)&&decide (x.tries=0)&&decide (x.az=0)&&decide (x.wait=0)&&Au x.name
 else false
structure ct where
 steps:List bO
 aw:Int
def Fx(p:ct):Bool:=decide (p.steps.length<=16)&&bU p.aw 0 16000&&p.steps.all MS
def Gt(x:bO):List UInt8:=BX x.kind.toNat++
 (if x.kind=1 then BP (bl x.name)++BX x.tries.toNat++BP (bl x.aL)++BX x.az.toNat else if x.kind=2 then BX x.wait.toNat else BP (bl x.name))
def CP(p:ct):List UInt8:=BX p.aw.toNat++BX p.steps.length++p.steps.flatMap Gt
def ME(g e h:Nat)(i:Bool)(j:Rd):bO×Rd:=
 let d:=Bu g j
 if d.1=1 then
  let a:=FW d.2
  let b:=Bu e a.2
  let c:=FW b.2
  let f:=Bu e c.2
  (⟨1,AX a.1,AX c.1,b.1,f.1,0⟩,f.2)
 else if d.1=2 then
  let a:=Bu h d.2
  (⟨2,Ha,Ha,0,0,a.1⟩,a.2)
 else if d.1=3\/i=true then
  let a:=FW d.2
  (⟨d.1,AX a.1,Ha,0,0,0⟩,a.2)
 else(⟨d.1,Ha,Ha,0,0,0⟩,d.2)
def Ho(b c d:Nat)(e:Bool):Nat->Rd->List bO×Rd
 |0,a=>([],a)
 |n+1,a=>let x:=ME b c d e a;let f:=Ho b c d e n x.2;(x.1::f.1,f.2)
def YE(c d e f:Nat)(g:Bool)(l:List UInt8):ct×Rd:=
 let a:=Bu c ⟨l,false⟩
 let b:=Bu 16 a.2
 let s:=Ho d e f g b.1 b.2
 (⟨s.1,a.1⟩,s.2)
def JD(l:List UInt8):Option ct:=let x:=YE 16000 3 5 1000 false l;if X8 x.2&&Fx x.1 then some x.1 else none
theorem uR {a:Rd}:X8 a=true↔a=⟨[],false⟩:=by obtain⟨l,b⟩:=a;cases b<;>cases l<;>simp[X8]
theorem AOK {a b c:Int}(d:bU a b c=true)(e:0<=b):((a.toNat:Nat):Int)=a:=by rw[BR] at d;omega
theorem AL5 {c f h:Nat}{p:Bool}(q:3<=c)(F:5<=f)(G:1000<=h){x:bO}(a:MS x=true)(t:List UInt8):ME c f h p ⟨Gt x++t,false⟩=(x,⟨t,false⟩):=by
 obtain⟨H,name,o,r,i,u⟩:=x;have j: ∀ {s:A2P},s.size<=16->(bl s).length<18446744073709551616:=λg=>by rw[BA];omega
 have k: ∀ {s:A2P},Au s=true->s.size<=16:=λg=>(Hm.1 g).2.1
 unfold MS at a;split at a
 ·rename_i b;simp only at b;subst b;simp only[A3,Cp,decide_eq_true_eq] at a;obtain⟨⟨⟨v,m⟩,w⟩,rfl⟩:=a;have y:o.size<=16/\0<=i/\i<=5:=by
   rcases v with⟨rfl,rfl⟩|⟨g,z⟩
   ·exact⟨by decide,by omega,by omega⟩
   ·rw[BR] at z;exact⟨k g,by omega,by omega⟩
  rw[BR] at w;have d:=Ci (n:=(1:Int).toNat) (most:=c) (by decide) (by simpa using(by omega:1<=c));have e:=JQ (l:=bl name) (j (k m));have A:=Ci (n:=r.toNat) (most:=f) (by omega) (by omega);have B:=JQ (l:=bl o) (j y.1);have C:=Ci (n:=i.toNat) (most:=f) (by omega) (by omega);simp only[ME,Gt,if_true,A4,d,e,A,B,C];rw[if_pos (by decide)];simp[EE];omega
 ·split at a
  ·rename_i D b;simp only at b;subst b;simp only[A3,decide_eq_true_eq] at a;obtain⟨⟨⟨⟨rfl,rfl⟩,rfl⟩,rfl⟩,E⟩:=a;rw[BR] at E;have d:=Ci (n:=(2:Int).toNat) (most:=c) (by decide) (by simpa using(by omega:2<=c));have e:=Ci (n:=u.toNat) (most:=h) (by omega) (by omega);simp only[ME,Gt,if_true,A4,d];rw[if_neg (by decide),if_pos (by decide),if_neg (by decide),e];simp;omega
  ·split at a
   ·rename_i D I b;simp only at b;subst b;simp only[A3,decide_eq_true_eq] at a;obtain⟨⟨⟨⟨rfl,rfl⟩,rfl⟩,rfl⟩,m⟩:=a;have d:=Ci (n:=(3:Int).toNat) (most:=c) (by decide) (by simpa using q);have e:=JQ (l:=bl name) (j (k m));simp only[ME,Gt,if_true,A4,d];rw[if_neg (by decide),if_neg (by decide),if_pos (.inl (by decide)),if_neg (by decide),if_neg (by decide),e];simp[EE]
   ·cases a
theorem uS {b c d:Nat}{all:Bool}(e:3<=b)(f:5<=c)(g:1000<=d)(t:List UInt8): ∀ {l:List bO},l.all MS=true->Ho b c d all l.length ⟨l.flatMap Gt++t,false⟩=(l,⟨t,false⟩)
 | [],_=>rfl
 |x::l,a=>by
  simp only[Nd,A3] at a;simp only[A5,Ho,AH,A4,AL5 e f g a.1,uS e f g t a.2]
theorem ALj {a b c d:Nat}{all:Bool}(s:16000<=a)(h:3<=b)(i:5<=c)(j:1000<=d){p:ct}(e:Fx p=true):YE a b c d all (CP p)=(p,⟨[],false⟩):=by obtain⟨l,k⟩:=p;simp only[Fx,A3,decide_eq_true_eq] at e;obtain⟨⟨m,f⟩,o⟩:=e;have t:=BR.1 f;have q:=Ci (n:=k.toNat) (most:=a) (by omega) (by omega);have r:=Ci (n:=l.length) (most:=16) (by omega) m;have g:=uS (all:=all) h i j [] o;rw[AM] at g;simp only[YE,CP,A4,q,r,g,AOK f (by decide)]
theorem uT {p:ct}(a:Fx p=true):JD (CP p)=some p:=by simp only[JD,ALj (A0 _) (A0 _) (A0 _) (A0 _) a,a];rfl
theorem AJz {j k l:Nat}{m:Bool}{e:Rd}(a:(ME j k l m e).2.bad=false):e.bad=false/\(MS (ME j k l m e).1=true->e.rest=Gt (ME j k l m e).1++(ME j k l m e).2.rest):=by
 unfold ME at a ⊢;simp only at a ⊢;split at a
 ·rename_i b;obtain⟨o,p,_⟩:=Fa a;obtain⟨q,r⟩:=Qv o;obtain⟨s,t,_⟩:=Fa q;obtain⟨g,h⟩:=Qv s;obtain⟨c,f,_⟩:=Fa g;refine⟨c,λ_=>?_⟩;rw[if_pos b];simp only[Gt,if_true,EP,A6];rw[f,b,h,t,r,p];simp[A4]
 ·split at a
  ·rename_i i b;obtain⟨g,h,_⟩:=Fa a;obtain⟨c,f,_⟩:=Fa g;refine⟨c,λ_=>?_⟩;rw[if_neg i,if_pos b];simp only[Gt,A6];rw[if_neg (by decide),if_pos trivial,f,b,h];simp[A4]
  ·split at a
   ·rename_i i n b;obtain⟨g,h⟩:=Qv a;obtain⟨c,f,_⟩:=Fa g;refine⟨c,λd=>?_⟩;rw[if_neg i,if_neg n,if_pos b] at d ⊢;simp only[Gt,EP,A6];rw[if_neg (by omega),if_neg (by omega),f,h];simp[A4]
   ·rename_i i n b;obtain⟨c,f,_⟩:=Fa a;refine⟨c,λd=>?_⟩;rw[if_neg i,if_neg n,if_neg b] at d;exfalso;unfold MS at d;simp only at d;rw[if_neg (by omega),if_neg (by omega),if_neg (by omega)] at d;cases d
theorem uU {b c d:Nat}{e:Bool}: ∀(n:Nat) {a:Rd},(Ho b c d e n a).2.bad=false->a.bad=false/\(Ho b c d e n a).1.length=n/\((Ho b c d e n a).1.all MS=true->a.rest=(Ho b c d e n a).1.flatMap Gt++(Ho b c d e n a).2.rest)
 |0,a,f=>⟨f,rfl,λ_=>rfl⟩
 |n+1,a,f=>by
  simp only[Ho] at f ⊢;obtain⟨h,i,j⟩:=uU n f;obtain⟨k,l⟩:=AJz h;refine⟨k,by simp[i],λg=>?_⟩;simp only[Nd,A3] at g;rw[l g.1,j g.2];simp[A4]
theorem uV {l:List UInt8}{p:ct}(a:JD l=some p):Fx p=true/\CP p=l:=by
 unfold JD at a;simp only at a;split at a
 ·rename_i f;simp only[A3] at f;obtain⟨d,b⟩:=f;obtain rfl:=BT a;refine⟨b,?_⟩;rw[uR] at d;have g:(YE 16000 3 5 1000 false l).2.bad=false:=by rw[d]
  have h:(YE 16000 3 5 1000 false l).2.rest= []:=by rw[d]
  simp only[YE] at g h b ⊢;obtain⟨i,j,c⟩:=uU _ g;obtain⟨k,m,_⟩:=Fa i;obtain⟨n,e,_⟩:=Fa k;simp only[Fx,A3] at b;have c:=c b.2;rw[h,AM] at c;simp only[CP,A6,j];have e:l=BX (Bu 16000 ⟨l,false⟩).1++(Bu 16000 ⟨l,false⟩).2.rest:=e;rw[<- c,A4,<-m,<-e]
 ·cases a
inductive Fv where
 |i (n:Int)
 |s (x:A2P)
 |b (x:Bool)
 deriving DecidableEq
def Fv.v:Fv->J0
 | .i a=>J6 J9 a
 | .s x=>J7 x
 | .b x=>J3 x
def Fv.ok(P:Q1)(t:Q7):Fv->Bool
 | .i _=>match P.underlying t with|some (.int J9)=>true|_=>false
 | .s _=>match P.underlying t with|some .string=>true|_=>false
 | .b _=>match P.underlying t with|some .bool=>true|_=>false
def qv:Fv->Fv->Bool
 | .i _,.i _=>true
 | .s _,.s _=>true
 | .b _,.b _=>true
 |_,_=>false
def kG(P:Q1):Nat->List Field->List Fv->Bool
 |_,[],[]=>true
 |i,f::a,x::b=> !(f.name==String.ofList [Char.ofNat 95])&&Nat.beq f.offset i&&x.ok P f.type&&kG P (i+1) a b
 |_,_,_=>false
def cW:List Fv->List Fv->Bool
 | [],[]=>true
 |x::a,b::c=>qv x b&&cW a c
 |_,_=>false
theorem AQG {P:Q1}{e:Nat}{t:Q7}{x f:Fv}(g:x.ok P t=true)(h:qv x f=true)(c:World):(Op.equalIn (e+1) t x.v f.v).run P c= .ok (decide (x=f)) c:=by
 cases x<;>cases f<;>simp only[qv,Cl] at h<;>simp only[Fv.ok] at g<;>split at g<;>(try cases g)
 ·rename_i i m _ d;simp only[Fv.v];rw[run_equalIn_int c e t J9 J9 i m d];simp only[Fv.i.injEq];rfl
 ·rename_i a b _ d;simp only[Fv.v];rw[run_equalIn_string c e t a b d,toList_inj];simp only[Fv.s.injEq]
 ·rename_i a b _ d;simp only[Fv.v];rw[run_equalIn_bool' c e t a b d];simp only[Fv.b.injEq];cases a<;>cases b<;>rfl
theorem Fv.plain {P:Q1}{t:Q7}{x:Fv}(a:x.ok P t=true):P.plainKey t=true:=by cases x<;>simp only[Fv.ok] at a<;>split at a<;>(try cases a)<;>(rename_i b;simp[Program.plainKey,b])
theorem AP6 {P:Q1}{t:Nat}(e g:List Fv)(c:World): ∀(h:List Field) (a b:List Fv) (i:Nat),e.drop i=a->g.drop i=b->kG P i h a=true->cW a b=true->
  (Op.eqFields (t+1) (e.map Fv.v).toArray (g.map Fv.v).toArray h).run P c= .ok (decide (a=b)) c:=by
 intro h
 induction h with
 |nil=>
  intro a b i m n j d;cases a with
  |nil=>
   cases b with
   |nil=>simp[Op.eqFields]
   |cons k b=>simp[cW] at d
  |cons x a=>simp[kG] at j
 |cons f h u=>
  intro a b i m n j d;cases a with
  |nil=>simp[kG] at j
  |cons x a=>
   cases b with
   |nil=>simp[cW] at d
   |cons k b=>
    simp only[kG,cW,A3,Nat.beq_eq] at j d;obtain⟨⟨⟨p,q⟩,o⟩,v⟩:=j;have w:e[i]? =some x:=by have:=congrArg (λl:List Fv=>l[0]?) m;simpa [Bs] using this
    have y:g[i]? =some k:=by have:=congrArg (λl:List Fv=>l[0]?) n;simpa [Bs] using this
    have z:e.drop (i+1)=a:=by rw[<- HT,m];rfl
    have A:g.drop (i+1)=b:=by rw[<- HT,n];rfl
    have B:(part f.type (e.map Fv.v).toArray f.offset).run P c= .ok x.v c:=run_part_plain c (Fv.plain o) (by rw[q];simp[w]);have C:(part f.type (g.map Fv.v).toArray f.offset).run P c= .ok k.v c:=run_part_plain c (Fv.plain o) (by rw[q];simp[y]);have D:=u a b (i+1) z A v d.2
    have E : String.ofList [Char.ofNat 95] = "_" := by decide
    rw[E] at p
    have r : (f.name == "_") = false := by simpa using p
    simp only[Op.eqFields,r,Sem.run_bind,Sem.run_ite,B,C,Result.andThen_ok,AQG o d.1];by_cases s:x=k
    ·simp[s,D,Result.andThen]
    ·have F : f.name ≠ "_" := by simpa using r
     simp[s,Result.andThen,F]
def qw(P:Q1)(t:Q7)(a:List Fv):Bool:= !P.stoodInHeld t&& !P.eqGuardType P.depth t&&kG P 0 (P.fieldsOf t).toList a
theorem uW {e:al}{P:Q1}{t:Q7}{f g:Operand}{xs ys:List Fv}(h:P.underlying t=some (.struct (P.fieldsOf t)))(a:qw P t xs=true)(i:cW xs ys=true){b c:Array J0}
  (j:b=(xs.map Fv.v).toArray) (k:c=(ys.map Fv.v).toArray) {d:aa} {K:A2O} (l:K (J3 (decide (xs=ys))) d):
  BI e P (do eqGuard .eql t f g (.agg b) (.agg c);binOp .eql t (.agg b) (.agg c)) d K:=by
 simp only[qw,A3,CA] at a;subst j;subst k;refine λm=>⟨_,d,m,?_,l⟩
 rw[Sem.run_bind,run_eqGuard_agg _ _ _ _ _ _ _ a.1.2,Result.andThen_ok,run_eql_struct,run_equalIn_agg _ _ _ _ _ h a.1.1,AP6 xs ys _ _ xs ys 0 rfl rfl a.2 i];rfl
theorem ab.two {a:aa}{b:Nat}{T:Q7}{f g d v1:J0}{K:aa->Prop}(h:a[b]? =some (J2 #[f,g] T (0,0)))
  (i: ∀c,c[b]? =some (J2 #[d,v1] T (0,0))->Mod (· =b) a c->c.size=a.size->K c):
  ab a ⟨b,0,none⟩ d λe=>ab e ((⟨b,0,none⟩:Q6).add 1) v1 K:=by
 refine ab.mk h (by simp) λe j k o=>?_
 rw[Ba];refine ab.mk j (by simp) λl m n p=>i l (by simpa using m) (k.trans n) (by omega)
theorem ab.oK {a:aa}{b:Nat}{T:Q7}{m n o p q r d v1 v2 e f g:J0}{K:aa->Prop}(s:a[b]? =some (J2 #[m,n,o,p,q,r] T (0,0)))
  (t: ∀c,c[b]? =some (J2 #[d,v1,v2,e,f,g] T (0,0))->Mod (· =b) a c->c.size=a.size->K c):
  ab a ⟨b,0,none⟩ d λh=>ab h ((⟨b,0,none⟩:Q6).add 1) v1 λi=>ab i ((⟨b,0,none⟩:Q6).add 2) v2 λj=>ab j ((⟨b,0,none⟩:Q6).add 3) e λk=>ab k ((⟨b,0,none⟩:Q6).add 4) f λl=>
   ab l ((⟨b,0,none⟩:Q6).add 5) g K:=by
 refine ab.mk s (by simp) λh u v H=>?_
 rw[Ba,Ba,Ba,Ba,Ba];refine ab.mk u (by simp) λi w x I=>?_
 refine ab.mk w (by simp) λj y z J=>?_
 refine ab.mk y (by simp) λk A B L=>?_
 refine ab.mk A (by simp) λl C D M=>?_
 refine ab.mk C (by simp) λE F G N=>t E (by simpa using F) (((((v.trans x).trans z).trans B).trans D).trans G) (by omega)
theorem ab.eight {a:aa}{b:Nat}{T:Q7}{q r s t u v w x d v1 v2 e f g h i:J0}{K:aa->Prop}(y:a[b]? =some (J2 #[q,r,s,t,u,v,w,x] T (0,0)))
  (z: ∀c,c[b]? =some (J2 #[d,v1,v2,e,f,g,h,i] T (0,0))->Mod (· =b) a c->c.size=a.size->K c):
  ab a ⟨b,0,none⟩ d λj=>ab j ((⟨b,0,none⟩:Q6).add 1) v1 λk=>ab k ((⟨b,0,none⟩:Q6).add 2) v2 λl=>ab l ((⟨b,0,none⟩:Q6).add 3) e λm=>ab m ((⟨b,0,none⟩:Q6).add 4) f λn=>
   ab n ((⟨b,0,none⟩:Q6).add 5) g λo=>ab o ((⟨b,0,none⟩:Q6).add 6) h λp=>ab p ((⟨b,0,none⟩:Q6).add 7) i K:=by
 refine ab.mk y (by simp) λj A B S=>?_
 rw[Ba,Ba,Ba,Ba,Ba,Ba,Ba];refine ab.mk A (by simp) λk C D U=>?_
 refine ab.mk C (by simp) λl E F V=>?_
 refine ab.mk E (by simp) λm G H W=>?_
 refine ab.mk G (by simp) λn I J X=>?_
 refine ab.mk I (by simp) λo L M Y=>?_
 refine ab.mk L (by simp) λp N O Z=>?_
 refine ab.mk N (by simp) λP Q R ac=>z P (by simpa using Q) (((((((B.trans D).trans F).trans H).trans J).trans M).trans O).trans R) (by omega)
theorem ab.bM {a:aa}{b j:Nat}{v:J0}{d dS:Array J0}{T:Q7}{K:aa->Prop}(e:a[b]? =some (J2 d T (0,0)))(f:j<d.size)(g:d.setIfInBounds j v=dS)
  (h: ∀c,c[b]? =some (J2 dS T (0,0))->Mod (· =b) a c->c.size=a.size->K c):ab a ((⟨b,0,none⟩:Q6).add j) v K:=by
 rw[Ba,AI];exact ab.mk e f λi k=>h i (by rw[<- g];exact k)
structure Ev where
 id:Int
 kind:Int
 tick:Int
 ref:Int
 step:Int
 turn:Int
 aL:Bool
 data:A2P
def fZ:cz Ev where
 enc x:= [J6 J9 x.id,J6 J9 x.kind,J6 J9 x.tick,J6 J9 x.ref,J6 J9 x.step,J6 J9 x.turn,J3 x.aL,J7 x.data]
 w:=8
 len _:=rfl
 pos:=by omega
 one x v a:=by simp at a;rcases a with rfl|rfl|rfl|rfl|rfl|rfl|rfl|rfl<;>rfl
def Ev.fv(x:Ev):List Fv:= [.i x.id,.i x.kind,.i x.tick,.i x.ref,.i x.step,.i x.turn,.b x.aL,.s x.data]
theorem Ev.jk {x a:Ev}:x.fv=a.fv↔x=a:=by cases x;cases a;simp[Ev.fv]
instance:DecidableEq Ev:=λx y=>decidable_of_iff (x.fv=y.fv) Ev.jk
def cX(a:Int):Bool:=decide (a=3\/a=4\/a=5\/a=11\/a=7\/a=8\/a=9)
def dk(a:Int):Bool:=decide (a=6\/a=10)
def dw(a:Int):Bool:=decide (a=7\/a=8\/a=9)
def dP(a:Int):Bool:=decide (a=6)
def dQ(a:Int):Bool:=decide (a=1\/a=12)
def cY(f:Bool)(a b c:Int):Bool:=if f then bU a b c else decide (a=0)
def Ed(a:Ev):Bool:=bU a.kind 1 18&&bU a.id 1 500&&bU a.tick 0 1099511627776&&cY (cX a.kind) a.ref 1 (a.id-1)&&cY (dk a.kind) a.step 0 15&&cY (dw a.kind) a.turn 1 5&&
 (!a.aL||dP a.kind)&&(decide (a.data=Ha)||dQ a.kind)
def KR(a:Ev):Bool:=if a.kind=1 then(JD (bl a.data)).isSome else if a.kind=12 then Au a.data else true
def EX(a:Ev):Bool:=Ed a&&KR a
def SB(f:Bool)(a:Int):List UInt8:=if f then BX a.toNat else []
def gN(f:Bool)(s:A2P):List UInt8:=if f then BP (bl s) else []
def Mw(a:Ev):List UInt8:=BX a.id.toNat++(BX a.kind.toNat++(BX a.tick.toNat++(SB (cX a.kind) a.ref++(SB (dk a.kind) a.step++(SB (dw a.kind) a.turn++(SB (dP a.kind) (if a.aL then 1 else 0)++gN (dQ a.kind) a.data))))))
structure jO where
 id:Nat
 kind:Nat
 tick:Nat
 ref:Nat
 step:Nat
 turn:Nat
def jO.wide(b:jO):Prop:=500<=b.id/\18<=b.kind/\1099511627776<=b.tick/\500<=b.ref/\15<=b.step/\5<=b.turn
def fA:jO:=⟨500,18,1099511627776,500,15,5⟩
def Ec(f:Bool)(m:Nat)(a:Rd):Nat×Rd:=if f then Bu m a else(0,a)
def TH(f:Bool)(a:Rd):List UInt8×Rd:=if f then FW a else([],a)
def Pb(b:jO)(f:Rd):Ev×Rd:=
 let i:=Bu b.id f
 let c:=Bu b.kind i.2
 let t:=Bu b.tick c.2
 let a:=Ec (cX c.1) b.ref t.2
 let s:=Ec (dk c.1) b.step a.2
 let d:=Ec (dw c.1) b.turn s.2
 let u:=Ec (dP c.1) 1 d.2
 let e:=TH (dQ c.1) u.2
 (⟨i.1,c.1,t.1,a.1,s.1,d.1,decide (u.1=1),AX e.1⟩,e.2)
def jP(l:List UInt8):Option Ev:=let x:=Pb fA ⟨l,false⟩;if X8 x.2&&EX x.1 then some x.1 else none
theorem Xl {f:Bool}{n:Int}{m:Nat}(a:cY f n 0 m=true)(b:m<18446744073709551616)(t:List UInt8):Ec f m ⟨SB f n++t,false⟩=(n.toNat,⟨t,false⟩):=by
 cases f with
 |false=>simp[cY] at a;subst a;rfl
 |true=>
  simp only[cY,if_true,BR] at a;simp only[Ec,SB,if_true];exact Ci (by omega) (by omega) t
theorem qx {f:Bool}{a b c d e:Int}(g:cY f a b c=true)(h:d<=b)(i:c<=e):cY f a d e=true:=by
 cases f with
 |false=>exact g
 |true=>simp only[cY,if_true,BR] at g ⊢;omega
theorem qy {f:Bool}{a c d:Int}(b:cY f a c d=true)(e:0<=c):((a.toNat:Nat):Int)=a:=by
 cases f with
 |false=>simp[cY] at b;subst b;rfl
 |true=>simp only[cY,if_true,BR] at b;omega
theorem AOo {f:Bool}{s:A2P}(a:(decide (s=Ha)||f)=true)(b:s.size<18446744073709551616)(t:List UInt8):TH f ⟨gN f s++t,false⟩=(bl s,⟨t,false⟩):=by
 cases f with
 |false=>simp at a;subst a;rfl
 |true=>
  simp only[TH,gN,if_true];exact JQ (by rw[BA];exact b) t
theorem LQ {a:Ev}(b:EX a=true):Ed a=true:=by simp only[EX,A3] at b;exact b.1
theorem APG {b:jO}(l:b.wide)(e:b.ref<18446744073709551616/\b.step<18446744073709551616/\b.turn<18446744073709551616){c:Ev}(g:Ed c=true)(hd:c.data.size<18446744073709551616)(t:List UInt8):Pb b ⟨Mw c++t,false⟩=(c,⟨t,false⟩):=by
 obtain⟨id,a,tick,o,step,turn,d,p⟩:=c;simp only[Ed,A3] at g;obtain⟨⟨⟨⟨⟨⟨⟨q,r⟩,u⟩,h⟩,i⟩,j⟩,k⟩,v⟩:=g;obtain⟨M,N,O,P,Q,R⟩:=l;have S:=BR.1 q;have T:=BR.1 r;have U:=BR.1 u;have w:=Ci (n:=id.toNat) (most:=b.id) (by omega) (by omega);have x:=Ci (n:=a.toNat) (most:=b.kind) (by omega) (by omega);have y:=Ci (n:=tick.toNat) (most:=b.tick) (by omega) (by omega);have z:((a.toNat:Nat):Int)=a:=by omega
 have A:=Xl (f:=cX a) (n:=o) (m:=b.ref) (qx h (by omega) (by omega)) e.1;have B:=Xl (f:=dk a) (n:=step) (m:=b.step) (qx i (by omega) (by omega)) e.2.1;have C:=Xl (f:=dw a) (n:=turn) (m:=b.turn) (qx j (by omega) (by omega)) e.2.2;have D:=Xl (f:=dP a) (n:=if d then 1 else 0) (m:=1) (by
  cases E:dP a with
  |true=>simp only[cY,if_true,BR];split<;>omega
  |false=>rw[E] at k;cases d<;>simp[cY] at k ⊢) (by decide)
 have F:=AOo (f:=dQ a) (s:=p) v hd;simp only[Pb,Mw,A4,w,x,y,z,A,B,C,D,F];have G:decide ((if d=true then(1:Int) else 0).toNat=1)=d:=by cases d<;>rfl
 have H:=qy h (by decide);have I:=qy i (by decide);have J:=qy j (by decide);have K:((id.toNat:Nat):Int)=id:=by omega
 have L:((tick.toNat:Nat):Int)=tick:=by omega
 rw[G,H,I,J,K,L,EE]
theorem UT {f:Bool}{m:Nat}{a:Rd}(b:(Ec f m a).2.bad=false):a.bad=false/\a.rest=SB f (Ec f m a).1++(Ec f m a).2.rest/\(Ec f m a).1<=m:=by
 cases f with
 |false=>exact⟨b,rfl,AD _⟩
 |true=>
  simp only[Ec,SB,if_true,A6] at b ⊢;exact Fa b
theorem AMl {f:Bool}{a:Rd}(b:(TH f a).2.bad=false):a.bad=false/\a.rest=gN f (AX (TH f a).1)++(TH f a).2.rest:=by
 cases f with
 |false=>exact⟨b,rfl⟩
 |true=>
  simp only[TH,gN,if_true,EP] at b ⊢;exact Qv b
theorem ALp {b:jO}{r:Rd}(c:(Pb b r).2.bad=false):r.bad=false/\r.rest=Mw (Pb b r).1++(Pb b r).2.rest:=by
 simp only[Pb] at c ⊢;obtain⟨d,e⟩:=AMl c;obtain⟨f,g,h⟩:=UT d;obtain⟨i,j,_⟩:=UT f;obtain⟨k,l,_⟩:=UT i;obtain⟨m,n,_⟩:=UT k;obtain⟨o,p,_⟩:=Fa m;obtain⟨q,s,_⟩:=Fa o;obtain⟨t,u,_⟩:=Fa q;refine⟨t,?_⟩;simp only[Mw,A4,A6];rw[<- e];have v: ∀a:Nat,a<=1->(if decide (a=1)=true then(1:Int) else 0)=(a:Int):=λa w=>by
  have:a=0\/a=1:=by omega
  rcases this with rfl|rfl<;>rfl
 rw[v _ h,<-g,<-j,<-l,<-n,<-p,<-s,<-u]
theorem AIu {l:List UInt8}{c:Ev}(a:jP l=some c):EX c=true/\Mw c=l:=by
 unfold jP at a;simp only at a;split at a
 ·rename_i e;simp only[A3] at e;obtain⟨d,g⟩:=e;obtain rfl:=BT a;refine⟨g,?_⟩;rw[uR] at d;obtain⟨_,f⟩:=ALp (b:=fA) (r:=⟨l,false⟩) (by rw[d]);rw[d] at f;simpa using f.symm
 ·cases a
theorem ANP:fA.wide:=⟨A0 _,A0 _,A0 _,A0 _,A0 _,A0 _⟩
theorem AJb {a:Ev}(c:Ed a=true):a.data.size<=(Mw a).length:=by
 simp only[Ed,A3] at c;have b:=c.2;cases d:dQ a.kind with
 |false=>
  rw[d] at b;simp at b;rw[b];exact AD _
 |true=>
  simp only[Mw,gN,d,if_true,BP,A1,BA];omega
theorem AL3 {l:List UInt8}{a:Ev}(e:l.length<18446744073709551616):jP l=some a↔EX a=true/\Mw a=l:=by refine⟨AIu,λ⟨b,c⟩=>?_⟩;have d:=AJb (LQ b);have:=APG ANP ⟨by decide,by decide,by decide⟩ (LQ b) (by rw[c] at d;omega) [];rw[AM,c] at this;unfold jP;simp only[this,b];rfl
structure Jb where
 id:Int
 step:Int
 aL:Bool
 turn:Int
def eZ:cz Jb where
 enc x:= [J6 J9 x.id,J6 J9 x.step,J3 x.aL,J6 J9 x.turn]
 w:=4
 len _:=rfl
 pos:=by omega
 one x v a:=by simp at a;rcases a with rfl|rfl|rfl|rfl<;>rfl
structure Ck where
 id:Int
 step:Int
 tick:Int
def ga:cz Ck where
 enc x:= [J6 J9 x.id,J6 J9 x.step,J6 J9 x.tick]
 w:=3
 len _:=rfl
 pos:=by omega
 one x v a:=by simp at a;rcases a with rfl|rfl|rfl<;>rfl
structure aZ where
 prog:ct
 status:Int
 next:Int
 aX:Int
 asked:Int
 taken:Int
 fresh:Bool
 ar:List Jb
 aj:List Ck
 cancel:Bool
 aQ:Bool
def Qs:aZ:=⟨⟨[],0⟩,0,0,0,0,0,false,[],[],false,false⟩
def stepOf(p:ct)(a b:Int):Option bO:=if 0<=a then(p.steps[a.toNat]?).bind λx=>if x.kind=b then some x else none else none
def Gf(p:ct)(a:Jb):Int:=match stepOf p a.step 1 with
 |none=>0
 |some x=>if a.aL then x.az else x.tries
def Rn(s:aZ)(b turn:Int):Option Nat:=s.ar.findIdx? λa=>decide (a.id=b)&&decide (a.turn=turn)
def Dj(s:aZ)(a:Ev):Option aZ:=
 if a.kind=2 then(if s.asked=0/\s.taken=0/\s.fresh=true then some {s with asked:=a.id} else none)
 else if a.kind=3 then(if s.asked=a.ref then some {s with asked:=0,taken:=a.id,fresh:=false} else none)
 else if a.kind=4 then(if s.taken=a.ref then some {s with taken:=0} else none)
 else(if s.taken=a.ref then some {s with taken:=0,fresh:=true} else none)
def LD(s:aZ)(a:Ev):Option aZ:=
 if a.kind=6 then(stepOf s.prog a.step 1).bind λx=>if a.aL=true/\x.aL=Ha then none else some {s with ar:=s.ar++ [⟨a.id,a.step,a.aL,1⟩]}
 else(Rn s a.ref a.turn).bind λi=>(s.ar[i]?).bind λb=>
  if a.kind=8 then(if a.turn=Gf s.prog b then none else some {s with ar:=s.ar.set i {b with turn:=b.turn+1}})
  else if a.kind=7\/a.turn=Gf s.prog b then some {s with ar:=s.ar.eraseIdx i,fresh:=true} else none
def Jt(s:aZ)(a:Ev):Option aZ:=
 if a.kind=10 then(stepOf s.prog a.step 2).map λx=> {s with aj:=s.aj++ [⟨a.id,a.step,a.tick+x.wait⟩]}
 else(s.aj.findIdx? λc=>decide (c.id=a.ref)&&decide (c.tick<=a.tick)).map λi=> {s with aj:=s.aj.eraseIdx i,fresh:=true}
def ia(s:aZ)(status:Int):aZ:= {s with status:=status,asked:=0,taken:=0,fresh:=false,ar:= [],aj:= []}
def Oa(s:aZ):Prop:=s.asked=0/\s.taken=0/\s.ar= []
instance (s:aZ):Decidable (Oa s):=decidable_of_iff (s.asked=0/\s.taken=0/\s.ar.length=0) (by simp[Oa])
def Jg(s:aZ)(a:Ev):Option aZ:=
 if a.kind=12 then some {s with fresh:=true}
 else if a.kind=13 then(if s.cancel=true then none else some {s with cancel:=true,fresh:=true})
 else if a.kind=14 then(if s.aQ=true\/s.prog.aw=0\/a.tick<s.aX+s.prog.aw then none else some {s with aQ:=true,fresh:=true})
 else if a.kind=18 then some (ia s 4)
 else if a.kind=15 then(if Oa s then some (ia s 1) else none)
 else if a.kind=16 then(if Oa s then some (ia s 2) else none)
 else if a.kind=17 then(if Oa s then some (ia s 3) else none)
 else none
def OT(s:aZ)(a:Ev):Option aZ:=
 (if 2<=a.kind/\a.kind<=5 then Dj s a else if 6<=a.kind/\a.kind<=9 then LD s a else if a.kind=10\/a.kind=11 then Jt s a else Jg s a).map λt=> {t with next:=s.next+1}
def WU(a:Ev):aZ:=⟨(JD (bl a.data)).getD ⟨[],0⟩,0,2,a.tick,0,0,true,[],[],false,false⟩
def Bh(s:aZ)(a:Ev):Int×aZ:=
 if EX a=false then(120,Qs)
 else if s.next=0 then(if a.kind=1/\a.id=1 then(0,WU a) else(120,Qs))
 else if s.status≠0 then(182,Qs)
 else if a.id≠s.next then(120,Qs)
 else match OT s a with
  |none=>(120,Qs)
  |some t=>(0,t)
def ET(s:aZ):List Ev->Option aZ
 | []=>some s
 |e::l=>if(Bh s e).1=0 then ET (Bh s e).2 l else none
theorem ADr {a b:List Ev}: ∀ {s:aZ},ET s (a++b)=(ET s a).bind λt=>ET t b:=by
 induction a with
 |nil=>intro s;rfl
 |cons d l c=>
  intro s;rw[F0,ET,ET];split
  ·exact c
  ·rfl
theorem AHe {s t:aZ}{l:List Ev}{a:Ev}(b:ET s l=some t)(c:(Bh t a).1=0):ET s (l++ [a])=some (Bh t a).2:=by rw[ADr,b];show ET t [a]=_;rw[ET,if_pos c,ET]
theorem QE {s:aZ}{b:Ev}(a:(Bh s b).1=0):EX b=true:=by
 unfold Bh at a;split at a
 ·cases a
 ·rename_i c;simpa using c
theorem vU {s:aZ}{b:Ev}(a:(Bh s b).1=0):(s.next=0->b.id=1/\(Bh s b).2.next=2)/\(s.next≠0->b.id=s.next/\(Bh s b).2.next=s.next+1):=by
 unfold Bh at a ⊢;split at a
 ·cases a
 ·rename_i g;rw[if_neg g];split at a
  ·rename_i c;rw[if_pos c];split at a
   ·rename_i d;rw[if_pos d];exact⟨λ_=>⟨d.2,rfl⟩,λa=>absurd c a⟩
   ·cases a
  ·rename_i c;rw[if_neg c];split at a
   ·cases a
   ·rename_i d;rw[if_neg d];split at a
    ·cases a
    ·rename_i f;rw[if_neg f];cases e:OT s b with
     |none=>rw[e] at a;cases a
     |some t=>
      refine⟨λa=>absurd a c,λ_=>⟨by simpa using f,?_⟩⟩;unfold OT at e;obtain⟨h,-,rfl⟩:=Option.map_eq_some_iff.1 e;rfl
theorem AHa: ∀ {l:List Ev} {s t:aZ},ET s l=some t->1<=s.next->t.next=s.next+l.length/\ ∀(i:Nat) (b:Ev),l[i]? =some b->b.id=s.next+i/\EX b=true:=by
 intro l
 induction l with
 |nil=>intro s t a e;cases a;exact⟨by simp,λi b f=>by simp at f⟩
 |cons b l g=>
  intro s t a e;rw[ET] at a;split at a
  ·rename_i d;have h:=(vU d).2 (by omega);obtain⟨j,k⟩:=g a (by omega);refine⟨by rw[j,h.2,A5];omega,λi x c=>?_⟩;cases i with
   |zero=>simp at c;subst c;exact⟨by omega,QE d⟩
   |succ i=>
    have:=k i x (by simpa using c);exact⟨by omega,this.2⟩
  ·cases a
theorem vV {l:List Ev}{t:aZ}(a:ET Qs l=some t)(e:l≠ []):t.next=l.length+1/\ ∀(i:Nat) (b:Ev),l[i]? =some b->b.id=i+1/\EX b=true:=by
 cases l with
 |nil=>exact absurd rfl e
 |cons b l=>
  rw[ET] at a;split at a
  ·rename_i d;have f:=(vU d).1 rfl;obtain⟨g,h⟩:=AHa a (by omega);refine⟨by rw[g,f.2,A5];omega,λi x c=>?_⟩;cases i with
   |zero=>simp at c;subst c;exact⟨by omega,QE d⟩
   |succ i=>
    have:=h i x (by simpa using c);exact⟨by omega,this.2⟩
  ·cases a
def eJ:List UInt8->Option (List UInt8)
 | []=>none
 |a::p=>match eJ p with
  |some b=>some (a::b)
  |none=>if a<255 then some [a+1] else none
theorem vP {a b:UInt8}(c:a<255):b<a+1↔ ¬a<b:=by
 have e:a.toNat<255:=UInt8.lt_iff_toNat_lt.1 c;have d:(a+1).toNat=a.toNat+1:=by rw[UInt8.toNat_add];show(a.toNat+1) % 256=_;omega
 rw[UInt8.lt_iff_toNat_lt,UInt8.lt_iff_toNat_lt,d];omega
theorem ARp {a b:UInt8}(c: ¬a<255): ¬a<b:=λd=>by
 rw[UInt8.lt_iff_toNat_lt] at c d;have:b.toNat<256:=b.toNat_lt;have e:(255:UInt8).toNat=255:=rfl;omega
theorem vQ: ∀(p j:List UInt8),(¬ j<p/\(∀ h,eJ p=some h->j<h))↔p <+: j
 | [],j=>by simp[eJ]
 |a::p,[]=>by
  constructor
  ·rintro⟨c,_⟩;exact absurd (List.nil_lt_cons a p) c
  ·intro c;exact absurd (List.prefix_nil.1 c) (by simp)
 |a::p,b::j=>by
  have s:=vQ p j;have e: ∀ {x q:UInt8} {l m:List UInt8},x::l<q::m↔x<q\/x=q/\l<m:=A0n;rw[List.cons_prefix_cons,<-s];constructor
  ·rintro⟨o,f⟩;have r: ¬b<a:=λc=>o (e.2 (.inl c))
   have t: ¬a<b:=λc=>by
    unfold eJ at f;cases k:eJ p with
    |some h=>
     rw[k] at f;rcases e.1 (f _ rfl) with d|⟨d,_⟩
     ·exact r d
     ·subst d;exact UInt8.lt_irrefl _ c
    |none=>
     rw[k] at f;by_cases i:a<255
     ·have:=f [a+1] (by simp[i]);rcases e.1 this with d|⟨_,d⟩
      ·exact(vP i).1 d c
      ·exact absurd d (by simp)
     ·exact ARp i c
   have n:a=b:=by
    by_cases n:a=b
    ·exact n
    ·rcases UInt8.lt_or_lt_of_ne n with c|c
     ·exact absurd c t
     ·exact absurd c r
   subst n;refine⟨rfl,λc=>o (e.2 (.inr ⟨rfl,c⟩)),λh g=>?_⟩;have:=f (a::h) (by unfold eJ;rw[g]);rcases e.1 this with d|⟨_,d⟩
   ·exact absurd d (UInt8.lt_irrefl _)
   ·exact d
  ·rintro⟨rfl,o,f⟩;refine⟨λc=>?_,λh g=>?_⟩
   ·rcases e.1 c with d|⟨_,d⟩
    ·exact absurd d (UInt8.lt_irrefl _)
    ·exact o d
   ·unfold eJ at g;cases k:eJ p with
    |some u=>
     rw[k] at g;obtain rfl:=BT g;exact e.2 (.inr ⟨rfl,f u k⟩)
    |none=>
     rw[k] at g;by_cases i:a<255
     ·have n:h= [a+1]:=by simpa [i] using g.symm
      subst n;exact e.2 (.inl ((vP i).2 (UInt8.lt_irrefl _)))
     ·simp[i] at g
theorem qI: ∀ {p:List UInt8},(∀ x∈p,¬x<255)->eJ p=none
 | [],_=>rfl
 |a::p,b=>by
  unfold eJ;rw[qI λx c=>b x (An _ c)];simp[b a AN]
theorem vR: ∀ {p:List UInt8} {i:Nat} {a:UInt8},p[i]? =some a->a<255->(∀ x∈p.drop (i+1),¬x<255)->eJ p=some (p.take i++ [a+1])
 | [],i,a,c,_,_=>by simp at c
 |b::p,0,a,c,d,hd=>by
  simp at c;subst c;unfold eJ;rw[qI (by simpa using hd)];simp[d]
 |b::p,i+1,a,c,d,hd=>by
  unfold eJ;rw[vR (p:=p) (i:=i) (a:=a) (by simpa using c) d (by simpa using hd)];simp
def hU(p a:A2P):Bool:=(p.data.toList).isPrefixOf a.data.toList
theorem XO(p a:A2P):hU p a=true↔p.data.toList <+: a.data.toList:=by unfold hU;rw[List.isPrefixOf_iff_prefix]
def Ky:Nat->Nat->List UInt8
 |0,_=> []
 |k+1,a=>Ky k (a / 256)++ [Cq a]
theorem Ny: ∀(k a:Nat),(Ky k a).length=k
 |0,_=>rfl
 |k+1,a=>by rw[Ky,A1,Ny k];rfl
theorem ZK(a:Nat):Cq a=Cq (a % 256):=by apply UInt8.toNat_inj.1;simp[Cq,UInt8.toNat_ofNat']
theorem AL4 {a b:Nat}(c:a<256)(d:b<256)(e:Cq a=Cq b):a=b:=by have:=congrArg UInt8.toNat e;rwa [EA c,EA d] at this
theorem vW(a:Nat):Ky 4 a= [Cq (a / 256 / 256 / 256),Cq (a / 256 / 256),Cq (a / 256),Cq a]:=rfl
theorem APg {a b:Nat}(i:b<65536)(j:a<b):Ky 4 a<Ky 4 b:=by
 rw[vW,vW];have d:a / 256 / 256=0:=by omega
 have e:b / 256 / 256=0:=by omega
 rw[d,e];have lt: ∀ {x c:Nat},c<256->x<c->Cq x<Cq c:=λ{x c} f g=>by
  rw[UInt8.lt_iff_toNat_lt,EA f,EA (by omega)];exact g
 refine List.Lex.cons (List.Lex.cons ?_);by_cases h:a / 256=b / 256
 ·rw[h];refine List.Lex.cons (List.Lex.rel ?_);rw[ZK a,ZK b];exact lt (by omega) (by omega)
 ·exact List.Lex.rel (lt (by omega) (by omega))
theorem ARy(p:List UInt8){a b:List UInt8}(d:a<b):p++a<p++b:=by
 induction p with
 |nil=>exact d
 |cons c p e=>exact List.Lex.cons e
def kE:UInt8:=104
def kJ(wid:A2P):List UInt8:=kE::BP (bl wid)
def WE(wid:A2P):A2P:=AX (kJ wid)
def dW(wid:A2P)(id:Nat):A2P:=AX (kJ wid++Ky 4 id)
def Kk(wid:A2P):A2P:=AX (119::bl wid)
def Mf(a:A2P):A2P:=AX (114::bl a)
def Yx(a id:Nat):A2P:=AX (116::Cq a::Ky 8 id)
def Zi(a b id:Nat):A2P:=AX (109::Cq a::(Ky 8 b++Ky 8 id))
theorem vX {s:A2P}(a:s.size<=16):BP (bl s)=Cq s.size::bl s:=by unfold BP;rw[BA,Fg (by omega)];rfl
theorem Qu {wid:A2P}(a:wid.size<=16):kJ wid=104::Cq wid.size::bl wid:=by unfold kJ;rw[vX a];rfl
theorem AOE {wid:A2P}(a:wid.size<=16)(id:Nat):(dW wid id).size<=22:=by unfold dW;rw[AP,A1,Ny,Qu a];simp only[A5,BA];omega
theorem AMJ {wid:A2P}(a:wid.size<=16):(WE wid).size<=18:=by unfold WE;rw[AP,Qu a];simp only[A5,BA];omega
theorem RN(wid:A2P):(Kk wid).size=wid.size+1:=by unfold Kk;rw[AP,A5,BA]
theorem Uf(a:A2P):(Mf a).size=a.size+1:=by unfold Mf;rw[AP,A5,BA]
theorem vY(a id:Nat):(Yx a id).size=10:=by unfold Yx;rw[AP];rfl
theorem vZ(b a id:Nat):(Zi b a id).size=18:=by unfold Zi;rw[AP];rfl
theorem lS {wid:A2P}{i a:Nat}(b:a<65536)(c:i<a):aO (dW wid i) (dW wid a)=true:=by rw[YT,decide_eq_true_eq];unfold dW;rw[Ce,Ce];exact ARy _ (APg b c)
theorem w6(wid:A2P)(id:Nat):hU (WE wid) (dW wid id)=true:=by rw[XO];unfold WE dW;rw[Ce,Ce];exact List.prefix_append _ _
theorem w7 {wid a:A2P}(d:wid.size<=16)(e:a.size<=16){id:Nat}(b:hU (WE wid) (dW a id)=true):wid=a:=by rw[XO] at b;unfold WE dW at b;rw[Ce,Ce,Qu d,Qu e] at b;obtain⟨t,c⟩:=b;simp only[F0,Is,true_and] at c;have f:=AL4 (by omega) (by omega) c.1;have:=(List.append_inj c.2 (by rw[BA,BA];exact f)).1;rw[<- EE wid,<-EE a];exact congrArg AX this
theorem APY {wid b:A2P}(e:wid.size<=16)(f:b.size<=16){i c:Nat}(g:i<65536)(h:c<65536)(d:dW wid i=dW b c):wid=b/\i=c:=by
 have j:wid=b:=w7 e f (by rw[<- d];exact w6 wid i);subst j;refine⟨rfl,?_⟩;rcases HU i c with a|a|a
 ·exact absurd d (OD (lS h a))
 ·exact a
 ·exact absurd d.symm (OD (lS g a))
theorem AMg {a b:A2P}(c:Kk a=Kk b):a=b:=by have:=N7.1 c;simp only[Is,true_and] at this;rw[<- EE a,<-EE b];exact congrArg AX this
theorem w8 {a b:A2P}(c:Mf a=Mf b):a=b:=by have:=N7.1 c;simp only[Is,true_and] at this;rw[<- EE a,<-EE b];exact congrArg AX this
def BU(a:A2P):UInt8:=(bl a).headD 0
theorem Uh(wid:A2P)(id:Nat):BU (dW wid id)=104:=by unfold BU dW;rw[EP];rfl
theorem FY(wid:A2P):BU (Kk wid)=119:=by unfold BU Kk;rw[EP];rfl
theorem Kg(wid:A2P):BU (Mf wid)=114:=by unfold BU Mf;rw[EP];rfl
theorem WY(a id:Nat):BU (Yx a id)=116:=by unfold BU Yx;rw[EP];rfl
theorem WF(b a id:Nat):BU (Zi b a id)=109:=by unfold BU Zi;rw[EP];rfl
theorem qJ {wid a:A2P}(b:hU (WE wid) a=true):BU a=104:=by rw[XO] at b;obtain⟨t,c⟩:=b;unfold BU;show(a.data.toList).headD 0=104;rw[<- c];unfold WE;rw[Ce];rfl
def Pz(status next:Nat)(a:Bool):A2P:=AX (BX status++(BX next++BX (if a then 1 else 0)))
def iV(a:List UInt8)(status next:Nat):A2P:=AX (BP a++(BX status++BX next))
def qK(a:Nat)(wid:A2P)(b turn:Nat):A2P:=AX (BX a++(BP (bl wid)++(BX b++BX turn)))
theorem Gl {n:Nat}(a:n<16384):(BX n).length<=2:=wG 1 n (by omega)
theorem AJJ {kind ref turn:Nat}{wid:A2P}(a:kind<128)(b:wid.size<=16)(c:ref<=500)(d:turn<=5):(qK kind wid ref turn).size<=22:=by unfold qK;have:=Gl (n:=ref) (by omega);rw[AP,Fg a,vX b,Fg (n:=turn) (by omega)];simp only[A1,A5,BA,FG];omega
theorem AJg {status next:Nat}{kept:Bool}(a:status<128)(b:next<=501):(Pz status next kept).size<=4:=by unfold Pz;have:=Gl (n:=next) (by omega);rw[AP,Fg a,Fg (n:=if kept then 1 else 0) (by split<;>omega)];simp only[A1,A5,FG];omega
structure ba where
 wid:A2P
 ao:Nat
 cn:Int
 bT:Int
 kept:Bool
 st:aZ
 more:List Ev
 aq:List Pr
 conds:List Pr
 err:Int
 now:Int
def iW(s:aZ):Bool:=decide (s.next<=497)
def Gw(wid:A2P)(b:Nat)(c d:Int)(e:Bool)(st:aZ)(a:Int):ba:=
 ⟨wid,b,c,d,e,st,[],[],[],if a<0\/1099511611776<a then 1 else 0,a⟩
def Cg(a:ba)(b:Ev):Ev:= {b with id:=if 1>a.st.next then 1 else a.st.next,tick:=a.now}
def EK(a:ba)(b:Ev):ba:=
 if a.err≠0 then a
 else if a.more= []/\iW a.st=false/\b.kind≠18 then {a with err:=2}
 else if(Bh a.st (Cg a b)).1≠0 then {a with err:=(Bh a.st (Cg a b)).1}
 else {a with st:=(Bh a.st (Cg a b)).2,more:=a.more++ [Cg a b]}
def iX(a:ba):Int:=a.st.next-1
structure gk where
 kind:Int
 ref:Int
 turn:Int
def KI(t:gk)(wid:A2P):Bool:=bU t.kind 1 7&&Au wid&&bU t.ref 0 500&&bU t.turn 0 5
def ib(t:gk)(wid:A2P):A2P:=qK t.kind.toNat wid t.ref.toNat t.turn.toNat
def GQ(a:Nat)(tick:Int)(b:Nat):A2P:=if tick<0 then Yx a b else Zi a tick.toNat b
def Dc(a:ba)(t:gk)(tick:Int)(b:Nat):ba:=
 if a.err≠0 then a
 else if KI t a.wid=false then {a with err:=1}
 else {a with aq:=a.aq++ [⟨GQ a.ao tick b,ib t a.wid,false⟩]}
def qL(a:ba)(key val:A2P):ba:= {a with conds:=a.conds++ [⟨key,val,false⟩],aq:=a.aq++ [⟨key,⟨#[]⟩,true⟩]}
def kK(a:ba)(key val:A2P):ba:= {a with conds:=a.conds++ [⟨key,⟨#[]⟩,true⟩],aq:=a.aq++ [⟨key,val,false⟩]}
def FP(a:ba):Bool:=decide (a.more≠ [])&&(decide (a.st.status=0)&&(a.st.fresh&&(decide (a.st.asked=0)&&decide (a.st.taken=0))))
def DU(a:ba):Int×Int:=(a.st.status,if FP a then a.st.next+1 else a.st.next)
def bB(a:ba):Pr:=if 0<a.bT then⟨Kk a.wid,Pz a.cn.toNat a.bT.toNat a.kept,false⟩ else⟨Kk a.wid,⟨#[]⟩,true⟩
def Oj(wid:A2P)(a:Ev):Pr:=⟨dW wid a.id.toNat,AX (Mw a),false⟩
def Dq(a:ba):List Pr:=a.more.map (Oj a.wid)++(if a.more= [] then [] else [⟨Kk a.wid,Pz a.st.status.toNat a.st.next.toNat false,false⟩])
structure ba.zD (C:ba):Prop where
 pos:C.err=0-> ∀e∈C.more,EX e=true
 err0:0<=C.err
theorem QA(a:ba)(b:Ev):(EK a b).wid=a.wid/\(EK a b).ao=a.ao/\(EK a b).cn=a.cn/\(EK a b).bT=a.bT/\(EK a b).kept=a.kept/\(EK a b).aq=a.aq/\(EK a b).conds=a.conds/\(EK a b).now=a.now:=by
 unfold EK;split
 ·simp
 ·split
  ·simp
  ·split<;>simp
theorem qM {a:ba}{e:Ev}(d:a.err=0)(f:a.more≠ []\/a.st.next<=497\/e.kind=18)(g:(Bh a.st (Cg a e)).1=0):
  EK a e= {a with st:=(Bh a.st (Cg a e)).2,more:=a.more++ [Cg a e]}:=by
 unfold EK;rw[if_neg (by simp[d]),if_neg (by
  rintro⟨h,c,i⟩;rcases f with b|b|b
  ·exact b h
  ·unfold iW at c;simp at c;omega
  ·exact i b),if_neg (by simp[g])]
def qN(a:Q6):aa->Nat->List J0->(aa->Prop)->Prop
 |h,_,[],K=>K h
 |h,i,v::b,K=>ab h (a.add i) v λc=>qN a c (i+1) b K
def aN(b:aa)(a:Q6)(c:List J0)(K:aa->Prop):Prop:=qN a b 0 c K
def ZM(a:Array J0)(b:Nat)(c:List J0):Array J0:=⟨a.toList.take b++(c++a.toList.drop (b+c.length))⟩
theorem AMc {c:Array J0}{a:Nat}{v:J0}{b:List J0}(d:a<c.size):ZM (c.setIfInBounds a v) (a+1) b=ZM c a (v::b):=by
 obtain⟨l⟩:=c;have d:a<l.length:=d;unfold ZM;apply congrArg Array.mk;simp only[Wk,A5];have e:l.set a v=l.take a++v::l.drop (a+1):=by rw[A09,if_pos d]
 rw[e,Lq,R2,AE,GO (by omega)];rw[show a+1-a=1 from by omega,Ss,Pl (by omega),show a+1+b.length-a=b.length+1 from by omega];rw[HE (l:=l.take a) (by rw[AE];omega)];simp only[HX,It,DA,HS,HT,A4,F0];rw[show a+1+b.length=a+(b.length+1) from by omega]
theorem AO6 {a:Array J0}{b:Nat}:ZM a b []=a:=by obtain⟨l⟩:=a;unfold ZM;simp
theorem wc {b c:Nat}{T:Q7}{K:aa->Prop}: ∀(d:List J0) (i:Nat) {a:aa} {e:Array J0},a[b]? =some (J2 e T (0,0))->c+i+d.length<=e.size->
  (∀ f,f[b]? =some (J2 (ZM e (c+i) d) T (0,0))->Mod (· =b) a f->f.size=a.size->K f)->qN ⟨b,c,none⟩ a i d K
 | [],i,a,e,g,_,h=>h a (by rw[AO6];exact g) ⟨A0 _,λ_ _ _=>rfl⟩ rfl
 |v::d,i,a,e,g,k,h=>by
  rw[A5] at k;show ab a (Addr.add ⟨b,c,none⟩ i) v _;rw[Ba];refine ab.mk g (by omega) λp l m q=>?_
  refine wc d (i+1) l (by simp;omega) λn j o r=>h n ?_ (m.trans o) (by omega)
  rw[show c+(i+1)=c+i+1 from by omega,AMc (by omega)] at j;exact j
theorem aN.mk {b e:Nat}{T:Q7}{K:aa->Prop}{a:List J0}{c:aa}{f:Array J0}(g:c[b]? =some (J2 f T (0,0)))(h:e+a.length<=f.size)
  (i: ∀d,d[b]? =some (J2 (ZM f e a) T (0,0))->Mod (· =b) c d->d.size=c.size->K d):aN c ⟨b,e,none⟩ a K:=wc a 0 g h i
theorem Dz {c:aa}{b d:Nat}{e:Array J0}{T:Q7}{fr:Nat×Nat}{l:List J0}(f:c[b]? =some (J2 e T fr))(g:(e.toList.drop d).take l.length=l):Cells c ⟨b,d,none⟩ l:=λh v a=>by
 rw[Ba];refine AL f ?_;rw[<- Mz,<-Bs];have i:=(List.getElem?_eq_some_iff.1 a).1;rw[<- g,Fo,if_pos (by omega)] at a;exact a
abbrev Ev.l(x:Ev):List J0:= [J6 J9 x.id,J6 J9 x.kind,J6 J9 x.tick,J6 J9 x.ref,J6 J9 x.step,J6 J9 x.turn,J3 x.aL,J7 x.data]
abbrev Ev.c(x:Ev):Array J0:= #[J6 J9 x.id,J6 J9 x.kind,J6 J9 x.tick,J6 J9 x.ref,J6 J9 x.step,J6 J9 x.turn,J3 x.aL,J7 x.data]
abbrev Ev.v(x:Ev):J0:= .agg #[J6 J9 x.id,J6 J9 x.kind,J6 J9 x.tick,J6 J9 x.ref,J6 J9 x.step,J6 J9 x.turn,J3 x.aL,J7 x.data]
abbrev Ev.z:Ev:=⟨0,0,0,0,0,0,false,⟨#[]⟩⟩
abbrev Ev.s:List Sc:= [.int J9,.int J9,.int J9,.int J9,.int J9,.int J9,.bool,.str]
abbrev Ev.T:Type:=Int×Int×Int×Int×Int×Int×Bool×A2P×Unit
abbrev Ev.t(x:Ev):Ev.T:=(x.id,x.kind,x.tick,x.ref,x.step,x.turn,x.aL,x.data,())
def nU(K:Ev->Prop):Prop:= ∃a:Int,∃b:Int,∃c:Int,∃d:Int,∃e:Int,∃f:Int,∃g:Bool,∃h:A2P,K ⟨a,b,c,d,e,f,g,h⟩
theorem nU.mk {K:Ev->Prop}(x:Ev)(a:K x):nU K:=⟨x.id,x.kind,x.tick,x.ref,x.step,x.turn,x.aL,x.data,a⟩
def NI(b:aa)(a:Q6)(K:Ev->Prop):Prop:=
 AC J9 b a λc=>
 AC J9 b (a.add 1) λd=>
 AC J9 b (a.add 2) λe=>
 AC J9 b (a.add 3) λf=>
 AC J9 b (a.add 4) λg=>
 AC J9 b (a.add 5) λh=>
 Aa b (a.add 6) λi=>
 AJ b (a.add 7) λj=>
 K ⟨c,d,e,f,g,h,i,j⟩
theorem NI.mk {b:aa}{a:Q6}{K:Ev->Prop}(x:Ev)(c:Cells b a x.l)(d:K x):NI b a K:=
 ⟨_,by have:=c 0 _ rfl;rwa [add_zero] at this,_,c 1 _ rfl,_,c 2 _ rfl,_,c 3 _ rfl,_,c 4 _ rfl,_,c 5 _ rfl,_,c 6 _ rfl,_,c 7 _ rfl,d⟩
abbrev Jb.l(x:Jb):List J0:= [J6 J9 x.id,J6 J9 x.step,J3 x.aL,J6 J9 x.turn]
abbrev Jb.c(x:Jb):Array J0:= #[J6 J9 x.id,J6 J9 x.step,J3 x.aL,J6 J9 x.turn]
abbrev Jb.v(x:Jb):J0:= .agg #[J6 J9 x.id,J6 J9 x.step,J3 x.aL,J6 J9 x.turn]
abbrev Jb.z:Jb:=⟨0,0,false,0⟩
abbrev Jb.s:List Sc:= [.int J9,.int J9,.bool,.int J9]
abbrev Jb.T:Type:=Int×Int×Bool×Int×Unit
abbrev Jb.t(x:Jb):Jb.T:=(x.id,x.step,x.aL,x.turn,())
def iY(b:aa)(a:Q6)(K:Jb->Prop):Prop:=
 AC J9 b a λc=>
 AC J9 b (a.add 1) λd=>
 Aa b (a.add 2) λe=>
 AC J9 b (a.add 3) λf=>
 K ⟨c,d,e,f⟩
theorem iY.mk {b:aa}{a:Q6}{K:Jb->Prop}(x:Jb)(c:Cells b a x.l)(d:K x):iY b a K:=
 ⟨_,by have:=c 0 _ rfl;rwa [add_zero] at this,_,c 1 _ rfl,_,c 2 _ rfl,_,c 3 _ rfl,d⟩
abbrev Ck.l(x:Ck):List J0:= [J6 J9 x.id,J6 J9 x.step,J6 J9 x.tick]
abbrev Ck.c(x:Ck):Array J0:= #[J6 J9 x.id,J6 J9 x.step,J6 J9 x.tick]
abbrev Ck.v(x:Ck):J0:= .agg #[J6 J9 x.id,J6 J9 x.step,J6 J9 x.tick]
abbrev Ck.z:Ck:=⟨0,0,0⟩
abbrev Ck.s:List Sc:= [.int J9,.int J9,.int J9]
abbrev Ck.T:Type:=Int×Int×Int×Unit
abbrev Ck.t(x:Ck):Ck.T:=(x.id,x.step,x.tick,())
def nV(b:aa)(a:Q6)(K:Ck->Prop):Prop:=
 AC J9 b a λc=>
 AC J9 b (a.add 1) λd=>
 AC J9 b (a.add 2) λe=>
 K ⟨c,d,e⟩
theorem nV.mk {b:aa}{a:Q6}{K:Ck->Prop}(x:Ck)(c:Cells b a x.l)(d:K x):nV b a K:=
 ⟨_,by have:=c 0 _ rfl;rwa [add_zero] at this,_,c 1 _ rfl,_,c 2 _ rfl,d⟩
abbrev bO.l(x:bO):List J0:= [J6 J9 x.kind,J7 x.name,J7 x.aL,J6 J9 x.tries,J6 J9 x.az,J6 J9 x.wait]
abbrev bO.c(x:bO):Array J0:= #[J6 J9 x.kind,J7 x.name,J7 x.aL,J6 J9 x.tries,J6 J9 x.az,J6 J9 x.wait]
abbrev bO.v(x:bO):J0:= .agg #[J6 J9 x.kind,J7 x.name,J7 x.aL,J6 J9 x.tries,J6 J9 x.az,J6 J9 x.wait]
abbrev bO.z:bO:=⟨0,⟨#[]⟩,⟨#[]⟩,0,0,0⟩
abbrev bO.s:List Sc:= [.int J9,.str,.str,.int J9,.int J9,.int J9]
abbrev bO.T:Type:=Int×A2P×A2P×Int×Int×Int×Unit
abbrev bO.t(x:bO):bO.T:=(x.kind,x.name,x.aL,x.tries,x.az,x.wait,())
def iZ(K:bO->Prop):Prop:= ∃a:Int,∃b:A2P,∃c:A2P,∃d:Int,∃e:Int,∃f:Int,K ⟨a,b,c,d,e,f⟩
theorem iZ.mk {K:bO->Prop}(x:bO)(a:K x):iZ K:=⟨x.kind,x.name,x.aL,x.tries,x.az,x.wait,a⟩
def j3(b:aa)(a:Q6)(K:bO->Prop):Prop:=
 AC J9 b a λc=>
 AJ b (a.add 1) λd=>
 AJ b (a.add 2) λe=>
 AC J9 b (a.add 3) λf=>
 AC J9 b (a.add 4) λg=>
 AC J9 b (a.add 5) λh=>
 K ⟨c,d,e,f,g,h⟩
theorem j3.mk {b:aa}{a:Q6}{K:bO->Prop}(x:bO)(c:Cells b a x.l)(d:K x):j3 b a K:=
 ⟨_,by have:=c 0 _ rfl;rwa [add_zero] at this,_,c 1 _ rfl,_,c 2 _ rfl,_,c 3 _ rfl,_,c 4 _ rfl,_,c 5 _ rfl,d⟩
structure bG where
 steps:Sl
 aw:Int
 status:Int
 next:Int
 aX:Int
 asked:Int
 taken:Int
 fresh:Bool
 ar:Sl
 aj:Sl
 cancel:Bool
 aQ:Bool
abbrev bG.l(x:bG):List J0:= [J4 x.steps.p x.steps.len x.steps.cap,J6 J9 x.aw,J6 J9 x.status,J6 J9 x.next,J6 J9 x.aX,J6 J9 x.asked,J6 J9 x.taken,J3 x.fresh,J4 x.ar.p x.ar.len x.ar.cap,J4 x.aj.p x.aj.len x.aj.cap,J3 x.cancel,J3 x.aQ]
abbrev bG.c(x:bG):Array J0:= #[J4 x.steps.p x.steps.len x.steps.cap,J6 J9 x.aw,J6 J9 x.status,J6 J9 x.next,J6 J9 x.aX,J6 J9 x.asked,J6 J9 x.taken,J3 x.fresh,J4 x.ar.p x.ar.len x.ar.cap,J4 x.aj.p x.aj.len x.aj.cap,J3 x.cancel,J3 x.aQ]
abbrev bG.v(x:bG):J0:= .agg #[J4 x.steps.p x.steps.len x.steps.cap,J6 J9 x.aw,J6 J9 x.status,J6 J9 x.next,J6 J9 x.aX,J6 J9 x.asked,J6 J9 x.taken,J3 x.fresh,J4 x.ar.p x.ar.len x.ar.cap,J4 x.aj.p x.aj.len x.aj.cap,J3 x.cancel,J3 x.aQ]
abbrev bG.z:bG:=⟨⟨none,0,0⟩,0,0,0,0,0,0,false,⟨none,0,0⟩,⟨none,0,0⟩,false,false⟩
abbrev bG.s:List Sc:= [.sl,.int J9,.int J9,.int J9,.int J9,.int J9,.int J9,.bool,.sl,.sl,.bool,.bool]
abbrev bG.T:Type:=Sl×Int×Int×Int×Int×Int×Int×Bool×Sl×Sl×Bool×Bool×Unit
abbrev bG.t(x:bG):bG.T:=(x.steps,x.aw,x.status,x.next,x.aX,x.asked,x.taken,x.fresh,x.ar,x.aj,x.cancel,x.aQ,())
def G9(K:bG->Prop):Prop:= ∃a:Sl,∃b:Int,∃c:Int,∃d:Int,∃e:Int,∃f:Int,∃g:Int,∃h:Bool,∃i:Sl,∃j:Sl,∃k:Bool,∃l:Bool,K ⟨a,b,c,d,e,f,g,h,i,j,k,l⟩
theorem G9.mk {K:bG->Prop}(x:bG)(a:K x):G9 K:=⟨x.steps,x.aw,x.status,x.next,x.aX,x.asked,x.taken,x.fresh,x.ar,x.aj,x.cancel,x.aQ,a⟩
def Aw(b:aa)(a:Q6)(K:bG->Prop):Prop:=
 AY b a λc=>
 AC J9 b (a.add 1) λd=>
 AC J9 b (a.add 2) λe=>
 AC J9 b (a.add 3) λf=>
 AC J9 b (a.add 4) λg=>
 AC J9 b (a.add 5) λh=>
 AC J9 b (a.add 6) λi=>
 Aa b (a.add 7) λj=>
 AY b (a.add 8) λk=>
 AY b (a.add 9) λl=>
 Aa b (a.add 10) λm=>
 Aa b (a.add 11) λn=>
 K ⟨c,d,e,f,g,h,i,j,k,l,m,n⟩
theorem Aw.mk {b:aa}{a:Q6}{K:bG->Prop}(x:bG)(c:Cells b a x.l)(d:K x):Aw b a K:=
 ⟨_,by have:=c 0 _ rfl;rwa [add_zero] at this,_,c 1 _ rfl,_,c 2 _ rfl,_,c 3 _ rfl,_,c 4 _ rfl,_,c 5 _ rfl,_,c 6 _ rfl,_,c 7 _ rfl,_,c 8 _ rfl,_,c 9 _ rfl,_,c 10 _ rfl,_,c 11 _ rfl,d⟩
structure cP where
 status:Int
 next:Int
 kept:Bool
abbrev cP.l(x:cP):List J0:= [J6 J9 x.status,J6 J9 x.next,J3 x.kept]
abbrev cP.c(x:cP):Array J0:= #[J6 J9 x.status,J6 J9 x.next,J3 x.kept]
abbrev cP.v(x:cP):J0:= .agg #[J6 J9 x.status,J6 J9 x.next,J3 x.kept]
abbrev cP.z:cP:=⟨0,0,false⟩
abbrev cP.s:List Sc:= [.int J9,.int J9,.bool]
abbrev cP.T:Type:=Int×Int×Bool×Unit
abbrev cP.t(x:cP):cP.T:=(x.status,x.next,x.kept,())
def nW(K:cP->Prop):Prop:= ∃a:Int,∃b:Int,∃c:Bool,K ⟨a,b,c⟩
theorem nW.mk {K:cP->Prop}(x:cP)(a:K x):nW K:=⟨x.status,x.next,x.kept,a⟩
def Ns(b:aa)(a:Q6)(K:cP->Prop):Prop:=
 AC J9 b a λc=>
 AC J9 b (a.add 1) λd=>
 Aa b (a.add 2) λe=>
 K ⟨c,d,e⟩
theorem Ns.mk {b:aa}{a:Q6}{K:cP->Prop}(x:cP)(c:Cells b a x.l)(d:K x):Ns b a K:=
 ⟨_,by have:=c 0 _ rfl;rwa [add_zero] at this,_,c 1 _ rfl,_,c 2 _ rfl,d⟩
structure cm where
 wid:A2P
 ao:Int
 me:cP
 cF:Sl
 st:bG
abbrev cm.l(x:cm):List J0:= [J7 x.wid,J6 J9 x.ao,J6 J9 x.me.status,J6 J9 x.me.next,J3 x.me.kept,J4 x.cF.p x.cF.len x.cF.cap,J4 x.st.steps.p x.st.steps.len x.st.steps.cap,J6 J9 x.st.aw,J6 J9 x.st.status,J6 J9 x.st.next,J6 J9 x.st.aX,J6 J9 x.st.asked,J6 J9 x.st.taken,J3 x.st.fresh,J4 x.st.ar.p x.st.ar.len x.st.ar.cap,J4 x.st.aj.p x.st.aj.len x.st.aj.cap,J3 x.st.cancel,J3 x.st.aQ]
abbrev cm.c(x:cm):Array J0:= #[J7 x.wid,J6 J9 x.ao,J6 J9 x.me.status,J6 J9 x.me.next,J3 x.me.kept,J4 x.cF.p x.cF.len x.cF.cap,J4 x.st.steps.p x.st.steps.len x.st.steps.cap,J6 J9 x.st.aw,J6 J9 x.st.status,J6 J9 x.st.next,J6 J9 x.st.aX,J6 J9 x.st.asked,J6 J9 x.st.taken,J3 x.st.fresh,J4 x.st.ar.p x.st.ar.len x.st.ar.cap,J4 x.st.aj.p x.st.aj.len x.st.aj.cap,J3 x.st.cancel,J3 x.st.aQ]
abbrev cm.v(x:cm):J0:= .agg #[J7 x.wid,J6 J9 x.ao,J6 J9 x.me.status,J6 J9 x.me.next,J3 x.me.kept,J4 x.cF.p x.cF.len x.cF.cap,J4 x.st.steps.p x.st.steps.len x.st.steps.cap,J6 J9 x.st.aw,J6 J9 x.st.status,J6 J9 x.st.next,J6 J9 x.st.aX,J6 J9 x.st.asked,J6 J9 x.st.taken,J3 x.st.fresh,J4 x.st.ar.p x.st.ar.len x.st.ar.cap,J4 x.st.aj.p x.st.aj.len x.st.aj.cap,J3 x.st.cancel,J3 x.st.aQ]
abbrev cm.z:cm:=⟨⟨#[]⟩,0,⟨0,0,false⟩,⟨none,0,0⟩,⟨⟨none,0,0⟩,0,0,0,0,0,0,false,⟨none,0,0⟩,⟨none,0,0⟩,false,false⟩⟩
abbrev cm.s:List Sc:= [.str,.int J9,.int J9,.int J9,.bool,.sl,.sl,.int J9,.int J9,.int J9,.int J9,.int J9,.int J9,.bool,.sl,.sl,.bool,.bool]
abbrev cm.T:Type:=A2P×Int×Int×Int×Bool×Sl×Sl×Int×Int×Int×Int×Int×Int×Bool×Sl×Sl×Bool×Bool×Unit
abbrev cm.t(x:cm):cm.T:=(x.wid,x.ao,x.me.status,x.me.next,x.me.kept,x.cF,x.st.steps,x.st.aw,x.st.status,x.st.next,x.st.aX,x.st.asked,x.st.taken,x.st.fresh,x.st.ar,x.st.aj,x.st.cancel,x.st.aQ,())
def MI(K:cm->Prop):Prop:= ∃a:A2P,∃b:Int,∃c:Int,∃d:Int,∃e:Bool,∃f:Sl,∃g:Sl,∃h:Int,∃i:Int,∃j:Int,∃k:Int,∃l:Int,∃m:Int,∃n:Bool,∃o:Sl,∃p:Sl,∃q:Bool,∃r:Bool,K ⟨a,b,⟨c,d,e⟩,f,⟨g,h,i,j,k,l,m,n,o,p,q,r⟩⟩
theorem MI.mk {K:cm->Prop}(x:cm)(a:K x):MI K:=⟨x.wid,x.ao,x.me.status,x.me.next,x.me.kept,x.cF,x.st.steps,x.st.aw,x.st.status,x.st.next,x.st.aX,x.st.asked,x.st.taken,x.st.fresh,x.st.ar,x.st.aj,x.st.cancel,x.st.aQ,a⟩
def G7(b:aa)(a:Q6)(K:cm->Prop):Prop:=
 AJ b a λc=>
 AC J9 b (a.add 1) λd=>
 AC J9 b (a.add 2) λe=>
 AC J9 b (a.add 3) λf=>
 Aa b (a.add 4) λg=>
 AY b (a.add 5) λh=>
 AY b (a.add 6) λi=>
 AC J9 b (a.add 7) λj=>
 AC J9 b (a.add 8) λk=>
 AC J9 b (a.add 9) λl=>
 AC J9 b (a.add 10) λm=>
 AC J9 b (a.add 11) λn=>
 AC J9 b (a.add 12) λo=>
 Aa b (a.add 13) λp=>
 AY b (a.add 14) λq=>
 AY b (a.add 15) λr=>
 Aa b (a.add 16) λs=>
 Aa b (a.add 17) λt=>
 K ⟨c,d,⟨e,f,g⟩,h,⟨i,j,k,l,m,n,o,p,q,r,s,t⟩⟩
theorem G7.mk {b:aa}{a:Q6}{K:cm->Prop}(x:cm)(c:Cells b a x.l)(d:K x):G7 b a K:=
 ⟨_,by have:=c 0 _ rfl;rwa [add_zero] at this,_,c 1 _ rfl,_,c 2 _ rfl,_,c 3 _ rfl,_,c 4 _ rfl,_,c 5 _ rfl,_,c 6 _ rfl,_,c 7 _ rfl,_,c 8 _ rfl,_,c 9 _ rfl,_,c 10 _ rfl,_,c 11 _ rfl,_,c 12 _ rfl,_,c 13 _ rfl,_,c 14 _ rfl,_,c 15 _ rfl,_,c 16 _ rfl,_,c 17 _ rfl,d⟩
structure cT where
 kind:Int
 wid:A2P
 ref:Int
 turn:Int
abbrev cT.l(x:cT):List J0:= [J6 J9 x.kind,J7 x.wid,J6 J9 x.ref,J6 J9 x.turn]
abbrev cT.c(x:cT):Array J0:= #[J6 J9 x.kind,J7 x.wid,J6 J9 x.ref,J6 J9 x.turn]
abbrev cT.v(x:cT):J0:= .agg #[J6 J9 x.kind,J7 x.wid,J6 J9 x.ref,J6 J9 x.turn]
abbrev cT.z:cT:=⟨0,⟨#[]⟩,0,0⟩
abbrev cT.s:List Sc:= [.int J9,.str,.int J9,.int J9]
abbrev cT.T:Type:=Int×A2P×Int×Int×Unit
abbrev cT.t(x:cT):cT.T:=(x.kind,x.wid,x.ref,x.turn,())
def j4(b:aa)(a:Q6)(K:cT->Prop):Prop:=
 AC J9 b a λc=>
 AJ b (a.add 1) λd=>
 AC J9 b (a.add 2) λe=>
 AC J9 b (a.add 3) λf=>
 K ⟨c,d,e,f⟩
theorem j4.mk {b:aa}{a:Q6}{K:cT->Prop}(x:cT)(c:Cells b a x.l)(d:K x):j4 b a K:=
 ⟨_,by have:=c 0 _ rfl;rwa [add_zero] at this,_,c 1 _ rfl,_,c 2 _ rfl,_,c 3 _ rfl,d⟩
structure bZ where
 kind:Int
 bz:A2P
 wid:A2P
 name:A2P
 steps:Sl
 aw:Int
 cD:Sl
 ref:Int
 turn:Int
 aT:Int
 ao:Int
 aC:Bool
abbrev bZ.l(x:bZ):List J0:= [J6 J9 x.kind,J7 x.bz,J7 x.wid,J7 x.name,J4 x.steps.p x.steps.len x.steps.cap,J6 J9 x.aw,J4 x.cD.p x.cD.len x.cD.cap,J6 J9 x.ref,J6 J9 x.turn,J6 J9 x.aT,J6 J9 x.ao,J3 x.aC]
abbrev bZ.c(x:bZ):Array J0:= #[J6 J9 x.kind,J7 x.bz,J7 x.wid,J7 x.name,J4 x.steps.p x.steps.len x.steps.cap,J6 J9 x.aw,J4 x.cD.p x.cD.len x.cD.cap,J6 J9 x.ref,J6 J9 x.turn,J6 J9 x.aT,J6 J9 x.ao,J3 x.aC]
abbrev bZ.v(x:bZ):J0:= .agg #[J6 J9 x.kind,J7 x.bz,J7 x.wid,J7 x.name,J4 x.steps.p x.steps.len x.steps.cap,J6 J9 x.aw,J4 x.cD.p x.cD.len x.cD.cap,J6 J9 x.ref,J6 J9 x.turn,J6 J9 x.aT,J6 J9 x.ao,J3 x.aC]
abbrev bZ.z:bZ:=⟨0,⟨#[]⟩,⟨#[]⟩,⟨#[]⟩,⟨none,0,0⟩,0,⟨none,0,0⟩,0,0,0,0,false⟩
abbrev bZ.s:List Sc:= [.int J9,.str,.str,.str,.sl,.int J9,.sl,.int J9,.int J9,.int J9,.int J9,.bool]
abbrev bZ.T:Type:=Int×A2P×A2P×A2P×Sl×Int×Sl×Int×Int×Int×Int×Bool×Unit
abbrev bZ.t(x:bZ):bZ.T:=(x.kind,x.bz,x.wid,x.name,x.steps,x.aw,x.cD,x.ref,x.turn,x.aT,x.ao,x.aC,())
def VH(b:aa)(a:Q6)(K:bZ->Prop):Prop:=
 AC J9 b a λc=>
 AJ b (a.add 1) λd=>
 AJ b (a.add 2) λe=>
 AJ b (a.add 3) λf=>
 AY b (a.add 4) λg=>
 AC J9 b (a.add 5) λh=>
 AY b (a.add 6) λi=>
 AC J9 b (a.add 7) λj=>
 AC J9 b (a.add 8) λk=>
 AC J9 b (a.add 9) λl=>
 AC J9 b (a.add 10) λm=>
 Aa b (a.add 11) λn=>
 K ⟨c,d,e,f,g,h,i,j,k,l,m,n⟩
theorem VH.mk {b:aa}{a:Q6}{K:bZ->Prop}(x:bZ)(c:Cells b a x.l)(d:K x):VH b a K:=
 ⟨_,by have:=c 0 _ rfl;rwa [add_zero] at this,_,c 1 _ rfl,_,c 2 _ rfl,_,c 3 _ rfl,_,c 4 _ rfl,_,c 5 _ rfl,_,c 6 _ rfl,_,c 7 _ rfl,_,c 8 _ rfl,_,c 9 _ rfl,_,c 10 _ rfl,_,c 11 _ rfl,d⟩
structure bS where
 err:Int
 status:Int
 next:Int
 task:cT
 name:A2P
 cF:Sl
abbrev bS.l(x:bS):List J0:= [J6 J9 x.err,J6 J9 x.status,J6 J9 x.next,J6 J9 x.task.kind,J7 x.task.wid,J6 J9 x.task.ref,J6 J9 x.task.turn,J7 x.name,J4 x.cF.p x.cF.len x.cF.cap]
abbrev bS.c(x:bS):Array J0:= #[J6 J9 x.err,J6 J9 x.status,J6 J9 x.next,J6 J9 x.task.kind,J7 x.task.wid,J6 J9 x.task.ref,J6 J9 x.task.turn,J7 x.name,J4 x.cF.p x.cF.len x.cF.cap]
abbrev bS.v(x:bS):J0:= .agg #[J6 J9 x.err,J6 J9 x.status,J6 J9 x.next,J6 J9 x.task.kind,J7 x.task.wid,J6 J9 x.task.ref,J6 J9 x.task.turn,J7 x.name,J4 x.cF.p x.cF.len x.cF.cap]
abbrev bS.z:bS:=⟨0,0,0,⟨0,⟨#[]⟩,0,0⟩,⟨#[]⟩,⟨none,0,0⟩⟩
abbrev bS.s:List Sc:= [.int J9,.int J9,.int J9,.int J9,.str,.int J9,.int J9,.str,.sl]
abbrev bS.T:Type:=Int×Int×Int×Int×A2P×Int×Int×A2P×Sl×Unit
abbrev bS.t(x:bS):bS.T:=(x.err,x.status,x.next,x.task.kind,x.task.wid,x.task.ref,x.task.turn,x.name,x.cF,())
def IJ(K:bS->Prop):Prop:= ∃a:Int,∃b:Int,∃c:Int,∃d:Int,∃e:A2P,∃f:Int,∃g:Int,∃h:A2P,∃i:Sl,K ⟨a,b,c,⟨d,e,f,g⟩,h,i⟩
theorem IJ.mk {K:bS->Prop}(x:bS)(a:K x):IJ K:=⟨x.err,x.status,x.next,x.task.kind,x.task.wid,x.task.ref,x.task.turn,x.name,x.cF,a⟩
def Fs(b:aa)(a:Q6)(K:bS->Prop):Prop:=
 AC J9 b a λc=>
 AC J9 b (a.add 1) λd=>
 AC J9 b (a.add 2) λe=>
 AC J9 b (a.add 3) λf=>
 AJ b (a.add 4) λg=>
 AC J9 b (a.add 5) λh=>
 AC J9 b (a.add 6) λi=>
 AJ b (a.add 7) λj=>
 AY b (a.add 8) λk=>
 K ⟨c,d,e,⟨f,g,h,i⟩,j,k⟩
theorem Fs.mk {b:aa}{a:Q6}{K:bS->Prop}(x:bS)(c:Cells b a x.l)(d:K x):Fs b a K:=
 ⟨_,by have:=c 0 _ rfl;rwa [add_zero] at this,_,c 1 _ rfl,_,c 2 _ rfl,_,c 3 _ rfl,_,c 4 _ rfl,_,c 5 _ rfl,_,c 6 _ rfl,_,c 7 _ rfl,_,c 8 _ rfl,d⟩
structure gb where
 wait:Int
 q:bZ
 take:Bool
 iw:Bool
abbrev gb.l(x:gb):List J0:= [J6 J9 x.wait,J6 J9 x.q.kind,J7 x.q.bz,J7 x.q.wid,J7 x.q.name,J4 x.q.steps.p x.q.steps.len x.q.steps.cap,J6 J9 x.q.aw,J4 x.q.cD.p x.q.cD.len x.q.cD.cap,J6 J9 x.q.ref,J6 J9 x.q.turn,J6 J9 x.q.aT,J6 J9 x.q.ao,J3 x.q.aC,J3 x.take,J3 x.iw]
abbrev gb.c(x:gb):Array J0:= #[J6 J9 x.wait,J6 J9 x.q.kind,J7 x.q.bz,J7 x.q.wid,J7 x.q.name,J4 x.q.steps.p x.q.steps.len x.q.steps.cap,J6 J9 x.q.aw,J4 x.q.cD.p x.q.cD.len x.q.cD.cap,J6 J9 x.q.ref,J6 J9 x.q.turn,J6 J9 x.q.aT,J6 J9 x.q.ao,J3 x.q.aC,J3 x.take,J3 x.iw]
abbrev gb.v(x:gb):J0:= .agg #[J6 J9 x.wait,J6 J9 x.q.kind,J7 x.q.bz,J7 x.q.wid,J7 x.q.name,J4 x.q.steps.p x.q.steps.len x.q.steps.cap,J6 J9 x.q.aw,J4 x.q.cD.p x.q.cD.len x.q.cD.cap,J6 J9 x.q.ref,J6 J9 x.q.turn,J6 J9 x.q.aT,J6 J9 x.q.ao,J3 x.q.aC,J3 x.take,J3 x.iw]
abbrev gb.z:gb:=⟨0,⟨0,⟨#[]⟩,⟨#[]⟩,⟨#[]⟩,⟨none,0,0⟩,0,⟨none,0,0⟩,0,0,0,0,false⟩,false,false⟩
abbrev gb.s:List Sc:= [.int J9,.int J9,.str,.str,.str,.sl,.int J9,.sl,.int J9,.int J9,.int J9,.int J9,.bool,.bool,.bool]
abbrev gb.T:Type:=Int×Int×A2P×A2P×A2P×Sl×Int×Sl×Int×Int×Int×Int×Bool×Bool×Bool×Unit
abbrev gb.t(x:gb):gb.T:=(x.wait,x.q.kind,x.q.bz,x.q.wid,x.q.name,x.q.steps,x.q.aw,x.q.cD,x.q.ref,x.q.turn,x.q.aT,x.q.ao,x.q.aC,x.take,x.iw,())
structure eL where
 key:A2P
 val:A2P
 ref:Int
 turn:Int
 aC:Bool
abbrev eL.l(x:eL):List J0:= [J7 x.key,J7 x.val,J6 J9 x.ref,J6 J9 x.turn,J3 x.aC]
abbrev eL.c(x:eL):Array J0:= #[J7 x.key,J7 x.val,J6 J9 x.ref,J6 J9 x.turn,J3 x.aC]
abbrev eL.v(x:eL):J0:= .agg #[J7 x.key,J7 x.val,J6 J9 x.ref,J6 J9 x.turn,J3 x.aC]
abbrev eL.z:eL:=⟨⟨#[]⟩,⟨#[]⟩,0,0,false⟩
abbrev eL.s:List Sc:= [.str,.str,.int J9,.int J9,.bool]
abbrev eL.T:Type:=A2P×A2P×Int×Int×Bool×Unit
abbrev eL.t(x:eL):eL.T:=(x.key,x.val,x.ref,x.turn,x.aC,())
end Go.Lf
namespace Go.Lf.G
abbrev AU:bW:= .none
abbrev AO(a b:bW):bW:= .seq a b
def CL:Nat->bW->bW
 |0,x=>x
 |n+1,x=> .seq .none (CL n x)
abbrev Br:bW:=AO AU AU
abbrev Dx:bW:= .cond Br AU
abbrev FQ:bW:= .cond AU AU
abbrev Da:bW:=AO AU Dx
abbrev FR:bW:=AO AU FQ
abbrev FB:bW:=CL 2 AU
abbrev iz:bW:=AO Da Br
abbrev RH:bW:=AO AU iz
abbrev NQ:bW:=CL 2 Dx
abbrev nq:bW:=AO AU (AO FQ (AO (.block NQ) AU))
abbrev pV:bW:=AO AU (AO (AO AU (.block (.loop [(8,.one (.int J9))] [0,1,7] nq))) Br)
abbrev kg:bW:=AO AU (AO FQ (AO (.block Br) AU))
abbrev nv:bW:=AO AU (.cond AU FR)
abbrev lF:bW:=AO AU (.cond AU nv)
abbrev Yi:bW:=CL 3 AU
abbrev pW:bW:= .cond Yi AU
abbrev tG:bW:=CL 3 (AO Da (AO AU (AO Da (AO (AO AU (.cond (CL 4 AU) AU)) (AO AU (AO (AO AU pW) Yi))))))
abbrev nw:bW:=AO AU (AO FQ (AO (.block FB) AU))
abbrev pX:bW:=AO Da AU
abbrev pY:bW:=AO AU (AO FQ (AO (.block (CL 2 pX)) AU))
abbrev pZ:bW:=AO AU (.cond Br Da)
abbrev qa:bW:= .block (AO AU (.cond Br pZ))
abbrev qc:bW:=AO AU (AO FQ (AO (.block (CL 3 Dx)) AU))
abbrev ny:bW:= .block AU
abbrev qd:bW:=AO AU (AO FQ (AO ny AU))
abbrev jG:bW:=AO Da FB
abbrev lG:bW:= .cond FB AU
abbrev km:bW:=CL 2 FQ
abbrev tH:bW:=AO (.bC [(13,.one .bool)] [0,1]) Dx
abbrev tI:bW:=AO (.bC [(19,.one .bool)] [0,1]) Dx
abbrev tJ:bW:=CL 2 (AO Da (CL 4 AU))
abbrev qe:bW:=AO AU pX
theorem Ac {a:al}{f:Q8}{args:List J0}{b:aa}{c:A2O}{d:Prop}(e:bW)(g:d=qi a P f e args b c)(h:d):AA a P f args.toArray b c:=AGX mixed (g▸h)
end Go.Lf.G
