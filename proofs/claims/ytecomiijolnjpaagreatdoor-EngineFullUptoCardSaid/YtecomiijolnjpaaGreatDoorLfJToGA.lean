/-
 LIFT, part J: a function: its formula, its contract.
-/
import Derived.Test.YtecomiijolnjpaaGreatDoorLfAToI
import Derived.Test.YtecomiijolnjpaaGreatDoorProg
import Derived.Laws.FloatArith
import Derived.MapKept
import Derived.Maps.Own
import Derived.Lib.Bytealg
import Derived.Sort.KeysCollected
import Derived.StringKeys
import Derived.Laws.BytesString
import Derived.Laws.BytesArg
import Derived.Laws.StructEq
import Derived.ChangeKeysEq
set_option maxRecDepth 100000
set_option linter.unusedVariables false
set_option linter.unusedSimpArgs false
open Go.IntKind renaming i64→J9,wrap→J8
open Go.Value renaming string→J7,int→J6,pointer→J5,slice→J4,bool→J3,tuple→J1
open Go.Obj renaming cells→J2
open Go renaming Value→J0,Addr→Q6,TypeId→Q7,FuncId→Q8,Program→Q1
open Go.Addr renaming add→Q9,mk→Q5
namespace Go.Lf
def ZB(P:Q1):List ResultVar->Env->aa->(List J0->Prop)->Prop
 | [],_,_,K=>K []
 | .tmp t::r,b,c,K=>match b.get t with|some v=>ZB P r b c λd=>K (v::d)|none=>False
 | .cell a t::r,b,c,K=>match b.get a with
  |some v=>(match v with| .pointer p=>At p λe=>loadT P t c e λv _=>ZB P r b c λd=>K (v::d)|_=>False)
  |none=>False
def oneOf(a:List J0)(K:J0->Prop):Prop:=match a with| [v]=>K v|a=>K (.tuple a.toArray)
def tn(P:Q1)(l:List ResultVar)(a:Env)(b:aa)(K:J0->Prop):Prop:=ZB P l a b λc=>oneOf c K
def pK:List Nat->aa->(aa->Prop)->Prop
 | [],a,K=>K a
 |r::b,a,K=>a[r]? =some (.deferred (some []))/\pK b (a.setIfInBounds r (.deferred none)) K
def lb:Nat->List J0->Nat->Option J0
 |_,[],_=>none
 |i,v::r,t=>bif Nat.beq t i then some v else lb (i+1) r t
def pL(P:Q1)(fn:Func)(c:A2N)(a:Env)(d:aa):Prop:=pK a.ds d λb=>tn P fn.results.toList a b λv=>c v b
def pM(A:al)(P:Q1)(f:Q8)(b:bX)(args:List J0)(d:aa)(a:A2N):Prop:=
 match P.funcs[f]? with
 |none=>False
 |some fn=>match fn.body with
  |none=>False
  |some c=>match Nat.ble args.length fn.ntmps with
   |true=>FL A P fn.ntmps false c b {get:=lb 0 args,ds:= []} d (pL P fn a) (λ_ _ _=>False) (pL P fn a)
   |false=>False
theorem Zn: ∀ {l:List J0} {i t:Nat} {v:J0},lb i l t=some v->i<=t/\l[t-i]? =some v
 | [],_,_,_,a=>by cases a
 |u::r,i,t,v,a=>by
  unfold lb at a;by_cases b:t=i
  ·subst b;have c:Nat.beq t t=true:=by simp
   rw[c,cond_true] at a;exact⟨A0 _,by simpa using a⟩
  ·rw[SK b,cond_false] at a;obtain⟨e,d⟩:=Zn a;refine⟨by omega,?_⟩;have:t-i=(t-(i+1))+1:=by omega
   rw[this,PB];exact d
section
variable {P : Q1} {A : al}
def mR(tmps:Array J0):ResultVar->Sem J0
 | .tmp t=>pure (tmps.getD t undef)
 | .cell x t=>do loadVar t (<- asAddr (tmps.getD x undef))
theorem AJU(fn:Func)(tmps:Array J0):results fn tmps=(do let a <-fn.results.mapM (mR tmps);pure (if b:a.size=1 then a[0] else .tuple a)):=rfl
theorem QP {N:Nat}{a:Act}{j:Env}(d:Fits N a j){e:aa}{n:Nat}: ∀ {l:List ResultVar} {K:List J0->Prop},ZB P l j e K->
  ∃c,(l.mapM (mR a.tmps)).run P (A.at e n)= .ok c (A.at e n)/\K c
 | [],K,b=>⟨[],rfl,b⟩
 | .tmp t::r,K,b=>by
  unfold ZB at b;split at b
  ·rename_i v f;obtain⟨c,g,h⟩:=QP (n:=n) d b;refine⟨v::c,?_,h⟩;have i:a.tmps.getD t undef=v:=by have:=d.get t v f;simp[this]
   rw[PA];simp only[Sem.run_bind,Sem.run_pure,Result.andThen_ok,mR,g,i]
  ·exact b.elim
 | .cell x t::r,K,b=>by
  unfold ZB at b;split at b
  ·rename_i v f;split at b
   ·rename_i p;obtain⟨k,rfl,m⟩:=At.mk b;obtain⟨u,st,o,q,h⟩:=sN (A:=A) m;obtain⟨c,g,s⟩:=QP (n:=n) d h;refine⟨u::c,?_,s⟩;have i:a.tmps.getD x undef= .pointer (some k):=by have:=d.get x _ f;simp[this]
    rw[PA];simp only[Sem.run_bind,Sem.run_pure,Result.andThen_ok,mR,i,asAddr,o e q n,g]
   ·exact b.elim
  ·exact b.elim
theorem AJe {N:Nat}{a:Act}{e:Env}(f:Fits N a e){fn:Func}{c:aa}{n:Nat}{K:J0->Prop}(b:tn P fn.results.toList e c K):
  ∃v,(results fn a.tmps).run P (A.at c n)= .ok v (A.at c n)/\K v:=by
 obtain⟨d,g,b⟩:=QP (A:=A) f (n:=n) b;have h:(results fn a.tmps).run P (A.at c n)= .ok (if i:d.toArray.size=1 then d.toArray[0] else .tuple d.toArray) (A.at c n):=by rw[AJU,Wk];simp only[Sem.run_bind,Sem.run_map,g,Result.andThen_ok,Sem.run_pure]
 refine⟨_,h,?_⟩
 match d,b with
 | [],b=>exact b
 | [v],b=>exact b
 |u::v::r,b=>simpa [oneOf] using b
theorem Zu {fn:Func}{tmps:Array J0}{d:Ending->World->Prop}{K:aa->Prop}(e: ∀a b,K a->LeavesInM (Fw none) 0 P fn tmps d [] .returning (A.at a b)):
  ∀(l:List Nat) (a:aa) (b:Nat),pK l a K->LeavesInM (Fw none) 0 P fn tmps d (l.map ZG) .returning (A.at a b)
 | [],a,b,c=>e a b c
 |r::f,a,b,⟨g,c⟩=>by
  refine⟨by simp,.inl ⟨r,_,rfl,run_takeDeferred (w:=A.at a b) g,?_⟩⟩;exact Zu e f _ b c
theorem AFz(s:P.follows .mixedOrders=true){f:Q8}{m:bX}{args:List J0}{j:aa}{e:A2N}(b:pM A P f m args j e):
  AA A P f args.toArray j e:=by
 intro n;unfold pM at b;split at b
 ·exact b.elim
 ·rename_i fn u;split at b
  ·exact b.elim
  ·rename_i c w;split at b
   ·rename_i o;have o:=Wr o;refine VM.1 (callsIn_of_wp_marks (F:=Fw none) (n:=0) u w trivial ?_);have x:Fits fn.ntmps {tmps:=args.toArray++Array.replicate (fn.ntmps-args.toArray.size) undef,defers:= []} {get:=lb 0 args,ds:= []}:=by refine⟨by simp;omega,λt v k=>?_,rfl⟩;obtain⟨_,g⟩:=Zn k;have y:t<args.length:=(List.getElem?_eq_some_iff.1 (by simpa using g)).1;rw[LS (by simpa using y)];simpa using g
    refine wpIn_mono (AIh s c 0 false none m _ j _ _ _ _ n (λ_=>rfl) b x) ?_;intro z a H B;obtain⟨h,d,i,rfl,p,_,l⟩:=B;have q:pL P fn e h d->LeavesInM (Fw none) 0 P fn a.tmps (λh C=> ∃v,h= .returned v/\ ∃d i,C=A.at d i/\e v d) a.defers .returning (A.at d i):=by intro D;rw[p.ds];refine Zu ?_ h.ds d i D;intro g r E;obtain⟨v,k,G⟩:=AJe (A:=A) p (n:=r) E;exact⟨v,k,v,rfl,g,r,rfl,G⟩
    cases z<;>simp only at l
    ·exact q l
    ·exact q l
   ·exact b.elim
end
def GG(c:IntKind)(a b:Int):Int:=c.wrap ((BitVec.ofInt c.bits a &&& BitVec.ofInt c.bits b).toNat:Int)
def dY(c:IntKind)(a b:Int):Int:=c.wrap ((BitVec.ofInt c.bits a ||| BitVec.ofInt c.bits b).toNat:Int)
def YI(c:IntKind)(a b:Int):Int:=c.wrap ((BitVec.ofInt c.bits a ^^^ BitVec.ofInt c.bits b).toNat:Int)
end Go.Lf
namespace Go.Lf.G
noncomputable abbrev P:Q1:=Go.Proofs.Tryz.prog
def Ja:Q8:=4
def JN:Q8:=6
def F3:Q8:=7
def IL:Q8:=8
def Ao:Q8:=9
def H7:Q8:=12
def Ih:Q8:=13
def Cc:Q8:=14
def DW:Q8:=15
def LQ:Q8:=16
def Im:Q8:=18
def Iw:Q8:=20
def G9:Q8:=21
def Ij:Q8:=22
def Gb:Q8:=23
def Eu:Q8:=24
def RD:Q8:=26
def YX:Q8:=27
def Oq:Q8:=28
def Ej:Q8:=29
def JX:Q8:=30
def MP:Q8:=31
def Mq:Q8:=32
def GV:Q8:=33
def Dp:Q8:=34
def KR:Q8:=35
def LV:Q8:=36
def Jd:Q8:=37
def CE:Q8:=38
def Au:Q8:=39
def FW:Q8:=44
def JG:Q8:=45
def LU:Q8:=46
def Mm:Q8:=47
def Ny:Q8:=48
def O8:Q8:=49
def JR:Q8:=50
def Fx:Q8:=51
def Eo:Q8:=52
def OZ:Q8:=53
def HY:Q8:=54
def Fu:Q8:=55
def NM:Q8:=56
def DI:Q8:=57
def O7:Q8:=59
def Q3:Q8:=60
def Bu:Q8:=61
def KW:Q8:=62
def G7:Q8:=63
def KD:Q8:=64
def FO:Q8:=65
def Nn:Q8:=66
def KS:Q8:=67
def Eg:Q8:=68
def Bh:Q8:=69
def Ad:Q8:=70
def CO:Q8:=71
def NI:Q8:=72
def Oz:Q8:=75
def TY:Q8:=76
def JL:Q8:=77
def Qr:Q8:=78
def Jc:Q8:=79
def JW:Q8:=80
def Dk:Q8:=81
def DF:Q8:=82
def DX:Q8:=83
def LP:Q8:=84
def Qn:Q8:=85
def PQ:Q8:=86
def Qw:Q8:=87
def Nc:Q8:=88
def TQ:Q8:=89
def GR:Q8:=90
def Jg:Q8:=91
def NK:Q8:=92
def MW:Q8:=93
def KI:Q8:=94
def KU:Q8:=95
def QQ:Q8:=96
def PZ:Q8:=97
def Ie:Q8:=98
def Iq:Q8:=99
def NG:Q8:=100
def IV:Q8:=101
def Gc:Q8:=102
def PL:Q8:=103
def Jf:Q8:=104
def Nr:Q8:=105
def O0:Q8:=106
def KY:Q8:=107
def Oe:Q8:=108
def KL:Q8:=109
def IX:Q8:=110
def FP:Q8:=111
def GM:Q8:=112
def Qh:Q8:=113
def Ka:Q8:=116
def Mv:Q8:=117
def RA:Q8:=118
def Il:Q8:=119
def Hm:Q8:=120
def SS:Q8:=121
def DZ:Q8:=122
def Cn:Q8:=123
def RP:Q8:=124
def Cz:Q8:=125
def IA:Q8:=126
def KO:Q8:=127
def P6:Q8:=128
def Uz:Q8:=129
def FX:Q8:=130
def Om:Q8:=131
def JZ:Q8:=132
def GQ:Q8:=133
def KJ:Q8:=134
def Jo:Q8:=135
def KV:Q8:=136
def GL:Q8:=137
def Nv:Q8:=138
def KQ:Q8:=139
def Q4:Q8:=140
def KT:Q8:=141
def TN:Q8:=142
def EM:Q8:=143
def Gn:Q8:=144
def JE:Q8:=145
def R5:Q8:=146
def CV:Q8:=147
def Je:Q8:=148
def Nl:Q8:=149
def Qi:Q8:=150
def N7:Q8:=151
def CU:Q8:=152
def I5:Q8:=153
def G6:Q8:=154
def OX:Q8:=155
def Ue:Q8:=156
def KH:Q8:=157
def Oy:Q8:=158
def IG:Q8:=159
def Qv:Q8:=160
def Ig:Q8:=161
def Pi:Q8:=162
def Qx:Q8:=163
def KN:Q8:=165
def Ff:Q8:=166
def Bt:Q8:=167
def IW:Q8:=170
def Gp:Q8:=171
def Gx:Q8:=172
def JK:Q8:=173
def Ml:Q8:=174
def Cs:Q8:=175
def BK:Q8:=176
def Cv:Q8:=177
def JY:Q8:=178
def I1:Q8:=179
def JJ:Q8:=180
def Cy:Q8:=181
def Jn:Q8:=182
def Ii:Q8:=183
def PS:Q8:=184
def MZ:Q8:=185
def Mj:Q8:=186
def De:Q8:=192
def F9:Q8:=194
def NE:Q8:=195
def Oj:Q8:=196
def Ew:Q8:=200
def SV:Q8:=206
def PG:Q8:=207
def Ct:Q8:=208
def Dv:Q8:=209
def Ey:Q8:=210
def GK:Q8:=211
def IR:Q8:=212
def O5:Q8:=213
def DT:Q8:=240
def NA:Q8:=241
def NJ:Q8:=242
def DJ:Q8:=268
def t_:Q7:=0
def BQ:Q7:=3
def pQ:Q7:=4
def Co:Q7:=5
def Ar:Q7:=9
def GJ:Q7:=30
def Ee:Q7:=32
def GD:Q7:=35
def Qa:Q7:=40
def Dh:Q7:=41
def BB:Q7:=43
def Iu:Q7:=52
def Dy:Q7:=53
def DN:Q7:=54
def Aq:Q7:=56
def Bg:Q7:=58
def BD:Q7:=65
def Cu:Q7:=68
def BU:Q7:=69
def Bp:Q7:=74
def AR:Q7:=78
def Gf:Q7:=90
def Xm:Q7:=112
def AQ:Q7:=118
def MK:Q7:=128
def ZQ:Q7:=136
def CG:Q7:=142
def YP:Q7:=144
def FI:Q7:=145
def EO:Q7:=146
def Ql:Q7:=148
def Fz:Q7:=170
def ADM:Q7:=180
def Am:Q7:=181
def El:Q7:=183
def BI:Q7:=186
def CF:Q7:=189
def Ut:Q7:=203
def Be:Q7:=209
def Dm:Q7:=222
def QO:Q7:=224
def LZ:Q7:=228
def Yx:Q7:=237
def Zo:Q7:=239
def tE:Q7:=240
def Vq:Q7:=242
def mV:Q7:=246
def Li:Q7:=257
def A9:Q7:=260
def I4:Q7:=279
def EC:Q7:=290
def SC:Q7:=346
def ED:Q7:=353
def Ei:Q7:=355
theorem mixed:P.follows .mixedOrders=true:=by decide +kernel
end Go.Lf.G
namespace Go.Lf
theorem add_add(a:Q6)(m b:Nat):(a.add m).add b=a.add (m+b):=by
 unfold Addr.add;by_cases c:m=0
 ·subst c;simp
 ·by_cases d:b=0
  ·subst d;simp[c]
  ·have:m+b≠0:=by omega
   simp[c,d,Ge]
theorem add_zero(a:Q6):a.add 0=a:=by simp[Addr.add]
theorem aM(a:Q6)(b:Nat):(a.add b).block=a.block:=by unfold Addr.add;split<;>rfl
theorem Bb(b c a:Nat):(⟨b,c,none⟩:Q6).add a=⟨b,c+a,none⟩:=by unfold Addr.add;by_cases d:a=0<;>simp[d]
structure Mod (S:Nat->Prop) (h h':aa):Prop where
 size:h.size<=h'.size
 get: ∀b,b<h.size-> ¬S b->h'[b]? =h[b]?
abbrev Ext:=Mod (λ_=>False)
theorem Mod.refl {b:Nat->Prop}{a:aa}:Mod b a a:=⟨A0 _,λ_ _ _=>rfl⟩
theorem Mod.trans {d:Nat->Prop}{e f g:aa}(a:Mod d e f)(b:Mod d f g):Mod d e g:=
 ⟨AF a.size b.size,λc h i=>(b.get c (GC h a.size) i).trans (a.get c h i)⟩
theorem Mod.ai {e S':Nat->Prop}{d f:aa}(a:Mod e d f)(h: ∀b,b<d.size->e b->S' b):Mod S' d f:=⟨a.size,λc g i=>a.get c g λd=>i (h c g d)⟩
theorem Ext.mod {d:Nat->Prop}{b c:aa}(a:Ext b c):Mod d b c:=a.ai λ_ _ b=>b.elim
theorem Mod.then {e:Nat->Prop}{d f g:aa}(a:Mod e d f)(b:Mod (λc=>e c\/d.size<=c) f g):Mod e d g:=
 ⟨AF a.size b.size,λc h i=>(b.get c (GC h a.size) (λd=>d.elim i (λd=>by omega))).trans (a.get c h i)⟩
theorem Mod.push {d:Nat->Prop}(a:aa)(e:Obj):Mod d a (a.push e):=
 ⟨by simp,λb c _=>by rw[PC c];simp[c]⟩
theorem Mod.af {c:Nat->Prop}{d e:aa}(a:Mod c d e){b:Nat}{f:Obj}(g:d[b]? =some f)(h: ¬c b):e[b]? =some f:=
 (a.get b (Array.getElem?_eq_some_iff.1 g).1 h).trans g
theorem Af {a:aa}{b:Nat}{c:Obj}(d:a[b]? =some c):b<a.size:=(Array.getElem?_eq_some_iff.1 d).1
theorem Tt {b:aa}{a:Q6}{v:J0}(c:ag b a=some v):a.block<b.size:=by
 unfold ag at c;cases d:b[a.block]? with
 |none=>rw[d] at c;cases c
 |some e=>exact Af d
theorem Pk {b c:aa}{a:Q6}(d:c[a.block]? =b[a.block]?):ag c a=ag b a:=by unfold ag;rw[d]
theorem Mod.ag {b:Nat->Prop}{c d:aa}(m:Mod b c d){a:Q6}{v:J0}(e:ag c a=some v)(f: ¬b a.block):Lf.ag d a=some v:=
 (Pk (m.get _ (Tt e) f)).trans e
theorem Ext.ag {b c:aa}(m:Ext b c){a:Q6}{v:J0}(d:Lf.ag b a=some v):Lf.ag c a=some v:=Mod.ag m d (λb=>b)
theorem Gy {a:aa}{b c:Nat}{d:Array J0}{T:Q7}{fr:Nat×Nat}(e:a[b]? =some (.cells d T fr)):ag a ⟨b,c,none⟩=d[c]? :=by simp[ag,e]
theorem OO {a:aa}{b c:Nat}{d:Array J0}{T:Q7}(e:a[b]? =some (.cells d T (0,0))):fT a ⟨b,c,none⟩=false:=by simp[fT,e]
theorem tq {a:aa}{b c:Nat}{d:Array J0}{T:Q7}{fr:Nat×Nat}{v:J0}(e:a[b]? =some (.cells d T fr)):
  (cZ a ⟨b,c,none⟩ v)[b]? =some (.cells (d.setIfInBounds c v) T fr):=by
 simp[cZ,GO,e]
theorem AJZ {b:aa}{a:Q6}{v:J0}{c:Nat}(d:c≠a.block):(cZ b a v)[c]? =b[c]? :=by simp[cZ,GO,Ne.symm d]
theorem Yd {b:aa}{a:Q6}{v:J0}:(cZ b a v).size=b.size:=by simp[cZ]
theorem Mod.set {S:Nat->Prop}{b:aa}{a:Q6}{v:J0}(c:S a.block):Mod S b (cZ b a v):=
 ⟨by rw[Yd];exact A0 _,λ_ _ d=>AJZ (λe=>d (e▸c))⟩
theorem ak.mk {a:aa}{c:Obj}{K:Nat->aa->Prop}(d: ∀b,b=a.push c->b[a.size]? =some c->Ext a b->b.size=a.size+1->K a.size b):ak a c K:=
 d _ rfl (by simp) (Mod.push a c) (by simp)
theorem ab.mk {a:aa}{b c:Nat}{v:J0}{d:Array J0}{T:Q7}{K:aa->Prop}(f:a[b]? =some (.cells d T (0,0)))(g:c<d.size)
  (h: ∀e,e[b]? =some (.cells (d.setIfInBounds c v) T (0,0))->Mod (· =b) a e->e.size=a.size->K e):ab a ⟨b,c,none⟩ v K:=
 ⟨⟨d[c],by rw[Gy f];simp[g]⟩,OO f,h _ (tq f) (Mod.set rfl) Yd⟩
theorem ae.intro {b:Bool}{a c:Prop}(d:b=true->a)(e:b=false->c):ae b a c:=by
 cases b
 ·exact e rfl
 ·exact d rfl
theorem ae.yes {b:Bool}{a c:Prop}(d:b=true)(e:a):ae b a c:=by subst d;exact e
theorem ae.no {b:Bool}{c a:Prop}(d:b=false)(e:a):ae b c a:=by subst d;exact e
theorem bC.mk {p:Q2}{len:Nat}{a:Q6}{k:Nat}{K:Q6->Prop}(b:p=some a)(d:k<len)(c:K a):bC p len (k:Int) K:=
 ⟨a,b,⟨by omega,by omega⟩,c⟩
theorem Xq.mk {b:Bool}{K:Prop}(a:b=true)(c:K):Xq b K:=by subst a;exact c
theorem ah.mk {a:Type}{b:a->aa->Prop}{body:(a->aa->Prop)->Prop}(d: ∀K:a->aa->Prop,(∀ x c,b x c->K x c)->body K):ah b body:=d
theorem EH.func {A:al}{P:Q1}{f:Q8}{first bT args:Array J0}{h:aa}{R:A2N}
  (c:(callFunc f (first++args++bT)).calc P=some (.enter f (first++args++bT))) (d:AA A P f (first++args++bT) h R):EH A P (.func (.func f) first bT) args h R:=by
 intro a;have e:=Jq c (A.at h a);have g:(do let b <-Deferred.ofValue (.func (.func f) first bT) args;invoke b.target b.args:Sem Next).run P (A.at h a)= .ok (.enter f (first++args++bT)) (A.at h a):=by simp only[Deferred.ofValue,Sem.run_bind,Sem.run_pure,Result.andThen_ok,invoke];exact e
 rw[g];exact d a
structure cy (α:Type) where
 enc:α->List J0
 w:Nat
 len: ∀x,(enc x).length=w
 pos:0<w
 one: ∀x v,v∈enc x->LA v=true
variable {α : Type}
def Cells(c:aa)(a:Q6)(d:List J0):Prop:= ∀b v,d[b]? =some v->ag c (a.add b)=some v
theorem Cells.mod {b:Nat->Prop}{d e:aa}{a:Q6}{f:List J0}(c:Cells d a f)(m:Mod b d e)(g: ¬b a.block):Cells e a f:=
 λh v i=>m.ag (c h v i) (by rw[aM];exact g)
structure View (E:cy α) (h:aa) (s:Sl) (l:List α):Prop where
 len:s.len=l.length
 cap:s.len<=s.cap
 cells: ∀i x,l[i]? =some x-> ∃a,s.p=some a/\Cells h (a.add (i*E.w)) (E.enc x)
def Sl.af(s:Sl):Option Nat:=s.p.map (·.block)
theorem View.mod {c:cy α}{d:Nat->Prop}{e f:aa}{s:Sl}{l:List α}(v:View c e s l)(m:Mod d e f)(h: ∀b,s.af=some b-> ¬d b):View c f s l:=
 ⟨v.len,v.cap,λi x j=>let ⟨a,g,k⟩:=v.cells i x j;⟨a,g,k.mod m (by rw[aM];exact h _ (by simp[Sl.af,g]))⟩⟩
theorem View.ext {b:cy α}{a c:aa}{s:Sl}{l:List α}(v:View b a s l)(m:Ext a c):View b c s l:=v.mod m λ_ _ a=>a
theorem View.nil {b:cy α}{a:aa}:View b a ⟨none,0,0⟩ []:=⟨rfl,A0 _,λ_ _ a=>by simp at a⟩
structure Own (E:cy α) (T:Q7) (h:aa) (s:Sl) (l:List α):Prop where
 len:s.len=l.length
 row:(s=⟨none,0,0⟩/\l= [])\/ ∃g cur,s.p=some ⟨g,0,none⟩/\h[g]? =some (.cells cur T (0,0))/\s.len<=s.cap/\s.cap<=maxLen/\cur.size=s.cap*E.w/\cur.toList.take (s.len*E.w)=l.flatMap E.enc
theorem Own.nil {a:cy α}{T:Q7}{b:aa}:Own a T b ⟨none,0,0⟩ []:=⟨rfl,.inl ⟨rfl,rfl⟩⟩
theorem dv {E:cy α}: ∀ {l:List α} {i:Nat} {x:α},l[i]? =some x-> ∀a v,(E.enc x)[a]? =some v->(l.flatMap E.enc)[i*E.w+a]? =some v
 | [],i,x,b,_,_,_=>by simp at b
 |y::l,0,x,b,a,v,c=>by
  simp at b;subst b;rw[AH,HL,AI,E0 (List.getElem?_eq_some_iff.1 c).1];exact c
 |y::l,i+1,x,b,a,v,c=>by
  have d:=dv (E:=E) (l:=l) (i:=i) (by simpa using b) a v c;rw[AH,DB (by rw[E.len,BE];omega),E.len];rw[show(i+1)*E.w+a-E.w=i*E.w+a by rw[BE];omega];exact d
theorem JU {E:cy α}: ∀ {l:List α},(l.flatMap E.enc).length=l.length*E.w
 | []=>by simp
 |x::l=>by rw[AH,A1,JU,E.len,A5,BE];omega
theorem Own.view {E:cy α}{T:Q7}{a:aa}{s:Sl}{l:List α}(b:Own E T a s l):View E a s l:=by
 rcases b.row with⟨rfl,rfl⟩|⟨g,m,c,d,e,_,n,f⟩
 ·exact View.nil
 ·refine⟨b.len,e,λi x h=>⟨_,c,λj v k=>?_⟩⟩;have:=dv (E:=E) h j v k;rw[<- f,Fl] at this;split at this
  ·rw[add_add,Bb,Gy d];simpa using this
  ·cases this
theorem Own.mod {a:cy α}{T:Q7}{c:Nat->Prop}{d e:aa}{s:Sl}{l:List α}(f:Own a T d s l)(m:Mod c d e)(i: ∀b,s.af=some b-> ¬c b):Own a T e s l:=by
 refine⟨f.len,?_⟩;rcases f.row with j|⟨g,k,h,n,rest⟩
 ·exact .inl j
 ·exact .inr ⟨g,k,h,m.af n (i g (by simp[Sl.af,h])),rest⟩
theorem Own.ext {b:cy α}{T:Q7}{a c:aa}{s:Sl}{l:List α}(d:Own b T a s l)(m:Ext a c):Own b T c s l:=d.mod m λ_ _ a=>a
theorem Own.lit {E:cy α}{T:Q7}{c:aa}{b:Nat}{l:List α}{a:Array J0}(e:c[b]? =some (.cells a T (0,0)))(d:a.toList=l.flatMap E.enc)(f:l.length<=maxLen):
  Own E T c ⟨some ⟨b,0,none⟩,l.length,l.length⟩ l:=by
 have g:a.size=l.length*E.w:=by rw[<- F0,d,JU]
 exact⟨rfl,.inr ⟨b,a,rfl,e,A0 _,f,g,by rw[d];exact AG (by rw[JU];exact A0 _)⟩⟩
def PO(P:Q1)(t T:Q7)(a b:Nat):Bool:=
 match P.underlying t with
 |some (.slice c)=>Nat.beq c T&&match P.info? T with
  |some i=>Nat.beq i.size a&&Nat.beq i.bytes b&&match i.zero with
   |some z=>Nat.beq z.cells.size a
   |none=>false
  |none=>false
 |_=>false
theorem Yy {P:Q1}{t T:Q7}{b c:Nat}(a:PO P t T b c=true):
  P.underlying t=some (.slice T)/\ ∃i z,P.info? T=some i/\i.zero=some z/\i.size=b/\i.bytes=c/\z.cells.size=b:=by
 unfold PO at a;split at a
 ·rename_i h d;split at a
  ·rename_i i e;split at a
   ·rename_i z f;simp only[A3,Nat.beq_eq] at a;obtain⟨rfl,⟨rfl,rfl⟩,g⟩:=a;exact⟨d,i,z,e,f,rfl,rfl,g⟩
   ·simp at a
  ·simp at a
 ·simp at a
theorem tt {A:al}{b a:World}{h:aa}{n:Nat}(c:b=A.at h n)(d:a.os=b.os)(e:a.tape=b.tape)(f:a.output=b.output):a=A.at a.heap a.drawn:=by
 subst c;cases a;simp only[al.at] at*
 simp[d,e,f]
theorem OY {v:J0}(a:LA v=true):v.oneCell'=true:=by cases v<;>first|rfl|(simp[LA] at a)
theorem Own.kC {a:cy α}{T:Q7}{A:al}{b:aa}{s:Sl}{l:List α}{n:Nat}(c:Own a T b s l):(A.at b n).ownsRow 0 T a.w (.slice s.p s.len s.cap) s.len (l.flatMap a.enc):=by
 refine⟨by rw[JU,c.len],?_⟩;rcases c.row with⟨rfl,rfl⟩|⟨g,d,e,f,h,i,j,k⟩
 ·exact .inl ⟨rfl,rfl⟩
 ·exact .inr ⟨g,s.cap,d,by rw[e],As _,f,h,i,j,k⟩
theorem AGv {a:cy α}{T:Q7}{c:World}{v:J0}{b:Nat}{l:List α}(d:c.ownsRow 0 T a.w v b (l.flatMap a.enc))(e:b=l.length):
  ∃s:Sl,v= .slice s.p s.len s.cap/\Own a T c.heap s l/\(v= .slice none 0 0->s=⟨none,0,0⟩):=by
 rcases d.2 with⟨rfl,p⟩|⟨g,f,h,rfl,_,i,j,k,m,n⟩
 ·have:l= []:=CC (by omega);subst this;exact⟨⟨none,0,0⟩,rfl,Own.nil,λ_=>rfl⟩
 ·refine⟨⟨some ⟨g,0,none⟩,b,f⟩,rfl,⟨e,.inr ⟨g,h,rfl,i,j,k,m,n⟩⟩,λo=>by cases o⟩
theorem GI {A:al}{P:Q1}{E:cy α}{t p T:Q7}{M:Nat}(am:PO P t T E.w M=true){d:aa}{s src:Sl}{l m:List α}{K:Sl->aa->Prop}
  (h:Own E T d s l) (N:View E d src m) (j:(l.length+m.length)*M<=140737488355328) (W:l.length+m.length<=maxLen)
  (X: ∀f B,Own E T B f (l++m)->Mod (λb=>s.af=some b) d B->(∀ b,f.af=some b->s.af=some b\/d.size<=b)->(f.p=none↔s.p=none/\m= [])->K f B):
  BF A P (Builtin.append_ #[t,t] p #[.slice s.p s.len s.cap,.slice src.p src.len src.cap]) d λv B=> ∃f:Sl,v= .slice f.p f.len f.cap/\K f B:=by
 obtain⟨q,i,z,r,O,G,hB,an⟩:=Yy am;intro n;have Q:=N.len;by_cases R:m= []
 ·subst R;simp only[Ft,AM,G4] at*
  have ao:(Builtin.append_ #[t,t] p #[.slice s.p s.len s.cap,.slice src.p src.len src.cap]).run P (A.at d n)= .ok (.slice s.p s.len s.cap) (A.at d n):=by
   have S:s.len<=s.cap:=h.view.cap;have w: ∀U:World,(Builtin.firstCells i.size 0 (.slice src.p 0 src.cap)).run P U= .ok #[] U:=by intro U;cases src.p<;>simp[Builtin.firstCells,loadCells,loadCellsFrom]
   cases o:s.p with
   |none=>simp[Builtin.append_,BJ q,run_sizeOf r,Builtin.lenOf,Q,S,w]
   |some a=>simp[Builtin.append_,BJ q,run_sizeOf r,Builtin.lenOf,Q,S,w,storeCells]
  exact⟨_,d,n,ao,s,rfl,X s d h Mod.refl (λb j=> .inl j) (by simp)⟩
 ·have Y:0<m.length:=List.length_pos_iff.2 R;obtain⟨a,Z,_⟩:=N.cells 0 m[0] (by simp[Y]);have H: ∀e u,(m.flatMap E.enc)[e]? =some u->(A.at d n).cell? (a.add e)=some u:=by
   intro e u ab;have ap:e<m.length*E.w:=by rw[<- JU (E:=E)];exact(List.getElem?_eq_some_iff.1 ab).1
   have aq:e / E.w<m.length:=Nat.div_lt_of_lt_mul (by rw[CT];exact ap);have k:e % E.w<E.w:=Cp _ E.pos;have I:m[e / E.w]? =some m[e / E.w]:=by simp[aq]
   have ac:e % E.w<(E.enc m[e / E.w]).length:=by rw[E.len];exact k
   have w:=dv (E:=E) I (e % E.w) _ (A2 ac);have ad:e / E.w*E.w+e % E.w=e:=Nat.div_add_mod' e E.w;rw[ad,ab] at w;obtain⟨aF,ae,ar⟩:=N.cells _ _ I;rw[Z] at ae;cases ae;have:=ar (e % E.w) _ (A2 ac);rw[add_add,ad] at this;rw[C5] at w;rw[w];exact this
  have J: ∀u∈m.flatMap E.enc,u.oneCell'=true:=by intro u au;obtain⟨x,_,I⟩:=List.mem_flatMap.1 au;exact OY (E.one x u I)
  obtain⟨af,y,k,ag,C,aG⟩:=run_append_own (P:=P) (A.at d n) 0 t p T i z E.w M q r O G hB an E.pos (.slice s.p s.len s.cap) s.len (l.flatMap E.enc) h.kC a m.length src.cap (m.flatMap E.enc)
   (by rw[JU]) H J (by rw[h.len];exact W) (by rw[h.len];exact j) (As _)
  rw[<- GB] at ag;obtain⟨f,V,av,aH⟩:=AGv ag (by rw[h.len,A1]);have aw:y=A.at y.heap y.drawn:=tt rfl C.os C.tape C.output;have L:(m.flatMap E.enc).length=m.length*i.size:=by rw[JU,G]
  have ah:((s.len+m.length:Nat):Int)<=9223372036854775807:=by have:=W;simp only[maxLen] at this;rw[h.len];omega
  have ai:(s.len+m.length)*i.bytes<=140737488355328:=by rw[h.len,hB];exact j
  have ax: ∃g c,af= .slice (some ⟨g,0,none⟩) (s.len+m.length) c/\(s.af=some g\/g=d.size):=by
   rcases h.row with⟨rfl,rfl⟩|⟨g,ay,o,az,S,aI,aA,aJ⟩
   ·have D:=run_append_nil (P:=P) (A.at d n) t p T i z q r O a m.length src.cap (m.flatMap E.enc) L H Y (by simpa using ah) (by have:=ai;simp only[AI] at this;omega);rw[D] at k;cases k;exact⟨d.size,_,by rw[AI];rfl,.inr rfl⟩
   ·by_cases aj:s.len+m.length<=s.cap
    ·have D:=run_append_room (P:=P) (A.at d n) t p T i q r g s.len s.cap ay az a m.length src.cap (m.flatMap E.enc) L H J aj (by rw[L,aA,<-G,<-BE];exact AS _ aj);rw[o,D] at k;cases k;exact⟨g,_,rfl,.inl (by simp[Sl.af,o])⟩
    ·have D:=run_append_grow (P:=P) (A.at d n) t p T i z q r O ⟨g,0,none⟩ s.len s.cap (l.flatMap E.enc) (by rw[JU,h.len,G])
      (h.kC (A:=A) (n:=n) |>.cells (g:=g) (by simp[Value.ownBlock,o])) a m.length src.cap (m.flatMap E.enc) L H (by omega) ah (growslice_fits (by omega) ai)
     rw[o,D] at k;cases k;exact⟨d.size,_,rfl,.inr rfl⟩
  obtain⟨g,c,aC,aD⟩:=ax;have ak:f.p=some ⟨g,0,none⟩:=by rw[aC] at V;injection V with J _ _;exact J.symm
  refine⟨af,y.heap,y.drawn,?_,f,V,X f y.heap av ⟨C.size,?_⟩ ?_ ?_⟩
  ·rw[Z,Q,<-aw];exact k
  ·intro b j aE;refine C.block b j ?_;intro F;apply aE;unfold Sl.af;cases o:s.p with
   |none=>rw[o] at F;simp[Value.ownBlock] at F
   |some a=>rw[o] at F;simp[Value.ownBlock] at F;simp[F]
  ·intro b j;simp[Sl.af,ak] at j;subst j;rcases aD with d|d
   ·exact .inl d
   ·exact .inr (by omega)
  ·rw[ak];simp[R]
theorem Loop.rule {b:Type}{g:(b->aa->Prop)->b->aa->Prop}(d:Nat->b->aa->Prop)
  (step: ∀K m x a,d m x a->(∀ c e f,c<m->d c e f->K e f)->g K x a) {m:Nat} {x:b} {a:aa} (h:d m x a):Loop g x a:=by
 intro K i
 induction m using Nat.strongRecOn generalizing x a with
 |_ m j=>exact i _ _ (step K m x a h λc e f k l=>j c k l)
theorem F5 {a:Nat}(c:a<=9223372036854775807):J8 J9 (a:Int)=(a:Int):=by
 simp only[J8,IntKind.bits,IntKind.signed];have b:((a:Int)) % ((2:Int)^64)=a:=by omega
 have d: ¬((a:Int)>=(2:Int)^(64-1)):=by omega
 simp only[b];simp;omega
theorem Aa {a:Nat}(b:a<9223372036854775807):J8 J9 ((a:Int)+(1:Int))=((a+1:Nat):Int):=by rw[show((a:Int)+1)=((a+1:Nat):Int) by omega];exact F5 b
theorem RI.mk {b:aa}{a:Q6}{K:J0->Prop}{v:J0}(c:ag b a=some v)(d:K v):RI b a K:=⟨v,c,d⟩
theorem AC.mk {b:aa}{a:Q6}{k:IntKind}{K:Int->Prop}{n:Int}(c:ag b a=some (.int k n))(d:K n):AC k b a K:=⟨n,c,d⟩
theorem Ab.mk {b:aa}{a:Q6}{K:Bool->Prop}{n:Bool}(c:ag b a=some (J3 n))(d:K n):Ab b a K:=⟨n,c,d⟩
theorem AJ.mk {b:aa}{a:Q6}{K:A2O->Prop}{n:A2O}(c:ag b a=some (J7 n))(d:K n):AJ b a K:=⟨n,c,d⟩
theorem AZ.mk {b:aa}{a:Q6}{K:Q2->Prop}{n:Q2}(c:ag b a=some (J5 n))(d:K n):AZ b a K:=⟨n,c,d⟩
theorem AY.mk {b:aa}{a:Q6}{K:Sl->Prop}{s:Sl}(c:ag b a=some (J4 s.p s.len s.cap))(d:K s):AY b a K:=⟨s,c,d⟩
theorem AL {a:aa}{b c:Nat}{d:Array J0}{T:Q7}{fr:Nat×Nat}{v:J0}(e:a[b]? =some (J2 d T fr))(f:d[c]? =some v):ag a ⟨b,c,none⟩=some v:=by rw[Gy e];exact f
theorem AB {a:aa}{b c:Nat}{d:Array J0}{T:Q7}{fr:Nat×Nat}{v:J0}(e:a[b]? =some (J2 d T fr))(f:d[c]? =some v):ag a ((⟨b,0,none⟩:Q6).add c)=some v:=by rw[Bb,AI];exact AL e f
structure Pr where
 key:A2O
 val:A2O
 gone:Bool
deriving DecidableEq
def Pr.agg(x:Pr):J0:= .agg #[J7 x.key,J7 x.val,J3 x.gone]
def Pr.cells(x:Pr):Array J0:= #[J7 x.key,J7 x.val,J3 x.gone]
def Ba:cy Pr where
 enc x:= [J7 x.key,J7 x.val,J3 x.gone]
 w:=3
 len _:=rfl
 pos:=by omega
 one x v a:=by simp at a;rcases a with rfl|rfl|rfl<;>rfl
def gY:cy Sl where
 enc s:= [J4 s.p s.len s.cap]
 w:=1
 len _:=rfl
 pos:=by omega
 one x v a:=by simp at a;subst a;rfl
structure gZ where
 v:J0
 one:LA v=true
def jv:cy gZ where
 enc s:= [s.v]
 w:=1
 len _:=rfl
 pos:=by omega
 one x v a:=by simp at a;subst a;exact x.one
theorem View.idx {b:Type}{c:cy b}{d:aa}{s:Sl}{l:List b}(v:View c d s l){i:Nat}{x:b}(e:l[i]? =some x){K:Q6->Prop}
  (g: ∀a,s.p=some a->Cells d (a.add (i*c.w)) (c.enc x)->K a):bC s.p s.len ((i:Nat):Int) K:=by
 obtain⟨a,f,h⟩:=v.cells i x e;have:i<s.len:=by rw[v.len];exact(List.getElem?_eq_some_iff.1 e).1
 exact bC.mk f this (g a f h)
theorem Cells.pair {b:aa}{a:Q6}{x:Pr}(c:Cells b a (Ba.enc x)):ag b a=some (J7 x.key)/\ag b (a.add 1)=some (J7 x.val)/\ag b (a.add 2)=some (J3 x.gone):=by have d:=c 0 _ rfl;rw[add_zero] at d;exact⟨d,c 1 _ rfl,c 2 _ rfl⟩
theorem Cells.sl {b:aa}{a:Q6}{x:Sl}(c:Cells b a (gY.enc x)):ag b a=some (J4 x.p x.len x.cap):=by have d:=c 0 _ rfl;rwa [add_zero] at d
theorem Cells.val {b:aa}{a:Q6}{x:gZ}(c:Cells b a (jv.enc x)):ag b a=some x.v:=by have d:=c 0 _ rfl;rwa [add_zero] at d
theorem ak.pair {a:aa}{T:Q7}{j k:A2O}{l:Bool}{d v:A2O}{g:Bool}{K:Nat->aa->Prop}
  (n: ∀b c,b=a.size->c[b]? =some (J2 #[J7 d,J7 v,J3 g] T (0,0))->Ext a c->c.size=a.size+1->K b c):
  ak a (J2 #[J7 j,J7 k,J3 l] T) λb e=>ab e ⟨b,0,none⟩ (J7 d) λf=>ab f ((⟨b,0,none⟩:Q6).add 1) (J7 v) λh=>ab h ((⟨b,0,none⟩:Q6).add 2) (J3 g) λi=>K b i:=by
 refine ak.mk λe _ o p y=>?_
 refine ab.mk o (by simp) λf q r z=>?_
 rw[Bb,Bb];refine ab.mk q (by simp) λh s t A=>?_
 refine ab.mk s (by simp) λi u w B=>?_
 refine n _ _ rfl (by simpa using u) ?_ (by omega);have m:=(r.trans t).trans w;exact⟨by omega,λb x _=>(m.get b (by omega) (by omega)).trans (p.get b x (by simp))⟩
theorem ak.aZ {k:al}{P:Q1}{t m T:Q7}{g:Nat}{e:Type}{E:cy e}{x:e}{h:Array J0}(n:h.toList=E.enc x)(o:PO P t T E.w g=true){d:aa}{s:Sl}{l:List e}{K:Sl->aa->Prop}
  (p:Own E T d s l) (q:(l.length+1)*g<=140737488355328) (r:l.length+1<=maxLen)
  (u: ∀a c,Own E T c a (l++ [x])->Mod (λb=>s.af=some b) d c->(∀ b,a.af=some b->s.af=some b\/d.size<=b)->a.p≠none->K a c):
  ak d (J2 h T) λb f=>BF k P (Builtin.append_ #[t,t] m #[J4 s.p s.len s.cap,J4 (some ⟨b,0,none⟩) 1 1]) f λv c=> ∃a:Sl,v=J4 a.p a.len a.cap/\K a c:=by
 refine ak.mk λf _ w i G=>?_
 have y:Own E T f ⟨some ⟨d.size,0,none⟩,1,1⟩ [x]:=Own.lit (E:=E) (l:= [x]) w (by simp[n]) (by simp[maxLen]);refine GI (s:=s) (src:=⟨some ⟨d.size,0,none⟩,1,1⟩) o (p.ext i) y.view (by simpa using q) (by simpa using r) λa c z A B C=>?_
 refine u a c z ?_ ?_ ?_
 ·exact i.mod.trans A
 ·intro b D;rcases B b D with j|j
  ·exact .inl j
  ·exact .inr (by omega)
 ·intro F;have:=(C.1 F).2;simp at this
theorem View.sub {d:Type}{b:cy d}{e:aa}{s:Sl}{l:List d}(v:View b e s l){lo hi:Nat}(h:lo<=hi)(j:hi<=l.length):
  View b e ⟨A7 s.p s.cap lo b.w,hi-lo,s.cap-lo⟩ ((l.take hi).drop lo):=by
 have k:=v.cap;have m:=v.len;refine⟨by simp;omega,by simp;omega,λi x c=>?_⟩;rw[Bm,Fl] at c;split at c
 ·rename_i n;obtain⟨a,f,g⟩:=v.cells _ _ c;refine⟨a.add (lo*b.w),?_,?_⟩
  ·unfold A7;simp only[f];rw[if_neg (by omega)];rfl
  ·rw[add_add,<-BE];exact g
 ·cases c
theorem Yq {p:Q2}{e f g:Nat}{b:Nat}{len c:Nat}(d:Sl.af ⟨A7 p e f g,len,c⟩=some b):p.map (·.block)=some b:=by
 unfold Sl.af A7 at d;simp only at d;split at d
 ·exact d
 ·cases p with
  |none=>simp at d
  |some a=>simp[aM] at d;simp[d]
def Yields(h:al)(P:Q1)(j:J0)(l:List Pr)(d:Nat->Bool->(Nat->Prop)->aa->Prop):Prop:=
 ∀i x c a,l[i]? =some x->d i true c a->EH h P j #[x.agg] a λv e=> ∃g f,v=J3 g/\(∀ b,f b->c b\/a.size<=b)/\Mod c a e/\d (i+1) g f e
structure Body (h:aa) (J:Nat->Bool->(Nat->Prop)->aa->Prop):Prop where
 wf: ∀i g O hh,J i g O hh-> ∀b,O b->b<hh.size
 bd: ∀i g O hh h',J i g O hh->Mod (λb=>¬O b/\h.size<=b) hh h'->J i g O h'
def Dx(k:al)(P:Q1)(fv:J0)(j:Nat->Prop)(m:aa)(l:List Pr):Prop:=
 (∀ b,j b->b<m.size)/\ ∃f d,fv= .func (.func f) #[] d/\(∀ a,(callFunc f (#[]++ #[a]++d)).calc P=some (.enter f (#[]++ #[a]++d)))/\
  ∀(c:aa),(∀ b,j b->c[b]? =m[b]?)-> ∀a e h,LA a=true->(∀ b,j b-> ¬h b)->Body c e->Yields k P a l e->e 0 true h c->
   AA k P f (#[]++ #[a]++d) c λv n=>v=J1 #[]/\ ∃i g o,Mod h c n/\(∀ b,o b->h b\/c.size<=b)/\e i g o n/\(g=true->i=l.length)/\i<=l.length
theorem Dx.ai {e:al}{P:Q1}{fv:J0}{c S':Nat->Prop}{g d:aa}{l:List Pr}(i:Dx e P fv c g l)(h: ∀b,c b->S' b)(j: ∀b,S' b->b<d.size)(k: ∀b,c b->d[b]? =g[b]?):Dx e P fv S' d l:=by obtain⟨_,f,m,n,o,p⟩:=i;refine⟨j,f,m,n,o,λq r s t u v hd=>p q (λb a=>(r b (h b a)).trans (k b a)) s t u v λb a=>hd b (h b a)⟩
theorem Dx.one {a:al}{P:Q1}{fv:J0}{b:Nat->Prop}{c:aa}{l:List Pr}(d:Dx a P fv b c l):LA fv=true/\jo fv/\Vm fv=false:=by obtain⟨_,f,e,rfl,_⟩:=d;exact⟨rfl,by simp[jo],rfl⟩
def tu(x:Pr):iy [.agg [.str,.str,.bool]]:=((x.key,x.val,x.gone,()),())
def tv(l:Nat)(rec:Go.Loop)(c:aa)(d:Nat->Prop)(f:(Nat->Prop)->aa->Prop)(a:aa):Prop:=
 ∃e,(∀ b,e b->d b\/c.size<=b)/\Mod (λb=>d b\/b=l) c a/\a[l]? =some (.loop {rec with state:= .busy})/\f e a
theorem Mod.setObj {S:Nat->Prop}{a:aa}{l:Nat}{c:Obj}(d:S l):Mod S a (a.setIfInBounds l c):=
 ⟨by simp,λb _ e=>by rw[DP];intro f;exact e (f▸d)⟩
theorem CR {a:aa}{l:Nat}{b:Obj}(c:l<a.size):(a.setIfInBounds l b)[l]? =some b:=by simp[c]
theorem Vt {Q:al}{P:Q1}{fv:J0}{F:Nat->Prop}{R a:aa}{l:List Pr}(ai:Dx Q P fv F R l)(S: ∀b,F b->a[b]? =R[b]?)
  (Inv:Nat->Option (Option Nat)->(Nat->Prop)->aa->Prop) (n:Nat->Prop) (hd: ∀b,F b-> ¬n b)
  {body:iy [.agg [.str,.str,.bool]]->Nat->aa->(aa->Prop)->(Option Nat->aa->Prop)->Prop} {T:aa->Prop} {U:Option Nat->aa->Prop}
  (H: ∀i c n j,Inv i c n j-> ∀b,n b->b<j.size)
  (z: ∀i c n j k,Inv i c n j->Mod (λb=>¬n b/\a.size<=b) j k->Inv i c n k)
  (V:Inv 0 none n a)
  (round: ∀i x m j rec W X,l[i]? =some x->Inv i none m j-> ¬m (a.size+1)->a.size+1<j.size->j[a.size+1]? =some (.loop rec)->rec.state= .ready->
   (∀ k,tv (a.size+1) rec j m (Inv (i+1) none) k->W k)->(∀ o k,tv (a.size+1) rec j m (Inv (i+1) (some o)) k->X o k)->body (tu x) (a.size+1) j W X)
  (aj: ∀r k,Inv l.length none r k->Mod n a k-> ¬r a.size->(∀ b,r b->n b\/a.size<=b)->k[a.size]? =some (.deferred (some []))->T k)
  (ak: ∀i o r k,Inv i (some o) r k->i<=l.length->Mod n a k-> ¬r a.size->(∀ b,r b->n b\/a.size<=b)->k[a.size]? =some (.deferred (some []))->U o k):
  Vg Q P fv [.agg [.str,.str,.bool]] body a T U:=by
 intro rec G I aA am;obtain⟨an,f,Y,rfl,ao,ap⟩:=ai;have Z: ∀b,n b->b<a.size:=H _ _ _ _ V;have ab: ∀b,F b->b<a.size:=λb e=>by
  have:=S b e;rw[CD (an b e)] at this;exact Af this
 have J:Ext a ((a.push (.deferred (some []))).push (.loop rec)):=(Mod.push a _).trans (Mod.push _ _);have aC:((a.push (.deferred (some []))).push (.loop rec)).size=a.size+2:=by simp
 refine⟨f,_,?_,AA.mono (ap ((a.push (.deferred (some []))).push (.loop rec)) (λb e=>(J.get b (ab b e) (by simp)).trans (S b e)) (.func (.yield (a.size+1)) #[] #[])
  (λi g D j=> ∃m:Nat->Prop,(∀ b,D b↔m b\/b=a.size\/b=a.size+1)/\ ¬m a.size/\ ¬m (a.size+1)/\(∀ b,m b->n b\/a.size<=b)/\a.size+2<=j.size/\j[a.size]? =some (.deferred (some []))/\
   match g with
   |true=>j[a.size+1]? =some (.loop rec)/\Inv i none m j
   |false=> ∃o y,j[a.size+1]? =some (.loop y)/\y.state≠ .busy/\y.pending=some (Ya o)/\Inv i (some o) m j)
  (λb=>n b\/b=a.size\/b=a.size+1) rfl ?_ ?_ ?_ ?_) ?_⟩
 ·have aq:(do let ac <-Deferred.ofValue (.func (.func f) #[] Y) #[.func (.yield (a.size+1)) #[] #[]];invoke ac.target ac.args:Sem Next).calc P=(callFunc f (#[]++ #[.func (.yield (a.size+1)) #[] #[]]++Y)).calc P:=rfl;unfold RO;rw[aq,ao]
 ·intro b e d;have:=ab b e;rcases d with d|d|d
  ·exact hd b e d
  ·omega
  ·omega
 ·constructor
  ·rintro i g D j ⟨m,p,_,_,_,K,_,t⟩ b e;rcases(p b).1 e with d|d|d
   ·cases g
    ·obtain⟨o,y,_,_,_,A⟩:=t;exact H _ _ _ _ A b d
    ·exact H _ _ _ _ t.2 b d
   ·omega
   ·omega
  ·rintro i g D j k ⟨m,p,w,u,B,K,C,t⟩ q;have ad:Mod (λb=>¬m b/\a.size<=b) j k:=q.ai λb _ e=>⟨λd=>e.1 ((p b).2 (.inl d)),by omega⟩
   have ar:k[a.size]? =j[a.size]? :=q.get _ (by omega) λe=>e.1 ((p _).2 (.inr (.inl rfl)))
   have ae:k[a.size+1]? =j[a.size+1]? :=q.get _ (by omega) λe=>e.1 ((p _).2 (.inr (.inr rfl)))
   refine⟨m,p,w,u,B,by have:=q.size;omega,ar.trans C,?_⟩;cases g
   ·obtain⟨o,y,d,h,L,A⟩:=t;exact⟨o,y,ae.trans d,h,L,z _ _ _ _ _ A ad⟩
   ·exact⟨ae.trans t.1,z _ _ _ _ _ t.2 ad⟩
 ·rintro i x D j au ⟨m,p,w,u,B,K,C,af,A⟩;refine am (tu x) j _ af (round i x m j rec _ _ au A u (by omega) af G ?_ ?_)
  ·rintro k ⟨r,s,q,M,N⟩;have O:a.size+1<k.size:=by have:=q.size;omega
   refine⟨_,M,true,λb=>r b\/b=a.size\/b=a.size+1,rfl,?_,?_,r,λ_=>Dd,?_,?_,?_,?_,?_,?_,?_⟩
   ·rintro b (e|e)
    ·rcases s b e with d|d
     ·exact .inl ((p b).2 (.inl d))
     ·exact .inr d
    ·exact .inl ((p b).2 (.inr e))
   ·refine(q.trans (Mod.setObj (.inr rfl))).ai λb _ e=>(p b).2 (e.elim .inl λd=> .inr (.inr d))
   ·intro d;rcases s _ d with h|h
    ·exact w h
    ·omega
   ·intro d;rcases s _ d with h|h
    ·exact u h
    ·omega
   ·intro b e;rcases s _ e with h|h
    ·exact B _ h
    ·exact .inr (by omega)
   ·simp;omega
   ·rw[DP (by omega)];exact(q.get _ (by omega) (by rintro(d|d);exact w d;omega)).trans C
   ·rw[CR O];cases rec;simp at G I;simp[G,I]
   ·refine z _ _ _ _ _ N (Mod.setObj ⟨?_,by omega⟩);intro d;rcases s _ d with h|h
    ·exact u h
    ·omega
  ·rintro o k ⟨r,s,q,M,N⟩;have O:a.size+1<k.size:=by have:=q.size;omega
   refine⟨_,M,false,λb=>r b\/b=a.size\/b=a.size+1,rfl,?_,?_,r,λ_=>Dd,?_,?_,?_,?_,?_,o,{rec with state:= .done,pending:=some (Ya o)},?_,?_,rfl,?_⟩
   ·rintro b (e|e)
    ·rcases s b e with d|d
     ·exact .inl ((p b).2 (.inl d))
     ·exact .inr d
    ·exact .inl ((p b).2 (.inr e))
   ·refine(q.trans (Mod.setObj (.inr rfl))).ai λb _ e=>(p b).2 (e.elim .inl λd=> .inr (.inr d))
   ·intro d;rcases s _ d with h|h
    ·exact w h
    ·omega
   ·intro d;rcases s _ d with h|h
    ·exact u h
    ·omega
   ·intro b e;rcases s _ e with h|h
    ·exact B _ h
    ·exact .inr (by omega)
   ·simp;omega
   ·rw[DP (by omega)];exact(q.get _ (by omega) (by rintro(d|d);exact w d;omega)).trans C
   ·exact CR O
   ·simp
   ·refine z _ _ _ _ _ N (Mod.setObj ⟨?_,by omega⟩);intro d;rcases s _ d with h|h
    ·exact u h
    ·omega
 ·refine⟨n,λ_=>Dd,λd=>?_,λd=>?_,λb e=> .inl e,by omega,?_,?_⟩;rotate_left 2
  ·rw[PC (by simp)];simp
  ·exact⟨by have av:a.size+1=(a.push (.deferred (some []))).size:=(by simp);rw[av];exact PF,z _ _ _ _ _ V J.mod⟩
  ·have:=Z _ d;omega
  ·have:=Z _ d;omega
 ·rintro v h ⟨_,i,g,D,q,aD,⟨m,p,w,u,B,K,C,t⟩,aw,ax⟩;have ag: ∀E,Mod n a (h.setIfInBounds (a.size+1) (.loop E)):=λE=>by
   refine⟨by simp;omega,λb e ay=>?_⟩;rw[DP (by omega)];exact(q.get b (by omega) (by rintro(d|d|d);exact ay d;omega;omega)).trans (J.get b e (by simp))
  have ah: ∀E,(h.setIfInBounds (a.size+1) (.loop E))[a.size]? =some (.deferred (some [])):=λE=>by
   rw[DP (by omega)];exact C
  cases g
  ·obtain⟨o,y,d,L,az,A⟩:=t;exact⟨y,d,L,.inr ⟨o,az,ak i o m _ (z _ _ _ _ _ A (Mod.setObj ⟨u,by omega⟩)) ax (ag _) w B (ah _)⟩⟩
  ·refine⟨rec,t.1,by simp[G],.inl ⟨I,aj m _ ?_ (ag _) w B (ah _)⟩⟩;have:=aw rfl;subst this;exact z _ _ _ _ _ t.2 (Mod.setObj ⟨u,by omega⟩)
open Go Ieee
abbrev fD:Format:=Ieee.double
theorem AJa(s:Bool)(m u v:Nat):signed s m (u+v)=signed s m u*(2:Int)^v:=by
 unfold signed;rw[Of,Of,GW,<-FG];split
 ·push_cast;rw[Int.neg_mul]
 ·push_cast;rfl
def DV(b:Datum)(c:Int):Prop:= ∃s m,∃a:Nat,b= .number s m (-(a:Int))/\signed s m 0=c*(2:Int)^a
def VR(b:Nat)(a:Int):Prop:=DV (fD.read b) a
theorem NN(s:Bool)(m u:Nat):signed s m u=signed s m 0*(2:Int)^u:=by have:=AJa s m 0 u;rwa [AI] at this
theorem pow_pos(a:Nat):(0:Int)<(2:Int)^a:=Int.pow_pos (by decide)
theorem AGa(a b:Int)(c:Nat):compare (a*(2:Int)^c) (b*(2:Int)^c)=compare a b:=by have d:=pow_pos c;simp only[compare,compareOfLessAndEq];have e:(a*2^c<b*2^c)↔a<b:=Int.mul_lt_mul_right d;have f:(a*2^c=b*2^c)↔a=b:=Int.mul_eq_mul_right_iff (by omega);by_cases g:a<b<;>by_cases h:a=b<;>simp[e,f,g,h]
theorem DV.order {x d:Datum}{e m:Int}(f:DV x e)(h:DV d m):x.order d=some (compare e m):=by
 obtain⟨s,a,c,rfl,i⟩:=f;obtain⟨t,b,l,rfl,g⟩:=h;simp only[Datum.order];congr 1;have j:(-(c:Int)-min (-(c:Int)) (-(l:Int))).toNat=max c l-c:=by omega
 have k:(-(l:Int)-min (-(c:Int)) (-(l:Int))).toNat=max c l-l:=by omega
 rw[j,k,NN s,NN t,i,g,I2,I2,<-I3,<-I3,show c+(max c l-c)=max c l by omega,show l+(max c l-l)=max c l by omega,AGa]
theorem VR.order {x a:Nat}{b m:Int}(c:VR x b)(d:VR a m):fD.order x a=some (compare b m):=DV.order c d
theorem cmp_eq {a m:Int}:(compare a m= .eq)↔a=m:=by simp only[compare,compareOfLessAndEq];by_cases b:a<m<;>by_cases c:a=m<;>simp[b,c]<;>omega
theorem uT(b:Bool){a:Nat}(c:a<fD.signWeight):
  fD.read (fD.word b a)=if a<fD.binade then .number b a fD.leastPlace else if a<fD.infRung then .number b (fD.binade+a % fD.binade) (fD.leastPlace+(a / fD.binade-1:Nat)) else if a=fD.infRung then .infinity b else .nan b (a-fD.infRung):=by
 have d:0<fD.signWeight:=HA _;have e:(fD.word b a / fD.signWeight % 2==1)=b:=by
  unfold Format.word;cases b
  ·simp[Nat.div_eq_of_lt c]
  ·simp[Nat.add_div_left _ d,Nat.div_eq_of_lt c]
 have f:fD.word b a % fD.signWeight=a:=by
  unfold Format.word;cases b
  ·simp[Ax c]
  ·simp[Ax c]
 unfold Format.read;simp only[e,f]
theorem Zk(s:Bool)(u:Nat):signed s 0 u=0:=by cases s<;>simp[signed]
theorem nD:fD.binade=4503599627370496:=by decide
theorem qn:fD.infRung=9218868437227405312:=by decide
theorem uU:fD.signWeight=9223372036854775808:=by decide
theorem lC:fD.leastPlace= -1074:=by decide
theorem ARj:fD.fractionBits=52:=rfl
theorem APN(a:Bool):VR (fD.word a 0) 0:=by refine⟨a,0,1074,?_,by rw[Zk,Int.zero_mul]⟩;rw[uT a (by rw[uU];decide),if_pos (by rw[nD];decide),lC];rfl
theorem WZ {v:Nat}(f:0<v)(K:Nat):(v*2^K).log2=v.log2+K:=by
 have a:v≠0:=by omega
 have c:0<2^K:=HA K;have b:v*2^K≠0:=Nat.mul_ne_zero a (by omega);have d:2^v.log2<=v:=(Sp a).1 (A0 _);have e:v<2^(v.log2+1):=(On a).1 (HK _);have g:v.log2+K<=(v*2^K).log2:=by rw[Sp b,GW];exact AS _ d
 have h:(v*2^K).log2<v.log2+1+K:=by rw[On b,GW];exact Ss e c
 omega
theorem AOK(b:Bool)(a:Nat):Toward.even.cut b a 0=a:=by simp[Toward.cut,Nat.mod_one]
theorem ALn(b:Toward)(c:Bool){M a:Nat}(d:0<M):b.cut c (M*2^a) a=M:=by
 unfold Toward.cut;have hd:min a ((M*2^a).log2+2)=a:=by rw[WZ d];omega
 have e:0<2^a:=HA a;simp only[hd,Nat.one_shiftLeft,Nat.mul_mod_left,Nat.mul_div_cancel _ e];cases b
 ·have f: ¬(2^a=0):=by omega
  simp[f]
 all_goals simp
theorem ANn {L M:Nat}(a:L<=52)(b:M<9007199254740992):min ((L+1022)*4503599627370496+M) 9218868437227405312=(L+1022)*4503599627370496+M:=by omega
theorem AQW {L M:Nat}(a:4503599627370496<=M): ¬(L+1022)*4503599627370496+M<4503599627370496:=by omega
theorem AQj {L M:Nat}(a:L<=52)(b:M<9007199254740992):(L+1022)*4503599627370496+M<9218868437227405312:=by omega
theorem uV {L M:Nat}(a:4503599627370496<=M)(b:M<9007199254740992):((L+1022)*4503599627370496+M) % 4503599627370496=M-4503599627370496/\((L+1022)*4503599627370496+M) / 4503599627370496=L+1023:=by omega
theorem AQb {M:Nat}(a:4503599627370496<=M):4503599627370496+(M-4503599627370496)=M:=by omega
theorem AQp {L:Nat}(a:L<=52):(-1074:Int)+((L+1023-1:Nat):Int)=(L:Int)-52:=by omega
theorem ARF {L:Nat}(a:L<=52):(L:Int)-52= -((52-L:Nat):Int):=by omega
theorem AQr {L M:Nat}(a:L<=52)(b:M<9007199254740992):(L+1022)*4503599627370496+M<9223372036854775808:=by omega
theorem ADd(a:Bool){v K:Nat}(i:0<v)(j:v<9007199254740992):VR (fD.nearest a (v*2^K) (-(K:Int))) (if a then -(v:Int) else v):=by
 have e:v≠0:=by omega
 have k:=WZ i K;have b:v.log2<=52:=by have:v.log2<53:=(On e).2 (by simpa using j);omega
 have l:2^v.log2<=v:=(Sp e).1 (A0 _);have m:v<2^(v.log2+1):=(On e).1 (HK _);have n: ¬v*2^K=0:=Nat.mul_ne_zero e (by have:=HA K;omega);generalize u:v.log2=L at*
 have f:4503599627370496<=v*2^(52-L):=by have c:2^L*2^(52-L)<=v*2^(52-L):=AS _ l;rw[<- GW,show L+(52-L)=52 by omega] at c;exact c
 have d:v*2^(52-L)<9007199254740992:=by have c:v*2^(52-L)<2^(L+1)*2^(52-L):=Ss m (HA _);rw[<- GW,show L+1+(52-L)=53 by omega] at c;exact c
 have o:fD.nearest a (v*2^K) (-(K:Int))=fD.word a ((L+1022)*4503599627370496+v*2^(52-L)):=by
  unfold Format.nearest;rw[if_neg n];have p:max (-(K:Int)+((v*2^K).log2:Nat)-(fD.fractionBits:Nat)) fD.leastPlace=(L:Int)-52:=by rw[k,lC,ARj];push_cast;omega
  simp only[p];have q:Toward.even.cut a ((v*2^K) <<< (-(K:Int)-((L:Int)-52)).toNat) (((L:Int)-52)- -(K:Int)).toNat=v*2^(52-L):=by
   by_cases w:K+L<=52
   ·have g:(((L:Int)-52)- -(K:Int)).toNat=0:=by omega
    have h:(-(K:Int)-((L:Int)-52)).toNat=52-L-K:=by omega
    rw[g,h,AOK,Of,FG,<-GW];congr 2;omega
   ·have g:(((L:Int)-52)- -(K:Int)).toNat=L+K-52:=by omega
    have h:(-(K:Int)-((L:Int)-52)).toNat=0:=by omega
    have r:v*2^K=(v*2^(52-L))*2^(L+K-52):=by rw[FG,<-GW];congr 2;omega
    rw[g,h,KK,r,ALn _ _ (by omega)]
  have s:(((L:Int)-52)-fD.leastPlace).toNat=L+1022:=by rw[lC];omega
  rw[q,s,nD,qn,ANn b d]
 rw[o];have t:(L+1022)*4503599627370496+v*2^(52-L)<fD.signWeight:=by rw[uU];exact AQr b d
 refine⟨a,v*2^(52-L),52-L,?_,?_⟩
 ·rw[uT a t,nD,qn,lC,if_neg (AQW f),if_pos (AQj b d),(uV f d).1,(uV f d).2,AQb f,AQp b,ARF b]
 ·unfold signed;rw[KK];cases a
  ·simp
  ·simp[Int.neg_mul]
theorem AN7 {s:Bool}{a:Nat}{K:Nat}{b:Int}(c:signed s a 0=b*(2:Int)^K)(j:b.natAbs<9007199254740992):VR (fD.write (.number s a (-(K:Int)))) b:=by
 show VR (fD.nearest s a (-(K:Int))) b;have h:=pow_pos K;have k:(2:Int)^K=((2^K:Nat):Int):=by push_cast;rfl
 by_cases l:b=0
 ·subst l;have e:a=0:=by unfold signed at c;rw[KK,Int.zero_mul] at c;split at c<;>omega
  subst e;have f:fD.nearest s 0 (-(K:Int))=fD.word s 0:=by unfold Format.nearest;rw[if_pos rfl]
  rw[f];exact APN s
 ·have e:a=b.natAbs*2^K/\(if s then -(b.natAbs:Int) else b.natAbs)=b:=by
   unfold signed at c;rw[KK] at c;have i:(a:Int).natAbs=(b*2^K).natAbs:=by rw[<- c];split<;>simp
   have f:(b*2^K).natAbs=b.natAbs*2^K:=by rw[Int.natAbs_mul,k,OF]
   refine⟨by rw[f] at i;simpa using i,?_⟩;split at c
   ·rename_i g;rw[if_pos g];have:b*(2:Int)^K<=0:=by omega
    have:b<=0:=by
     rcases Int.lt_or_le 0 b with d|d
     ·have:=Int.mul_pos d h;omega
     ·exact d
    omega
   ·rename_i g;rw[if_neg g];have:0<=b*(2:Int)^K:=by omega
    have:0<=b:=by
     rcases Int.lt_or_le b 0 with d|d
     ·have:=Int.mul_neg_of_neg_of_pos d h;omega
     ·exact d
    omega
  rw[e.1];have:=ADd s (v:=b.natAbs) (K:=K) (by omega) j;rw[e.2] at this;exact this
theorem AHW(t:Int):signed (decide (t<0)) t.natAbs 0=t:=by
 unfold signed;rw[KK];split
 ·rename_i a;simp at a;omega
 ·rename_i a;simp at a;omega
theorem DV.sum {x e:Datum}{d m:Int}(i:DV x d)(j:DV e m)(k:(d+m).natAbs<9007199254740992): ∃f,x.sum e=some f/\VR (fD.write f) (d+m):=by
 obtain⟨s,a,c,rfl,n⟩:=i;obtain⟨t,b,l,rfl,g⟩:=j;refine⟨_,rfl,?_⟩;have o:min (-(c:Int)) (-(l:Int))= -((max c l:Nat):Int):=by omega
 have p:(-(c:Int)-min (-(c:Int)) (-(l:Int))).toNat=max c l-c:=by omega
 have q:(-(l:Int)-min (-(c:Int)) (-(l:Int))).toNat=max c l-l:=by omega
 have r:signed s a (-(c:Int)-min (-(c:Int)) (-(l:Int))).toNat+signed t b (-(l:Int)-min (-(c:Int)) (-(l:Int))).toNat=(d+m)*(2:Int)^(max c l):=by rw[p,q,NN s,NN t,n,g,I2,I2,<-I3,<-I3,show c+(max c l-c)=max c l by omega,show l+(max c l-l)=max c l by omega,Int.add_mul]
 simp only[r];rw[o];generalize u:(d+m)*(2:Int)^(max c l)=T at*
 refine AN7 ?_ k;rw[u];split
 ·rename_i h;rw[h];exact(Zk _ _).trans (by rw[<- h])
 ·exact(AHW T)
theorem ALx {b:Nat}{s:Bool}{m:Nat}{i:Int}(a:fD.read b= .number s m i):i<=0\/4503599627370496<=m:=by
 unfold Format.read at a;simp only[nD,qn,lC] at a;split at a
 ·injection a with _ _ c;exact .inl (by omega)
 ·split at a
  ·injection a with _ d _;exact .inr (by omega)
  ·split at a<;>cases a
theorem AI4(s:Bool)(m u:Nat):(signed s m u).natAbs=m*2^u:=by
 unfold signed;rw[Of];split
 ·rw[Int.natAbs_neg,OF]
 ·rw[OF]
theorem VR.of_eq {x k:Nat}{m:Int}(o:VR k m)(v:m.natAbs<4503599627370496)(c:fD.order x k=some .eq):VR x m:=by
 obtain⟨t,b,l,p,g⟩:=o;unfold Format.order at c;rw[p] at c;unfold VR;cases e:fD.read x with
 |nan s f=>rw[e] at c;simp[Datum.order] at c
 |infinity s=>rw[e] at c;cases s<;>simp[Datum.order] at c
 |number s a i=>
  rw[e] at c;simp only[Datum.order,C5] at c;rw[cmp_eq] at c;by_cases q:i<=0
  ·refine⟨s,a,(-i).toNat,by rw[show -(((-i).toNat:Nat):Int)=i by omega],?_⟩;generalize w:(-i).toNat=d;have h:(i-min i (-(l:Int))).toNat=max d l-d:=by omega
   have j:(-(l:Int)-min i (-(l:Int))).toNat=max d l-l:=by omega
   rw[h,j,NN s,NN t,g,I2,<-I3,show l+(max d l-l)=max d l by omega] at c;refine Int.eq_of_mul_eq_mul_right (a:=(2:Int)^(max d l-d)) (by have:=pow_pos (max d l-d);omega) ?_;rw[c,I2,<-I3,show d+(max d l-d)=max d l by omega]
  ·exfalso;have y:=(ALx e).resolve_left q;have h:(i-min i (-(l:Int))).toNat=i.toNat+l:=by omega
   have j:(-(l:Int)-min i (-(l:Int))).toNat=0:=by omega
   rw[h,j,g] at c;have n:=congrArg Int.natAbs c;have r:(2:Int)^l=((2^l:Nat):Int):=by push_cast;rfl
   rw[AI4,Int.natAbs_mul,r,OF,GW,<-FG] at n;have z:a*2^i.toNat=m.natAbs:=Nat.eq_of_mul_eq_mul_right (HA l) n;have u:1<=2^i.toNat:=HA _;have A:a*1<=a*2^i.toNat:=Nat.mul_le_mul_left _ u;omega
theorem BF.run {A:al}{P:Q1}{s:Sem J0}{h:aa}{K:A2N}{v:J0}(b: ∀a,s.run P a= .ok v a)(c:K v h):BF A P s h K:=λd=>⟨v,h,d,b _,c⟩
section
variable {A : al} {P : Q1} {t : Q7} {o1 o2 : Operand} {x y : Nat} {h : aa} {K : A2N}
end
open Go
theorem toList_inj {a b:A2O}:(a.toList==b.toList)=decide (a=b):=by rw[ByteArray.toList_eq,ByteArray.toList_eq];rw[Fm];simp[Mb,<-Array.toList_inj]
theorem Cb {a b:A2O}:bS a b=decide (a=b):=toList_inj
theorem Py: ∀(a:List UInt8),Op.bytesLess a a=false
 | []=>rfl
 |a::x=>by simp[Op.bytesLess,Py x]
theorem lj: ∀(a b:List UInt8),Op.bytesLess a b=false->Op.bytesLess b a=false->a=b
 | [],[],_,_=>rfl
 | [],_::_,c,_=>by simp[Op.bytesLess] at c
 |_::_,[],_,c=>by simp[Op.bytesLess] at c
 |a::x,b::f,d,e=>by
  simp only[Op.bytesLess,Hi,A0b,decide_eq_false_iff_not,beq_eq_false_iff_ne] at d e;have g:a=b:=by have h:=d.1;have i:=e.1;exact UInt8.le_antisymm (UInt8.not_lt.1 i) (UInt8.not_lt.1 h)
  subst g;rw[lj x f (d.2.resolve_left (by simp)) (e.2.resolve_left (by simp))]
theorem R7: ∀(a b c:List UInt8),Op.bytesLess a b=true->Op.bytesLess b c=true->Op.bytesLess a c=true
 |_,[],_,f,_=>by simp[Op.bytesLess] at f
 |_,_::_,[],_,f=>by simp[Op.bytesLess] at f
 | [],_::_,_::_,_,_=>by simp[Op.bytesLess]
 |a::x,b::g,c::z,e,d=>by
  simp only[Op.bytesLess,Cl,A3,decide_eq_true_eq,beq_iff_eq] at e d ⊢;rcases e with e|⟨rfl,e⟩
  ·rcases d with d|⟨rfl,d⟩
   ·exact .inl (UInt8.lt_trans e d)
   ·exact .inl e
  ·rcases d with d|⟨rfl,d⟩
   ·exact .inl d
   ·exact .inr ⟨rfl,R7 x g z e d⟩
theorem Bq(a:A2O):aN a a=false:=Py _
theorem DK {a b c:A2O}(d:aN a b=true)(e:aN b c=true):aN a c=true:=R7 _ _ _ d e
theorem NF {a b:A2O}(d:aN a b=false)(e:aN b a=false):a=b:=by
 have:=lj _ _ d e;have c:bS a b=true:=by simp[bS,this]
 rw[Cb] at c;simpa using c
theorem NU {a b:A2O}(c:aN a b=true):aN b a=false:=by
 cases d:aN b a
 ·rfl
 ·have:=DK c d;rw[Bq] at this;cases this
theorem Nk {a b:A2O}(c:aN a b=true):a≠b:=by rintro rfl;rw[Bq] at c;cases c
theorem mU {a b c:A2O}(d:aN a b=true)(f:aN c b=false):aN a c=true:=by
 cases e:aN b c
 ·rw[NF f e];exact d
 ·exact DK d e
theorem YJ {a b c:A2O}(e:aN b a=false)(d:aN c b=false):aN c a=false:=by
 cases f:aN c a
 ·rfl
 ·have:=mU f e;rw[this] at d;cases d
theorem tO: ∀(a b:List UInt8),Op.bytesLess a b=decide (a<b)
 | [],[]=>by simp[Op.bytesLess]
 | [],_::_=>by simp[Op.bytesLess]
 |_::_,[]=>by simp[Op.bytesLess]
 |a::x,b::c=>by
  simp only[Op.bytesLess,tO x c,A0j];by_cases d:a<b<;>by_cases e:a=b<;>simp[d,e]
theorem Xp(a b:A2O):aN a b=decide (a.data.toList<b.data.toList):=by simp[aN,ByteArray.toList_eq,tO]
def IB:cy A2O where
 enc x:= [.string x]
 w:=1
 len _:=rfl
 pos:=by omega
 one x v a:=by simp at a;subst a;rfl
def Ho:cy Int where
 enc x:= [.int J9 x]
 w:=1
 len _:=rfl
 pos:=by omega
 one x v a:=by simp at a;subst a;rfl
theorem Cells.str {b:aa}{a:Q6}{x:A2O}(c:Cells b a (IB.enc x)):ag b a=some (.string x):=by have d:=c 0 _ rfl;rwa [add_zero] at d
theorem Cells.int {b:aa}{a:Q6}{x:Int}(c:Cells b a (Ho.enc x)):ag b a=some (.int J9 x):=by have d:=c 0 _ rfl;rwa [add_zero] at d
theorem Own.lt {c:Type}{e:cy c}{T:Q7}{d:aa}{s:Sl}{l:List c}(f:Own e T d s l){b:Nat}(a:s.af=some b):b<d.size:=by
 rcases f.row with⟨rfl,_⟩|⟨g,j,h,i,_⟩
 ·simp[Sl.af] at a
 ·simp[Sl.af,h] at a;subst a;exact Af i
def Ym(a:A2O)(v:J0):List (A2O×J0)->List (A2O×J0)
 | []=> [(a,v)]
 |p::m=>if p.1=a then(a,v)::m else p::Ym a v m
def Sr(a:A2O)(m:List (A2O×J0)):Option J0:=(m.find? λp=>decide (p.1=a)).map (·.2)
def iz(a:A2O)(m:List (A2O×J0)):List (A2O×J0):=m.filter λp=> !decide (p.1=a)
theorem Na(a:A2O)(p:A2O×J0)(m:List (A2O×J0)):Sr a (p::m)=if p.1=a then some p.2 else Sr a m:=by unfold Sr;rw[DH];by_cases b:p.1=a<;>simp[b]
structure dN (es:Array MapEntry) (clock:Nat) (m:List (A2O×J0)):Prop where
 same:es.toList.map (λe=>(e.key,e.val))=m.map λp=>(Value.string p.1,p.2)
 stamped:MapKept.Stamped es clock
 size:es.size<=maxLen
 keys: ∀p∈m,p.1.size<=maxLen
def UK(d:aa)(b:Nat)(m:List (A2O×J0)):Prop:= ∃a c,d[b]? =some (.map a c)/\dN a c m
theorem UK.mod {a c:aa}{b:Nat}{m:List (A2O×J0)}{d:Nat->Prop}(M:UK a b m)(x:Mod d a c)(e: ¬d b):UK c b m:=by obtain⟨f,g,h,i⟩:=M;exact⟨f,g,x.af h e,i⟩
theorem UK.lt {a:aa}{b:Nat}{m:List (A2O×J0)}(M:UK a b m):b<a.size:=by obtain⟨d,e,c,f⟩:=M;exact Af c
theorem UK.empty {a:aa}{b c:Nat}(d:a[b]? =some (.map #[] c)):UK a b []:=⟨#[],c,d,rfl,MapKept.stamped_empty c,by simp,by simp⟩
theorem dN.len {a:Array MapEntry}{b:Nat}{m:List (A2O×J0)}(M:dN a b m):a.size=m.length:=by rw[<- F0];have:=congrArg List.length M.same;simpa using this
theorem dN.keysOf {a:Array MapEntry}{b:Nat}{m:List (A2O×J0)}(M:dN a b m):a.toList.map (·.key)=m.map λp=>Value.string p.1:=by have:=congrArg (List.map Prod.fst) M.same;simpa [AT,G0] using this
theorem dN.nodup {b:Array MapEntry}{c:Nat}{m:List (A2O×J0)}(M:dN b c m):(m.map (·.1)).Nodup:=by
 have a:=M.stamped.2.2;rw[M.keysOf] at a;have d:(m.map λp=>Value.string p.1)=(m.map (·.1)).map Value.string:=by simp
 rw[d] at a;exact(List.pairwise_map.1 a).imp λe f=>e (congrArg _ f)
theorem UD(a:A2O)(v:J0): ∀(c:List MapEntry) (m:List (A2O×J0)) (i:Nat),(c.map λe=>(e.key,e.val))=(m.map λp=>(Value.string p.1,p.2))->
  (Instr.findNow .string (.string a) c i=some none/\Sr a m=none/\Ym a v m=m++ [(a,v)]/\iz a m=m/\ ∀e∈c,e.key≠ .string a)\/
  ∃d u,Instr.findNow .string (.string a) c i=some (some (i+d,u))/\Sr a m=some u/\(∃ e,c[d]? =some e/\e.key= .string a)/\((c.modify d λe=> {e with key:= .string a,val:=v}).map λe=>(e.key,e.val))=(Ym a v m).map (λp=>(Value.string p.1,p.2))/\
   ((m.map (·.1)).Nodup->((c.eraseIdx d).map λe=>(e.key,e.val))=(iz a m).map λp=>(Value.string p.1,p.2))
 | [],[],i,_=> .inl ⟨rfl,rfl,rfl,rfl,by simp⟩
 | [],_::_,_,h=>by simp at h
 |_::_,[],_,h=>by simp at h
 |e::c,p::m,i,h=>by
  simp only[BT,HX,N2] at h;obtain⟨⟨j,l⟩,n⟩:=h;have o:Instr.sameNow .string (.string a) e.key=some (decide (a=p.1)):=by rw[j];show some (a==p.1)=_;congr 1;rw[Fm,MapKept.bytes_beq];simp
  by_cases b:p.1=a
  ·refine .inr ⟨0,e.val,?_,?_,⟨e,rfl,by rw[j,b]⟩,?_,?_⟩
   ·unfold Instr.findNow;rw[o,decide_eq_true b.symm];rfl
   ·rw[Na,if_pos b,l]
   ·unfold Ym;rw[if_pos b];simp[n]
   ·intro g;have g:=List.nodup_cons.1 g;simp only[List.eraseIdx_zero,List.tail_cons];rw[n];congr 1;unfold iz;rw[B9];simp only[b,decide_true,Ly,Cd,if_false];refine(List.filter_eq_self.2 λC w=>?_).symm;simp only[CA,decide_eq_false_iff_not];rintro rfl;exact g.1 (by show p.1∈_;rw[b];exact N3 (f:=Prod.fst) w)
  ·rcases UD a v c m (i+1) n with⟨q,r,s,k,y⟩|⟨d,u,q,r,⟨z,s,A⟩,B,k⟩
   ·refine .inl ⟨?_,?_,?_,?_,?_⟩
    ·unfold Instr.findNow;rw[o,decide_eq_false (λe=>b e.symm)];exact q
    ·rw[Na,if_neg b];exact r
    ·unfold Ym;rw[if_neg b,s];rfl
    ·unfold iz at k ⊢;rw[B9];simp[b];simpa using k
    ·intro x t;rcases List.mem_cons.1 t with rfl|t
     ·rw[j];intro e;injection e with e;exact b e
     ·exact y x t
   ·refine .inr ⟨d+1,u,?_,?_,⟨z,by simpa using s,A⟩,?_,?_⟩
    ·unfold Instr.findNow;rw[o,decide_eq_false (λe=>b e.symm)];rw[show i+(d+1)=i+1+d by omega];exact q
    ·rw[Na,if_neg b];exact r
    ·unfold Ym;rw[if_neg b];simp[j,l,B]
    ·intro g;have g:=List.nodup_cons.1 g;have:=k g.2;unfold iz at this ⊢;rw[B9];simp[b,j,l];simpa using this
section
variable {P : Q1}
theorem JC {a:Q7}(c:P.underlying a=some .string)(d:Bool)(e:Nat)(f:A2O)(b:World):(Instr.checkKey d (e+1) a (.string f)).run P b= .ok () b:=by simp[Instr.checkKey,BJ c]
theorem QB {g:al}{t h i:Q7}{z:J0}(j:P.underlying t=some (.map h i))(c:P.underlying h=some .string)(n:(zeroValue i).calc P=some z){a:aa}{b:Nat}{m:List (A2O×J0)}{d:A2O}{K:A2N}
  (M:UK a b m) (o:K ((Sr d m).getD z) a):BF g P (Instr.lookup t (.map (some b)) (.string d) false) a K:=by
 intro k;refine⟨_,a,k,?_,o⟩;obtain⟨p,v,q,s⟩:=M;have l:=MapKept.run_getObj_map (P:=P) (w:=g.at a k) (r:=b) q;rcases UD d z p.toList m 0 s.same with⟨e,f,_⟩|⟨x,u,e,f,_,_⟩
 ·simp[Instr.lookup,BJ j,l,JC c,Instr.findKey,BJ c,e,f,Result.andThen,Jq n]
 ·simp[Instr.lookup,BJ j,l,JC c,Instr.findKey,BJ c,e,f,Result.andThen]
theorem tP {b:A2O}{v:J0}: ∀ {m:List (A2O×J0)} {p:A2O×J0},p∈Ym b v m->p.1=b\/p∈m
 | [],p,a=>by simp[Ym] at a;exact .inl (by rw[a])
 |q::m,p,a=>by
  unfold Ym at a;split at a
  ·rcases List.mem_cons.1 a with rfl|a
   ·exact .inl rfl
   ·exact .inr (An _ a)
  ·rcases List.mem_cons.1 a with rfl|a
   ·exact .inr AN
   ·exact(tP a).imp id (An _)
theorem ALZ {g:al}{t s I:Q7}(y:P.underlying t=some (.map s I))(h:P.underlying s=some .string){d:aa}{b:Nat}{m:List (A2O×J0)}{a:A2O}{v:J0}{K:aa->Prop}
  (M:UK d b m) (J:a.size<=maxLen) (U:m.length<maxLen) (z: ∀i,UK i b (Ym a v m)->Mod (λc=>c=b) d i->i.size=d.size->K i):gG g P (Instr.mapUpdate t (.map (some b)) (.string a) v) d K:=by
 intro f;obtain⟨j,l,n,e⟩:=M;have A:=Af n;have B:=MapKept.run_getObj_map (P:=P) (w:=g.at d f) (r:=b) n;have C: ∀k,(setObj b k).run P (g.at d f)= .ok () (g.at (d.setIfInBounds b k) f):=λk=>MapKept.run_setObj_map (P:=P) (w:=g.at d f) k n
 have D: ∀p∈Ym a v m,p.1.size<=maxLen:=λp L=>(tP L).elim (λd=>by rw[d];exact J) (e.keys p)
 have V:=e.len;rcases UD a v j.toList m 0 e.same with⟨o,N,q,_,O⟩|⟨E,u,o,N,⟨Q,q,F⟩,R,_⟩
 ·refine⟨d.setIfInBounds b (.map (j.push {key:= .string a,val:=v,born:=l}) (l+1)),f,?_,z _ ⟨_,_,CR A,?_,MapKept.stamped_push e.stamped O,by simp;omega,D⟩ (Mod.setObj rfl) (by simp)⟩
  ·simp[Instr.mapUpdate,BJ y,B,JC h,Instr.findKey,BJ h,o,Result.andThen,C]
  ·rw[q];simp[e.same]
 ·have G:j[E]? =some Q:=by simpa using q
  refine⟨d.setIfInBounds b (.map (j.modify E λe=> {e with key:= .string a,val:=v}) l),f,?_,z _ ⟨_,_,CR A,?_,MapKept.stamped_modify e.stamped _ _ (λ_ _=>rfl) (λx _ H=>?_),by simpa using e.size,D⟩ (Mod.setObj rfl) (by simp)⟩
  ·have S: ∀w,(Instr.keyThatStays (.string a) (.string a)).run P w= .ok (.string a) w:=λw=>by
    have T:(a==a)=true:=(MapKept.bytes_beq a a).2 rfl;simp[Instr.keyThatStays,Instr.sameBits,T]
   simp[Instr.mapUpdate,BJ y,B,JC h,Instr.findKey,BJ h,o,G,F,S,Result.andThen,C]
  ·rw[Hj];exact R
  ·rw[G] at H;cases H;exact F.symm
theorem AK5 {g:al}{t l D E:Q7}(v:P.underlying t=some (.map l D))(h:P.underlying l=some .string){a:aa}{b:Nat}{m:List (A2O×J0)}{i:A2O}{K:A2N}
  (M:UK a b m) (x: ∀j,UK j b (iz i m)->Mod (λc=>c=b) a j->j.size=a.size->K (.tuple #[]) j):BF g P (Builtin.delete_ #[t,l] E #[.map (some b),.string i]) a K:=by
 intro e;obtain⟨f,y,n,d⟩:=M;have z:=Af n;have A:=MapKept.run_getObj_map (P:=P) (w:=g.at a e) (r:=b) n;have B: ∀k,(setObj b k).run P (g.at a e)= .ok () (g.at (a.setIfInBounds b k) e):=λk=>MapKept.run_setObj_map (P:=P) (w:=g.at a e) k n
 have C: ∀p∈iz i m,p.1.size<=maxLen:=λp F=>d.keys p (List.mem_filter.1 F).1
 rcases UD i (.bool true) f.toList m 0 d.same with⟨o,G,_,q,_⟩|⟨s,u,o,G,⟨H,I,N⟩,_,q⟩
 ·refine⟨_,a.setIfInBounds b (.map f y),e,?_,x _ ⟨_,_,CR z,by rw[q];exact d.same,d.stamped,d.size,C⟩ (Mod.setObj rfl) (by simp)⟩;simp[Builtin.delete_,BJ v,A,JC h,Instr.findKey,BJ h,o,Result.andThen,B]
 ·have J:f[s]? =some H:=by simpa using I
  refine⟨_,a.setIfInBounds b (.map (f.eraseIdxIfInBounds s) y),e,?_,x _ ⟨_,_,CR z,?_,MapKept.stamped_erase d.stamped _,?_,C⟩ (Mod.setObj rfl) (by simp)⟩
  ·simp[Builtin.delete_,BJ v,A,JC h,Instr.findKey,BJ h,o,Result.andThen,B]
  ·have L:=(Array.getElem?_eq_some_iff.1 J).1;rw[Array.eraseIdxIfInBounds,dif_pos L,A0m];exact q d.nodup
  ·have:(f.eraseIdxIfInBounds s).size<=f.size:=by unfold Array.eraseIdxIfInBounds;split<;>simp
   have:=d.size;omega
end
def jT(_:J0):Option (DataW Unit×List MemPlace):=some (.nil,[])
theorem tQ {a:Type}(x:Lit×DataW a): ∀l:List (Lit×DataW a),(DataW.insert x l).Perm (x::l)
 | []=>by simp[DataW.insert]
 |y::r=>by
  unfold DataW.insert;split
  ·exact IF _
  ·exact((tQ x r).cons y).trans (List.Perm.swap x y r)
theorem sorted_perm {a:Type}: ∀l:List (Lit×DataW a),(l.foldr DataW.insert []).Perm l
 | []=>IF _
 |x::r=>(tQ x _).trans ((sorted_perm r).cons x)
theorem AJC {P:Q1}{kt:Q7}(j:P.underlying kt=some .string){w:World}{b:Nat}{m:List (A2O×J0)}(M:UK w.heap b m):
  ∃e:DataW Unit,w.ownsMap P kt jT b m.length e/\(strKeys e).Perm (m.map λp=>p.1.data.toList)/\Maps.size e=m.length:=by
 obtain⟨c,k,l,a⟩:=M;have h: ∀x∈c.toList,∃s:A2O,x.key= .string s/\WideElems.rd P kt jT x=some (.string s.data.toList,.nil):=by
  intro x d;have:x.key∈m.map λp=>Value.string p.1:=by rw[<- a.keysOf];exact N3 d
  obtain⟨p,n,i⟩:=List.mem_map.1 this;refine⟨p.1,i.symm,?_⟩;simp[WideElems.rd,<-i,Go.WideMaps.keyOf_string_mk j (a.keys p n),jT]
 refine⟨_,⟨c,k,l,⟨a.size,a.stamped,λx d=>?_⟩,by rw[a.len];exact A0 _,rfl⟩,?_,?_⟩
 ·obtain⟨s,_,f⟩:=h x d;exact⟨_,f⟩
 ·show((c.toList.map (WideElems.rg P kt jT)).foldr DataW.insert [] |>.map λp=>strOf p.1).Perm _;refine((sorted_perm _).map _).trans ?_;have g:(c.toList.map (WideElems.rg P kt jT)).map (λp=>strOf p.1)=(c.toList.map (·.key)).map λv=>match v with| .string s=>s.data.toList|_=> []:=by
   rw[AT,AT];refine CM λx d=>?_
   obtain⟨s,g,f⟩:=h x d;simp[Function.comp,WideElems.rg,f,g,strOf]
  rw[g,a.keysOf,AT];exact List.Perm.of_eq (CM λx _=>rfl)
 ·show((c.toList.map (WideElems.rg P kt jT)).foldr DataW.insert []).length=_;rw[(sorted_perm _).length_eq];simp[a.len]
def mZ(l:List A2O):Prop:=l.Pairwise λa b=>aN a b=true
theorem AIM {d:List (List UInt8)}{l:List A2O}(e:mZ l)(f:d.Perm (l.map λx=>x.data.toList)):(d.mergeSort λx g=>decide (x<=g))=l.map λx=>x.data.toList:=by
 have h:=mergeSort_of_perm f;have i:(l.map λx=>x.data.toList).mergeSort leB=l.map λx=>x.data.toList:=by refine List.mergeSort_of_pairwise ?_;refine List.pairwise_map.2 (e.imp λ{a b} c=>?_);rw[Xp] at c;simp only[decide_eq_true_eq] at c ⊢;exact List.le_of_lt c
 exact h.trans i
theorem ALH(l:List A2O):(l.map λx=>x.data.toList).map Proofs.encStr=l.flatMap IB.enc:=by
 induction l with
 |nil=>rfl
 |cons x r a=>rw[BT,BT,a,AH];rfl
theorem wrap_u32(a:Nat):J8 .u32 (a:Int)=((a % 4294967296:Nat):Int):=by simp[J8,IntKind.bits,IntKind.signed]
theorem wrap_u64(a:Nat):J8 .u64 (a:Int)=((a % 18446744073709551616:Nat):Int):=by simp[J8,IntKind.bits,IntKind.signed]
theorem Tq {a b:Nat}(c:a<4294967296)(d:b<4294967296):YI .u32 (a:Int) (b:Int)=((a ^^^ b:Nat):Int):=by
 have e:a ^^^ b<2^32:=Lk (by simpa using c) (by simpa using d);unfold YI;have f:(BitVec.ofInt (IntKind.bits .u32) (a:Int) ^^^ BitVec.ofInt (IntKind.bits .u32) (b:Int)).toNat=a ^^^ b:=by show(BitVec.ofInt 32 (a:Int) ^^^ BitVec.ofInt 32 (b:Int)).toNat=a ^^^ b;rw[BitVec.ofInt_natCast,BitVec.ofInt_natCast,BitVec.toNat_xor,BitVec.toNat_ofNat,BitVec.toNat_ofNat,Ax (by simpa using c),Ax (by simpa using d)]
 rw[f,wrap_u32,Ax (by simpa using e)]
theorem AQL {a b:Nat}(c:a<4294967296)(d:b<4294967296):dY .u32 (a:Int) (b:Int)=((a ||| b:Nat):Int):=by
 have e:a ||| b<2^32:=Ks (by simpa using c) (by simpa using d);unfold dY;have f:(BitVec.ofInt (IntKind.bits .u32) (a:Int) ||| BitVec.ofInt (IntKind.bits .u32) (b:Int)).toNat=a ||| b:=by show(BitVec.ofInt 32 (a:Int) ||| BitVec.ofInt 32 (b:Int)).toNat=a ||| b;rw[BitVec.ofInt_natCast,BitVec.ofInt_natCast,BitVec.toNat_or,BitVec.toNat_ofNat,BitVec.toNat_ofNat,Ax (by simpa using c),Ax (by simpa using d)]
 rw[f,wrap_u32,Ax (by simpa using e)]
theorem qo {a b:Nat}(c:a<18446744073709551616)(d:b<18446744073709551616):dY .u64 (a:Int) (b:Int)=((a ||| b:Nat):Int):=by
 have e:a ||| b<2^64:=Ks (by simpa using c) (by simpa using d);unfold dY;have f:(BitVec.ofInt (IntKind.bits .u64) (a:Int) ||| BitVec.ofInt (IntKind.bits .u64) (b:Int)).toNat=a ||| b:=by show(BitVec.ofInt 64 (a:Int) ||| BitVec.ofInt 64 (b:Int)).toNat=a ||| b;rw[BitVec.ofInt_natCast,BitVec.ofInt_natCast,BitVec.toNat_or,BitVec.toNat_ofNat,BitVec.toNat_ofNat,Ax (by simpa using c),Ax (by simpa using d)]
 rw[f,wrap_u64,Ax (by simpa using e)]
theorem qp(a b:Nat):((a:Nat):Int)*((b:Nat):Int)=((a*b:Nat):Int):=(Int.natCast_mul a b).symm
def hA(a c:Nat):Nat:=((a ^^^ c)*16777619) % 4294967296
def hX(b c:Nat):Nat:=((b+c) % 4294967296*2246822507) % 4294967296
def hB(b c:Nat):Nat:=hX b c ^^^ (hX b c / 8192)
def TG(l:List UInt8):Nat×Nat:=l.foldl (λs c=>(hA s.1 c.toNat,hB s.2 c.toNat)) (2166136261,2538058380)
def lD(a:A2O):Nat:=(TG a.data.toList).1
def nE(a:A2O):Nat:=(TG a.data.toList).2 ||| 1
theorem ARk(a c:Nat):hA a c<4294967296:=Cp _ (by decide)
theorem uW(b c:Nat):hX b c<4294967296:=Cp _ (by decide)
theorem ART(b c:Nat):hB b c<4294967296:=by have a:=uW b c;have:hB b c<2^32:=Lk (by simpa using a) (by have:hX b c / 8192<=hX b c:=RR _ _;omega);simpa using this
theorem uX(l:List UInt8)(c:UInt8):TG (l++ [c])=(hA (TG l).1 c.toNat,hB (TG l).2 c.toNat):=by simp[TG]
theorem uY(l:List UInt8):(TG l).1<4294967296/\(TG l).2<4294967296:=by
 rw[<- List.reverse_reverse l];cases l.reverse with
 |nil=>decide
 |cons c r=>rw[SD,uX];exact⟨ARk _ _,ART _ _⟩
theorem uZ(a:A2O):lD a<4294967296:=(uY _).1
theorem Ot {a c:Nat}(b:a<4294967296)(d:c<256):J8 .u32 ((YI .u32 (a:Int) (J8 .u32 (c:Int)))*(16777619:Int))=((hA a c:Nat):Int):=by rw[wrap_u32,Ax (by omega),Tq b (by omega),show((a ^^^ c:Nat):Int)*(16777619:Int)=(((a ^^^ c)*16777619:Nat):Int) from qp _ 16777619,wrap_u32];rfl
theorem ARO {b c:Nat}(a:b<4294967296)(d:c<256):J8 .u32 ((J8 .u32 ((b:Int)+(J8 .u32 (c:Int))))*(2246822507:Int))=((hX b c:Nat):Int):=by rw[wrap_u32 c,Ax (by omega),show((b:Int)+(c:Int))=((b+c:Nat):Int) by push_cast;rfl,wrap_u32,show(((b+c) % 4294967296:Nat):Int)*(2246822507:Int)=(((b+c) % 4294967296*2246822507:Nat):Int) from qp _ 2246822507,wrap_u32];rfl
theorem Pj(n a:Nat):((n:Nat):Int).fdiv ((2:Int)^a)=((n / 2^a:Nat):Int):=by
 rw[Wc _ (by have:=Int.pow_pos (n:=2) (m:=a) (by decide);omega)]
 push_cast;rfl
theorem ARh {b c:Nat}(a:b<4294967296)(d:c<256):YI .u32 (J8 .u32 ((J8 .u32 ((b:Int)+(J8 .u32 (c:Int))))*(2246822507:Int))) ((J8 .u32 ((J8 .u32 ((b:Int)+(J8 .u32 (c:Int))))*(2246822507:Int))).fdiv ((2:Int)^(13:Nat)))=((hB b c:Nat):Int):=by have e:=uW b c;have f:hX b c / 2^13<=hX b c:=RR _ _;rw[ARO a d,Pj,Tq e (by omega)];rfl
theorem Oh {s:A2O}{i:Nat}{c:UInt8}(a:s.data.toList[i]? =some c):dw s ((i:Nat):Int)=((c.toNat:Nat):Int):=by
 have b:i<s.data.toList.length:=(List.getElem?_eq_some_iff.1 a).1;have d:i<s.size:=by simpa using b
 unfold dw;have e:((i:Nat):Int).toNat=i:=by omega
 rw[e];have f:s[i]? =some c:=by rw[getElem?_pos s i d];congr 1;have g:=(List.getElem?_eq_some_iff.1 a).2;rw[<- g];rw[Array.getElem_toList];rfl
 rw[f];rfl
def AX(l:List UInt8):A2O:=⟨l.toArray⟩
theorem Ce(l:List UInt8):(AX l).data.toList=l:=by simp[AX]
theorem Da(s:A2O):AX s.data.toList=s:=by simp[AX]
theorem AP(l:List UInt8):(AX l).size=l.length:=by simp[AX,ByteArray.size]
theorem Nf {a b:List UInt8}:AX a=AX b↔a=b:=⟨λc=>by simpa [AX] using congrArg (λs:A2O=>s.data.toList) c,λc=>by rw[c]⟩
def Cq(a:Nat):UInt8:=UInt8.ofNat a
theorem Dq {a:Nat}(b:a<256):(Cq a).toNat=a:=by simp[Cq,UInt8.toNat_ofNat'];omega
theorem vd(c:UInt8):Cq c.toNat=c:=by simp[Cq]
def BZ(a:Nat):List UInt8:=if a<128 then [Cq a] else Cq (a % 128+128)::BZ (a / 128)
termination_by a
decreasing_by omega
theorem FR {n:Nat}(a:n<128):BZ n= [Cq n]:=by rw[BZ,if_pos a]
theorem WS {n:Nat}(a: ¬n<128):BZ n=Cq (n % 128+128)::BZ (n / 128):=by rw[BZ,if_neg a]
def Lg:Nat->Nat->List UInt8->Option (Nat×List UInt8)
 |_,_,[]=>none
 |i,a,c::t=>
  if 10<=i\/(i=9/\1<c.toNat)\/(0<i/\c.toNat=0) then none
  else if c.toNat<128 then some (a+c.toNat*128^i,t) else Lg (i+1) (a+c.toNat % 128*128^i) t
theorem LK {i a:Nat}(b:i<=a):128^i<=128^a:=RE (by decide) b
theorem iA(t:List UInt8): ∀(b i a:Nat),b*128^i<18446744073709551616->(i=0\/0<b)->Lg i a (BZ b++t)=some (a+b*128^i,t):=by
 intro b
 induction b using Nat.strongRecOn with
 |ind b k=>
  intro i a h m;have n:0<128^i:=Nat.pos_of_ne_zero (Nat.pos_iff_ne_zero.1 (SJ (by decide)));by_cases e:b<128
  ·rw[FR e];simp only[DQ,Ds,Lg,Dq (show b<256 by omega)];rw[if_neg,if_pos e];rintro(c|⟨c,f⟩|⟨c,f⟩)
   ·have g:=LK c;have j:1*128^i<=b*128^i:=AS _ (by omega);have d:(128:Nat)^10=1180591620717411303424:=by decide
    omega
   ·subst c;have d:(128:Nat)^9=9223372036854775808:=by decide
    rw[d] at h;omega
   ·omega
  ·rw[WS e];have hd:b / 128<b:=by omega
   simp only[DQ,Lg,Dq (show b % 128+128<256 by omega)];rw[if_neg,if_neg (by omega),k (b / 128) hd]
   ·have l:(b % 128+128) % 128=b % 128:=by omega
    rw[l,DS,Ge,show b % 128*128^i+b / 128*(128^i*128)=(b % 128+128*(b / 128))*128^i by
     rw[BE,CT (128^i) 128,<-FG,CT (b / 128) 128],Nat.mod_add_div]
   ·have g:b / 128*128<=b:=Nat.div_mul_le_self _ _;have j:b / 128*128*128^i<=b*128^i:=AS _ g;rw[DS,CT (128^i) 128,<-FG];omega
   ·omega
   ·rintro(c|⟨c,f⟩|⟨c,f⟩)
    ·have g:=LK c;have j:128*128^i<=b*128^i:=AS _ (by omega);have d:(128:Nat)^10=1180591620717411303424:=by decide
     omega
    ·subst c;have d:(128:Nat)^9=9223372036854775808:=by decide
     rw[d] at h;omega
    ·omega
theorem vg: ∀(l:List UInt8) (i a n:Nat) (t:List UInt8),Lg i a l=some (n,t)-> ∃m,n=a+m*128^i/\l=BZ m++t/\m*128^i<18446744073709551616/\(i=0\/0<m)
 | [],i,a,n,t,b=>by simp[Lg] at b
 |c::l,i,a,n,t,b=>by
  simp only[Lg] at b;split at b
  ·cases b
  ·rename_i v;have w:c.toNat<256:=c.toNat_lt;split at b
   ·rename_i e;obtain⟨rfl,rfl⟩:=b;refine⟨c.toNat,rfl,by rw[FR e,vd];rfl,?_,by omega⟩;have x:i<=9:=by omega
    by_cases h:i=9
    ·subst h;have d:(128:Nat)^9=9223372036854775808:=by decide
     rw[d];omega
    ·have j:=LK (show i<=8 by omega);have d:(128:Nat)^8=72057594037927936:=by decide
     have k:c.toNat*128^i<=127*128^i:=AS _ (by omega);omega
   ·rename_i e;obtain⟨m,o,rfl,f,y⟩:=vg l (i+1) _ n t b;have p:0<m:=by omega
    refine⟨c.toNat % 128+128*m,?_,?_,?_,by omega⟩
    ·rw[o,DS,BE,Ge,CT (128^i) 128,<-FG,CT m 128]
    ·rw[WS (n:=c.toNat % 128+128*m) (by omega),show(c.toNat % 128+128*m) % 128+128=c.toNat by omega,show(c.toNat % 128+128*m) / 128=m by omega,vd];rfl
    ·rw[DS,CT (128^i) 128,<-FG] at f;have z:(18446744073709551616:Nat)=144115188075855872*128:=by decide
     have A:i<=8:=by
      refine OK λq=>?_
      have j:=LK (show 9<=i from q);have d:(128:Nat)^9=9223372036854775808:=by decide
      have k:1*128*128^i<=m*128*128^i:=AS _ (AS _ p);omega
     have g:(18446744073709551616:Nat)=128^(i+1)*(18446744073709551616 / 128^(i+1)):=by
      have:i=0\/i=1\/i=2\/i=3\/i=4\/i=5\/i=6\/i=7\/i=8:=by omega
      rcases this with rfl|rfl|rfl|rfl|rfl|rfl|rfl|rfl|rfl<;>decide
     have r:0<128^i:=Nat.pos_of_ne_zero (Nat.pos_iff_ne_zero.1 (SJ (by decide)));have s:m<18446744073709551616 / 128^(i+1):=by refine Nat.lt_of_mul_lt_mul_left (a:=128^(i+1)) ?_;rw[<- g,DS,CT,CT (128^i) 128,<-FG];exact f
     have u:128^(i+1)*(m+1)<=128^(i+1)*(18446744073709551616 / 128^(i+1)):=Nat.mul_le_mul_left _ s;rw[<- g,DS] at u;have B:(c.toNat % 128+128*m)*128^i<128*(m+1)*128^i:=Ss (by omega) r;have C:128*(m+1)*128^i=128^i*128*(m+1):=by rw[CT,<-FG]
     omega
theorem vm: ∀(b a:Nat),a<128^(b+1)->(BZ a).length<=b+1:=by
 intro b
 induction b with
 |zero=>intro a c;rw[FR (by simpa using c)];simp
 |succ b e=>
  intro a c;by_cases d:a<128
  ·rw[FR d];simp
  ·rw[WS d];have:=e (a / 128) (by rw[Nat.div_lt_iff_lt_mul (by decide),<-DS];exact c);simp;omega
theorem AV {n:Nat}(a:n<18446744073709551616):(BZ n).length<=10:=by refine vm 9 n (GC a ?_);decide
theorem lE {l:List UInt8}{a:Nat}{t:List UInt8}(d:Lg 0 0 l=some (a,t)):l=BZ a++t/\a<18446744073709551616:=by obtain⟨m,b,e,c,_⟩:=vg l 0 0 a t d;simp at b c;subst b;exact⟨e,c⟩
theorem Tx {a:Nat}(b:a<18446744073709551616)(t:List UInt8):Lg 0 0 (BZ a++t)=some (a,t):=by rw[iA t a 0 0 (by simpa using b) (.inl rfl)];simp
def lF(c:Nat):Nat:=if c % 2=1 then c / 2 ^^^ 3988292384 else c / 2
def nF:Nat->Nat->Nat
 |0,c=>c
 |k+1,c=>lF (nF k c)
def nG(c:Nat)(b:UInt8):Nat:=nF 8 (c ^^^ b.toNat)
def iB(l:List UInt8):Nat:=l.foldl nG 4294967295
def iQ(l:List UInt8):Nat:=4294967295-iB l
theorem ALI {c:Nat}(a:c<4294967296):lF c<4294967296:=by
 unfold lF;split
 ·exact Lk (n:=32) (by omega) (by decide)
 ·omega
theorem qs {c:Nat}(a:c<4294967296): ∀k,nF k c<4294967296
 |0=>a
 |k+1=>ALI (qs a k)
theorem APp {c:Nat}(a:c<4294967296)(b:UInt8):nG c b<4294967296:=by have d:b.toNat<256:=b.toNat_lt;exact qs (Lk (n:=32) a (by omega)) 8
theorem AL2(l:List UInt8)(b:UInt8):iB (l++ [b])=nG (iB l) b:=by simp[iB]
theorem vo(l:List UInt8):iB l<4294967296:=by
 unfold iB
 suffices ∀(l:List UInt8) (c:Nat),c<4294967296->l.foldl nG c<4294967296 from this l _ (by decide)
 intro l
 induction l with
 |nil=>exact λc a=>a
 |cons x l b=>exact λc a=>b _ (APp a x)
def QD(a:Nat):List UInt8:= [Cq (a / 16777216 % 256),Cq (a / 65536 % 256),Cq (a / 256 % 256),Cq (a % 256)]
theorem KA(a:Nat):(QD a).length=4:=rfl
def Cj(l:List UInt8):List UInt8:=BZ l.length++QD (iQ l)++l
def Ga(l:List UInt8):Nat×List UInt8×List UInt8:=
 match Lg 0 0 l with
 |none=>if l.length<10/\ ∀c∈l,128<=c.toNat then(20,[],[]) else(21,[],[])
 |some (a,r)=>
  if 1048576<a then(21,[],[]) else if r.length<4+a then(20,[],[])
  else if r.take 4=QD (iQ ((r.drop 4).take a)) then(0,(r.drop 4).take a,r.drop (4+a)) else(21,[],[])
theorem vq {l:List UInt8}(d:l.length<=1048576)(t:List UInt8):Ga (Cj l++t)=(0,l,t):=by
 unfold Ga Cj;rw[A4,A4,Tx (by omega)];dsimp only;rw[if_neg (by omega),if_neg (by simp[KA])];have b:(QD (iQ l)++(l++t)).take 4=QD (iQ l):=by rw[NO (by simp[KA])];exact AG (by simp[KA])
 have a:(QD (iQ l)++(l++t)).drop 4=l++t:=by rw[MD (by simp[KA])];simp[QD]
 have c:(l++t).take l.length=l:=by simp
 rw[b,a,c,if_pos rfl,<-HN,a];simp
structure Rd where
 rest:List UInt8
 bad:Bool
def Rd.fail:Rd:=⟨[],true⟩
def Gq(r:Rd):Nat×Rd:=if r.bad then(0,r) else match Lg 0 0 r.rest with|none=>(0,Rd.fail)|some (a,t)=>(a,⟨t,false⟩)
def Bw(a:Nat)(r:Rd):Nat×Rd:=if(Gq r).2.bad then(0,(Gq r).2) else if a<(Gq r).1 then(0,Rd.fail) else Gq r
def Jr(a:Nat)(r:Rd):List UInt8×Rd:=if r.bad then([],r) else if r.rest.length<a then([],Rd.fail) else(r.rest.take a,⟨r.rest.drop a,false⟩)
def FK(r:Rd):List UInt8×Rd:=if(Gq r).2.bad then([],(Gq r).2) else Jr (Gq r).1 (Gq r).2
def XV(r:Rd):Bool:= !r.bad&&r.rest.isEmpty
def BR(l:List UInt8):List UInt8:=BZ l.length++l
theorem vt {a:Nat}(b:a<18446744073709551616)(t:List UInt8):Gq ⟨BZ a++t,false⟩=(a,⟨t,false⟩):=by simp[Gq,Tx b]
theorem Ci {n most:Nat}(a:n<18446744073709551616)(b:n<=most)(t:List UInt8):Bw most ⟨BZ n++t,false⟩=(n,⟨t,false⟩):=by simp only[Bw,vt a];simp;omega
theorem vu(l t:List UInt8):Jr l.length ⟨l++t,false⟩=(l,⟨t,false⟩):=by simp[Jr];omega
theorem JD {l:List UInt8}(a:l.length<18446744073709551616)(t:List UInt8):FK ⟨BR l++t,false⟩=(l,⟨t,false⟩):=by simp only[FK,BR,A4,vt a,vu];simp
theorem AMX {r:Rd}(a:r.bad=true):Gq r=(0,r):=by simp[Gq,a]
theorem vv {r:Rd}(a:(Gq r).2.bad=false):r.bad=false/\r.rest=BZ (Gq r).1++(Gq r).2.rest/\(Gq r).1<18446744073709551616:=by
 unfold Gq at a ⊢;split at a
 ·rename_i b;rw[a] at b;cases b
 ·rename_i b;cases c:Lg 0 0 r.rest with
  |none=>rw[c] at a;cases a
  |some p=>
   obtain⟨f,t⟩:=p;obtain⟨d,e⟩:=lE c;simp only[b];exact⟨by simp,d,e⟩
theorem FM {r:Rd}{m:Nat}(a:(Bw m r).2.bad=false):r.bad=false/\r.rest=BZ (Bw m r).1++(Bw m r).2.rest/\(Bw m r).1<=m:=by
 unfold Bw at a ⊢;split at a
 ·rename_i b;rw[a] at b;cases b
 ·split at a
  ·cases a
  ·rename_i b c;rw[if_neg b,if_neg c];obtain⟨d,e,_⟩:=vv a;exact⟨d,e,by omega⟩
theorem AJQ {r:Rd}{a:Nat}(b:(Jr a r).2.bad=false):r.bad=false/\r.rest=(Jr a r).1++(Jr a r).2.rest/\(Jr a r).1.length=a:=by
 unfold Jr at b ⊢;split at b
 ·rename_i c;rw[b] at c;cases c
 ·split at b
  ·cases b
  ·rename_i c d;rw[if_neg c,if_neg d];exact⟨by simpa using c,by simp,by simp;omega⟩
theorem Qc {r:Rd}(b:(FK r).2.bad=false):r.bad=false/\r.rest=BR (FK r).1++(FK r).2.rest:=by
 unfold FK at b ⊢;split at b
 ·rename_i a;rw[b] at a;cases a
 ·rename_i a;rw[if_neg a];obtain⟨c,d,_⟩:=vv (r:=r) (by simpa using a);obtain⟨_,e,f⟩:=AJQ b;refine⟨c,?_⟩;rw[d,e,BR,A4];rw[f]
theorem SI(r:Rd):(Gq r).2.rest.length<=r.rest.length:=by
 unfold Gq;split
 ·exact A0 _
 ·split
  ·simp[Rd.fail]
  ·rename_i c t a;obtain⟨b,_⟩:=lE a;rw[b];simp
theorem FV(m:Nat)(r:Rd):(Bw m r).2.rest.length<=r.rest.length:=by
 unfold Bw;split
 ·exact SI r
 ·split
  ·simp[Rd.fail]
  ·exact SI r
theorem ALP(a:Nat)(r:Rd):(Jr a r).2.rest.length<=r.rest.length/\(Jr a r).1.length<=r.rest.length:=by
 unfold Jr;split
 ·simp
 ·split
  ·simp[Rd.fail]
  ·simp;omega
theorem NP(r:Rd):(FK r).2.rest.length<=r.rest.length/\(FK r).1.length<=r.rest.length:=by
 unfold FK;split
 ·exact⟨SI r,by simp⟩
 ·have:=ALP (Gq r).1 (Gq r).2;have:=SI r;omega
def Gs:cy UInt8 where
 enc x:= [.int .u8 (x.toNat:Int)]
 w:=1
 len _:=rfl
 pos:=by omega
 one x v a:=by simp at a;subst a;rfl
theorem Cells.byte {b:aa}{a:Q6}{x:UInt8}(c:Cells b a (Gs.enc x)):ag b a=some (.int .u8 (x.toNat:Int)):=by have d:=c 0 _ rfl;rwa [add_zero] at d
theorem vx: ∀(l:List UInt8) (s:A2O),(l.map λc=>(c.toNat:Int)).foldl (λr a=>r.push (UInt8.ofNat a.toNat)) s=⟨s.data++l.toArray⟩
 | [],s=>by simp
 |c::l,s=>by
  simp only[BT,HU];rw[vx l];simp[ByteArray.push,Array.append_assoc]
theorem Jy {e:al}{P:Q1}{g h i:Q7}(m:P.underlying g=some (.slice i))(n:P.underlying i=some (.int .u8))(hd:P.underlying h=some .string){b:aa}{s:Sl}{l:List UInt8}{K:A2N}
  (v:View Gs b s l) (o:K (.string (AX l)) b):BF e P (convert g h (.slice s.p s.len s.cap)) b K:=by
 have p:=v.len;refine λf=>⟨_,b,f,?_,o⟩
 rw[run_convert_bytes_string _ g h i _ s.len s.cap m n hd];cases j:s.p with
 |none=>
  have q:l= []:=by
   cases l with
   |nil=>rfl
   |cons c l=>
    obtain⟨a,d,_⟩:=v.cells 0 c rfl;rw[j] at d;cases d
  subst q;simp[Conv.bytesToString,AX];rfl
 |some a=>
  have r:(loadCells a s.len).run P (e.at b f)= .ok ((l.map λc=>(c.toNat:Int)).map (Value.int .u8)).toArray (e.at b f):=by
   have:=run_loadCells_list (P:=P) (w:=e.at b f) a ((l.map λc=>(c.toNat:Int)).map (Value.int .u8)) (λt u k=>by
    simp only[Bs,Option.map_map,Option.map_eq_some_iff] at k;obtain⟨c,x,rfl⟩:=k;obtain⟨z,d,y⟩:=v.cells t c x;rw[j] at d;cases d;have:=Cells.byte y;simp only[Gs,Bk] at this;exact this)
   simpa [p] using this
  rw[run_bytesToString _ a s.len s.cap _ r,vx];simp[AX,ByteArray.empty,ByteArray.emptyWithCapacity];rfl
theorem dQ(s:A2O)(i a:Nat):s.extract i a=AX ((s.data.toList.take a).drop i):=by apply SM;rw[SO,AX];apply Array.toList_inj.1;simp[SP,List.extract_eq_take_drop,List.drop_take]
theorem vz(s:A2O):s.data.toList.length=s.size:=by rw[F0];rfl
theorem qt(s:A2O)(i:Nat):s.extract i s.size=AX (s.data.toList.drop i):=by rw[dQ,AG (by rw[vz];exact A0 _)]
theorem AMW(s:A2O)(i:Nat):s.extract 0 i=AX (s.data.toList.take i):=by rw[dQ];simp
theorem wrap_u8(a:Nat):J8 .u8 (a:Int)=((a % 256:Nat):Int):=by simp[J8,IntKind.bits,IntKind.signed]
theorem vA {a b:Nat}(c:a<256)(d:b<256):dY .u8 (a:Int) (b:Int)=((a ||| b:Nat):Int):=by
 have e:a ||| b<2^8:=Ks (by simpa using c) (by simpa using d);unfold dY;have f:(BitVec.ofInt (IntKind.bits .u8) (a:Int) ||| BitVec.ofInt (IntKind.bits .u8) (b:Int)).toNat=a ||| b:=by show(BitVec.ofInt 8 (a:Int) ||| BitVec.ofInt 8 (b:Int)).toNat=a ||| b;rw[BitVec.ofInt_natCast,BitVec.ofInt_natCast,BitVec.toNat_or,BitVec.toNat_ofNat,BitVec.toNat_ofNat,Ax (by simpa using c),Ax (by simpa using d)]
 rw[f,wrap_u8,Ax (by simpa using e)]
theorem vB {a b:Nat}(c:a<256)(d:b<256):GG .u8 (a:Int) (b:Int)=((a &&& b:Nat):Int):=by
 have e:a &&& b<2^8:=RM Nat.and_le_left (by simpa using c);unfold GG;have f:(BitVec.ofInt (IntKind.bits .u8) (a:Int) &&& BitVec.ofInt (IntKind.bits .u8) (b:Int)).toNat=a &&& b:=by show(BitVec.ofInt 8 (a:Int) &&& BitVec.ofInt 8 (b:Int)).toNat=a &&& b;rw[BitVec.ofInt_natCast,BitVec.ofInt_natCast,BitVec.toNat_and,BitVec.toNat_ofNat,BitVec.toNat_ofNat,Ax (by simpa using c),Ax (by simpa using d)]
 rw[f,wrap_u8,Ax (by simpa using e)]
theorem APT {a b:Nat}(c:a<4294967296)(d:b<4294967296):GG .u32 (a:Int) (b:Int)=((a &&& b:Nat):Int):=by
 have e:a &&& b<2^32:=RM Nat.and_le_left (by simpa using c);unfold GG;have f:(BitVec.ofInt (IntKind.bits .u32) (a:Int) &&& BitVec.ofInt (IntKind.bits .u32) (b:Int)).toNat=a &&& b:=by show(BitVec.ofInt 32 (a:Int) &&& BitVec.ofInt 32 (b:Int)).toNat=a &&& b;rw[BitVec.ofInt_natCast,BitVec.ofInt_natCast,BitVec.toNat_and,BitVec.toNat_ofNat,BitVec.toNat_ofNat,Ax (by simpa using c),Ax (by simpa using d)]
 rw[f,wrap_u32,Ax (by simpa using e)]
theorem ARz: ∀x,x<256->x ||| 128=x % 128+128:=by decide +kernel
theorem AQn: ∀x,x<256->x &&& 127=x % 128:=by decide +kernel
theorem AOa(c:Nat):dY .u8 (J8 .u8 (c:Int)) (128:Int)=(((Cq (c % 128+128)).toNat:Nat):Int):=by have d:=vA (a:=c % 256) (b:=128) (Cp _ (by decide)) (by decide);rw[wrap_u8];rw[show(128:Int)=((128:Nat):Int) from rfl,d,ARz _ (Cp _ (by decide)),Dq (by omega)];congr 1;omega
theorem qv(i:Nat):2^(7*i)=128^i:=by rw[Nat.pow_mul]
theorem APB {a x i:Nat}(d:i<=9)(e:a<128^i)(f:x<128):dY .u64 (a:Int) (((x*128^i % 18446744073709551616:Nat)):Int)=((a+x*128^i % 18446744073709551616:Nat):Int):=by
 have g:0<128^i:=SJ (by decide);have h:=LK d;have j:(128:Nat)^9=9223372036854775808:=by decide
 rw[qo (by omega) (Cp _ (by decide))];congr 1;have b: ∃c,(18446744073709551616:Nat)=128^i*c:=by
  have:i=0\/i=1\/i=2\/i=3\/i=4\/i=5\/i=6\/i=7\/i=8\/i=9:=by omega
  refine⟨18446744073709551616 / 128^i,?_⟩;rcases this with rfl|rfl|rfl|rfl|rfl|rfl|rfl|rfl|rfl|rfl<;>decide
 obtain⟨c,b⟩:=b;rw[b,CT x,Nat.mul_mod_mul_left,<-qv,Nat.or_comm,Nat.add_comm];exact(A0K (by rw[qv];exact e) _).symm
theorem AQ9 {x i:Nat}(b:i<=9)(c:x<128):J8 .u64 (((x:Nat):Int)*((2:Int)^(min ((7*i:Nat):Int).toNat (IntKind.bits .u64))))=((x*128^i % 18446744073709551616:Nat):Int):=by
 have a:min ((7*i:Nat):Int).toNat (IntKind.bits .u64)=7*i:=by have:IntKind.bits .u64=64:=rfl;omega
 rw[a,show((2:Int)^(7*i))=((2^(7*i):Nat):Int) by simp,qp,wrap_u64,qv]
theorem Mod.more {a d e:aa}{f:Nat->Prop}(x:Ext a d)(m:Mod f d e)(g: ∀b,f b->a.size<=b):Ext a e:=
 Mod.then x (m.ai λc _ h=> .inr (g c h))
abbrev bl(s:A2O):List UInt8:=s.data.toList
theorem BA(s:A2O):(bl s).length=s.size:=vz s
theorem EE(l:List UInt8):bl (AX l)=l:=Ce l
def Ap(s:A2O):Bool:=decide (1<=s.size/\s.size<=16/\ ∀c∈bl s,33<=c.toNat/\c.toNat<=126)
theorem Gz {s:A2O}:Ap s=true↔1<=s.size/\s.size<=16/\ ∀c∈bl s,33<=c.toNat/\c.toNat<=126:=by simp[Ap]
structure bP where
 kind:Int
 name:A2O
 aL:A2O
 tries:Int
 aw:Int
 wait:Int
def bP.cells(x:bP):Array J0:= #[J6 J9 x.kind,J7 x.name,J7 x.aL,J6 J9 x.tries,J6 J9 x.aw,J6 J9 x.wait]
def QS:cy bP where
 enc x:= [J6 J9 x.kind,J7 x.name,J7 x.aL,J6 J9 x.tries,J6 J9 x.aw,J6 J9 x.wait]
 w:=6
 len _:=rfl
 pos:=by omega
 one x v a:=by simp at a;rcases a with rfl|rfl|rfl|rfl|rfl|rfl<;>rfl
abbrev Gw:A2O:=⟨#[]⟩
def bU(a b c:Int):Bool:=decide (b<=a/\a<=c)
theorem BX {a b c:Int}:bU a b c=true↔b<=a/\a<=c:=by simp[bU]
def MF(x:bP):Bool:=
 if x.kind=1 then((decide (x.aL=Gw)&&decide (x.aw=0))||(Ap x.aL&&bU x.aw 1 5))&&Ap x.name&&bU x.tries 1 5&&decide (x.wait=0)
 else if x.kind=2 then decide (x.name=Gw)&&decide (x.aL=Gw)&&decide (x.tries=0)&&decide (x.aw=0)&&bU x.wait 1 1000
 else if x.kind=3 then decide (x.aL=Gw)&&decide (x.tries=0)&&decide (x.aw=0)&&decide (x.wait=0)&&Ap x.name
 else false
structure cA where
 steps:List bP
 aA:Int
def Fb(p:cA):Bool:=decide (p.steps.length<=16)&&bU p.aA 0 16000&&p.steps.all MF
def Gi(x:bP):List UInt8:=BZ x.kind.toNat++
 (if x.kind=1 then BR (bl x.name)++BZ x.tries.toNat++BR (bl x.aL)++BZ x.aw.toNat else if x.kind=2 then BZ x.wait.toNat else BR (bl x.name))
def CP(p:cA):List UInt8:=BZ p.aA.toNat++BZ p.steps.length++p.steps.flatMap Gi
def Lj(g e h:Nat)(i:Bool)(r:Rd):bP×Rd:=
 let d:=Bw g r
 if d.1=1 then
  let a:=FK d.2
  let b:=Bw e a.2
  let c:=FK b.2
  let f:=Bw e c.2
  (⟨1,AX a.1,AX c.1,b.1,f.1,0⟩,f.2)
 else if d.1=2 then
  let a:=Bw h d.2
  (⟨2,Gw,Gw,0,0,a.1⟩,a.2)
 else if d.1=3\/i=true then
  let a:=FK d.2
  (⟨d.1,AX a.1,Gw,0,0,0⟩,a.2)
 else(⟨d.1,Gw,Gw,0,0,0⟩,d.2)
def G5(a b c:Nat)(d:Bool):Nat->Rd->List bP×Rd
 |0,r=>([],r)
 |n+1,r=>let x:=Lj a b c d r;let e:=G5 a b c d n x.2;(x.1::e.1,e.2)
def Xb(c d e f:Nat)(g:Bool)(l:List UInt8):cA×Rd:=
 let a:=Bw c ⟨l,false⟩
 let b:=Bw 16 a.2
 let s:=G5 d e f g b.1 b.2
 (⟨s.1,a.1⟩,s.2)
def Iy(l:List UInt8):Option cA:=let x:=Xb 16000 3 5 1000 false l;if XV x.2&&Fb x.1 then some x.1 else none
theorem tT {r:Rd}:XV r=true↔r=⟨[],false⟩:=by obtain⟨l,b⟩:=r;cases b<;>cases l<;>simp[XV]
theorem ANX {a b c:Int}(d:bU a b c=true)(e:0<=b):((a.toNat:Nat):Int)=a:=by rw[BX] at d;omega
theorem ALO {c f h:Nat}{q:Bool}(r:3<=c)(G:5<=f)(H:1000<=h){x:bP}(a:MF x=true)(t:List UInt8):Lj c f h q ⟨Gi x++t,false⟩=(x,⟨t,false⟩):=by
 obtain⟨I,o,p,u,i,v⟩:=x;have j: ∀ {s:A2O},s.size<=16->(bl s).length<18446744073709551616:=λg=>by rw[BA];omega
 have k: ∀ {s:A2O},Ap s=true->s.size<=16:=λg=>(Gz.1 g).2.1
 unfold MF at a;split at a
 ·rename_i b;simp only at b;subst b;simp only[A3,Cl,decide_eq_true_eq] at a;obtain⟨⟨⟨w,m⟩,y⟩,rfl⟩:=a;have z:p.size<=16/\0<=i/\i<=5:=by
   rcases w with⟨rfl,rfl⟩|⟨g,A⟩
   ·exact⟨by decide,by omega,by omega⟩
   ·rw[BX] at A;exact⟨k g,by omega,by omega⟩
  rw[BX] at y;have d:=Ci (n:=(1:Int).toNat) (most:=c) (by decide) (by simpa using(by omega:1<=c));have e:=JD (l:=bl o) (j (k m));have B:=Ci (n:=u.toNat) (most:=f) (by omega) (by omega);have C:=JD (l:=bl p) (j z.1);have D:=Ci (n:=i.toNat) (most:=f) (by omega) (by omega);simp only[Lj,Gi,if_true,A4,d,e,B,C,D];rw[if_pos (by decide)];simp[Da];omega
 ·split at a
  ·rename_i E b;simp only at b;subst b;simp only[A3,decide_eq_true_eq] at a;obtain⟨⟨⟨⟨rfl,rfl⟩,rfl⟩,rfl⟩,F⟩:=a;rw[BX] at F;have d:=Ci (n:=(2:Int).toNat) (most:=c) (by decide) (by simpa using(by omega:2<=c));have e:=Ci (n:=v.toNat) (most:=h) (by omega) (by omega);simp only[Lj,Gi,if_true,A4,d];rw[if_neg (by decide),if_pos (by decide),if_neg (by decide),e];simp;omega
  ·split at a
   ·rename_i E J b;simp only at b;subst b;simp only[A3,decide_eq_true_eq] at a;obtain⟨⟨⟨⟨rfl,rfl⟩,rfl⟩,rfl⟩,m⟩:=a;have d:=Ci (n:=(3:Int).toNat) (most:=c) (by decide) (by simpa using r);have e:=JD (l:=bl o) (j (k m));simp only[Lj,Gi,if_true,A4,d];rw[if_neg (by decide),if_neg (by decide),if_pos (.inl (by decide)),if_neg (by decide),if_neg (by decide),e];simp[Da]
   ·cases a
theorem tU {b c d:Nat}{all:Bool}(e:3<=b)(f:5<=c)(g:1000<=d)(t:List UInt8): ∀ {l:List bP},l.all MF=true->G5 b c d all l.length ⟨l.flatMap Gi++t,false⟩=(l,⟨t,false⟩)
 | [],_=>rfl
 |x::l,a=>by
  simp only[MY,A3] at a;simp only[A5,G5,AH,A4,ALO e f g a.1,tU e f g t a.2]
theorem AK1 {a b c d:Nat}{all:Bool}(s:16000<=a)(h:3<=b)(i:5<=c)(j:1000<=d){p:cA}(e:Fb p=true):Xb a b c d all (CP p)=(p,⟨[],false⟩):=by obtain⟨l,k⟩:=p;simp only[Fb,A3,decide_eq_true_eq] at e;obtain⟨⟨m,f⟩,o⟩:=e;have t:=BX.1 f;have q:=Ci (n:=k.toNat) (most:=a) (by omega) (by omega);have r:=Ci (n:=l.length) (most:=16) (by omega) m;have g:=tU (all:=all) h i j [] o;rw[AM] at g;simp only[Xb,CP,A4,q,r,g,ANX f (by decide)]
theorem tV {p:cA}(a:Fb p=true):Iy (CP p)=some p:=by simp only[Iy,AK1 (A0 _) (A0 _) (A0 _) (A0 _) a,a];rfl
theorem AJH {i j k:Nat}{l:Bool}{r:Rd}(a:(Lj i j k l r).2.bad=false):r.bad=false/\(MF (Lj i j k l r).1=true->r.rest=Gi (Lj i j k l r).1++(Lj i j k l r).2.rest):=by
 unfold Lj at a ⊢;simp only at a ⊢;split at a
 ·rename_i b;obtain⟨n,o,_⟩:=FM a;obtain⟨p,q⟩:=Qc n;obtain⟨s,t,_⟩:=FM p;obtain⟨f,g⟩:=Qc s;obtain⟨c,e,_⟩:=FM f;refine⟨c,λ_=>?_⟩;rw[if_pos b];simp only[Gi,if_true,EE,A6];rw[e,b,g,t,q,o];simp[A4]
 ·split at a
  ·rename_i h b;obtain⟨f,g,_⟩:=FM a;obtain⟨c,e,_⟩:=FM f;refine⟨c,λ_=>?_⟩;rw[if_neg h,if_pos b];simp only[Gi,A6];rw[if_neg (by decide),if_pos trivial,e,b,g];simp[A4]
  ·split at a
   ·rename_i h m b;obtain⟨f,g⟩:=Qc a;obtain⟨c,e,_⟩:=FM f;refine⟨c,λd=>?_⟩;rw[if_neg h,if_neg m,if_pos b] at d ⊢;simp only[Gi,EE,A6];rw[if_neg (by omega),if_neg (by omega),e,g];simp[A4]
   ·rename_i h m b;obtain⟨c,e,_⟩:=FM a;refine⟨c,λd=>?_⟩;rw[if_neg h,if_neg m,if_neg b] at d;exfalso;unfold MF at d;simp only at d;rw[if_neg (by omega),if_neg (by omega),if_neg (by omega)] at d;cases d
theorem tW {a b c:Nat}{d:Bool}: ∀(n:Nat) {r:Rd},(G5 a b c d n r).2.bad=false->r.bad=false/\(G5 a b c d n r).1.length=n/\((G5 a b c d n r).1.all MF=true->r.rest=(G5 a b c d n r).1.flatMap Gi++(G5 a b c d n r).2.rest)
 |0,r,e=>⟨e,rfl,λ_=>rfl⟩
 |n+1,r,e=>by
  simp only[G5] at e ⊢;obtain⟨g,h,i⟩:=tW n e;obtain⟨j,k⟩:=AJH g;refine⟨j,by simp[h],λf=>?_⟩;simp only[MY,A3] at f;rw[k f.1,i f.2];simp[A4]
theorem ZO {l:List UInt8}{p:cA}(a:Iy l=some p):Fb p=true/\CP p=l:=by
 unfold Iy at a;simp only at a;split at a
 ·rename_i f;simp only[A3] at f;obtain⟨d,b⟩:=f;obtain rfl:=C2 a;refine⟨b,?_⟩;rw[tT] at d;have g:(Xb 16000 3 5 1000 false l).2.bad=false:=by rw[d]
  have h:(Xb 16000 3 5 1000 false l).2.rest= []:=by rw[d]
  simp only[Xb] at g h b ⊢;obtain⟨i,j,c⟩:=tW _ g;obtain⟨k,m,_⟩:=FM i;obtain⟨n,e,_⟩:=FM k;simp only[Fb,A3] at b;have c:=c b.2;rw[h,AM] at c;simp only[CP,A6,j];have e:l=BZ (Bw 16000 ⟨l,false⟩).1++(Bw 16000 ⟨l,false⟩).2.rest:=e;rw[<- c,A4,<-m,<-e]
 ·cases a
inductive Fv where
 |i (n:Int)
 |s (x:A2O)
 |b (x:Bool)
 deriving DecidableEq
def Fv.v:Fv->J0
 | .i a=>J6 J9 a
 | .s x=>J7 x
 | .b x=>J3 x
def Fv.ok(P:Q1)(t:Q7):Fv->Bool
 | .i _=>match P.underlying t with|some (.int J9)=>true|_=>false
 | .s _=>match P.underlying t with|some .string=>true|_=>false
 | .b _=>match P.underlying t with|some .bool=>true|_=>false
def pV:Fv->Fv->Bool
 | .i _,.i _=>true
 | .s _,.s _=>true
 | .b _,.b _=>true
 |_,_=>false
def jU(P:Q1):Nat->List Field->List Fv->Bool
 |_,[],[]=>true
 |i,f::a,x::b=> !(f.name==String.ofList [Char.ofNat 95])&&Nat.beq f.offset i&&x.ok P f.type&&jU P (i+1) a b
 |_,_,_=>false
def cV:List Fv->List Fv->Bool
 | [],[]=>true
 |x::a,b::c=>pV x b&&cV a c
 |_,_=>false
theorem APP {P:Q1}{e:Nat}{t:Q7}{x f:Fv}(g:x.ok P t=true)(h:pV x f=true)(c:World):(Op.equalIn (e+1) t x.v f.v).run P c= .ok (decide (x=f)) c:=by
 cases x<;>cases f<;>simp only[pV,Cd] at h<;>simp only[Fv.ok] at g<;>split at g<;>(try cases g)
 ·rename_i i m _ d;simp only[Fv.v];rw[run_equalIn_int c e t J9 J9 i m d];simp only[Fv.i.injEq];rfl
 ·rename_i a b _ d;simp only[Fv.v];rw[run_equalIn_string c e t a b d,toList_inj];simp only[Fv.s.injEq]
 ·rename_i a b _ d;simp only[Fv.v];rw[run_equalIn_bool' c e t a b d];simp only[Fv.b.injEq];cases a<;>cases b<;>rfl
theorem Fv.plain {P:Q1}{t:Q7}{x:Fv}(a:x.ok P t=true):P.plainKey t=true:=by cases x<;>simp only[Fv.ok] at a<;>split at a<;>(try cases a)<;>(rename_i b;simp[Program.plainKey,b])
theorem APG {P:Q1}{t:Nat}(e g:List Fv)(c:World): ∀(h:List Field) (a b:List Fv) (i:Nat),e.drop i=a->g.drop i=b->jU P i h a=true->cV a b=true->
  (Op.eqFields (t+1) (e.map Fv.v).toArray (g.map Fv.v).toArray h).run P c= .ok (decide (a=b)) c:=by
 intro h
 induction h with
 |nil=>
  intro a b i m n j d;cases a with
  |nil=>
   cases b with
   |nil=>simp[Op.eqFields]
   |cons k b=>simp[cV] at d
  |cons x a=>simp[jU] at j
 |cons f h u=>
  intro a b i m n j d;cases a with
  |nil=>simp[jU] at j
  |cons x a=>
   cases b with
   |nil=>simp[cV] at d
   |cons k b=>
    simp only[jU,cV,A3,Nat.beq_eq] at j d;obtain⟨⟨⟨p,q⟩,o⟩,v⟩:=j;have w:e[i]? =some x:=by have:=congrArg (λl:List Fv=>l[0]?) m;simpa [Bm] using this
    have y:g[i]? =some k:=by have:=congrArg (λl:List Fv=>l[0]?) n;simpa [Bm] using this
    have z:e.drop (i+1)=a:=by rw[<- HN,m];rfl
    have A:g.drop (i+1)=b:=by rw[<- HN,n];rfl
    have B:(part f.type (e.map Fv.v).toArray f.offset).run P c= .ok x.v c:=run_part_plain c (Fv.plain o) (by rw[q];simp[w]);have C:(part f.type (g.map Fv.v).toArray f.offset).run P c= .ok k.v c:=run_part_plain c (Fv.plain o) (by rw[q];simp[y]);have D:=u a b (i+1) z A v d.2
    have E : String.ofList [Char.ofNat 95] = "_" := by decide
    rw[E] at p
    have r : (f.name == "_") = false := by simpa using p
    simp only[Op.eqFields,r,Sem.run_bind,Sem.run_ite,B,C,Result.andThen_ok,APP o d.1];by_cases s:x=k
    ·simp[s,D,Result.andThen]
    ·have F : f.name ≠ "_" := by simpa using r
     simp[s,Result.andThen,F]
def pW(P:Q1)(t:Q7)(a:List Fv):Bool:= !P.stoodInHeld t&& !P.eqGuardType P.depth t&&jU P 0 (P.fieldsOf t).toList a
theorem tX {e:al}{P:Q1}{t:Q7}{f g:Operand}{xs ys:List Fv}(h:P.underlying t=some (.struct (P.fieldsOf t)))(a:pW P t xs=true)(i:cV xs ys=true){b c:Array J0}
  (j:b=(xs.map Fv.v).toArray) (k:c=(ys.map Fv.v).toArray) {d:aa} {K:A2N} (l:K (J3 (decide (xs=ys))) d):
  BF e P (do eqGuard .eql t f g (.agg b) (.agg c);binOp .eql t (.agg b) (.agg c)) d K:=by
 simp only[pW,A3,CA] at a;subst j;subst k;refine λm=>⟨_,d,m,?_,l⟩
 rw[Sem.run_bind,run_eqGuard_agg _ _ _ _ _ _ _ a.1.2,Result.andThen_ok,run_eql_struct,run_equalIn_agg _ _ _ _ _ h a.1.1,APG xs ys _ _ xs ys 0 rfl rfl a.2 i];rfl
theorem ab.two {a:aa}{b:Nat}{T:Q7}{f g d v1:J0}{K:aa->Prop}(h:a[b]? =some (J2 #[f,g] T (0,0)))
  (i: ∀c,c[b]? =some (J2 #[d,v1] T (0,0))->Mod (· =b) a c->c.size=a.size->K c):
  ab a ⟨b,0,none⟩ d λe=>ab e ((⟨b,0,none⟩:Q6).add 1) v1 K:=by
 refine ab.mk h (by simp) λe j k o=>?_
 rw[Bb];refine ab.mk j (by simp) λl m n p=>i l (by simpa using m) (k.trans n) (by omega)
theorem ab.nY {a:aa}{b:Nat}{T:Q7}{m n o p q r d v1 v2 e f g:J0}{K:aa->Prop}(s:a[b]? =some (J2 #[m,n,o,p,q,r] T (0,0)))
  (t: ∀c,c[b]? =some (J2 #[d,v1,v2,e,f,g] T (0,0))->Mod (· =b) a c->c.size=a.size->K c):
  ab a ⟨b,0,none⟩ d λh=>ab h ((⟨b,0,none⟩:Q6).add 1) v1 λi=>ab i ((⟨b,0,none⟩:Q6).add 2) v2 λj=>ab j ((⟨b,0,none⟩:Q6).add 3) e λk=>ab k ((⟨b,0,none⟩:Q6).add 4) f λl=>
   ab l ((⟨b,0,none⟩:Q6).add 5) g K:=by
 refine ab.mk s (by simp) λh u v H=>?_
 rw[Bb,Bb,Bb,Bb,Bb];refine ab.mk u (by simp) λi w x I=>?_
 refine ab.mk w (by simp) λj y z J=>?_
 refine ab.mk y (by simp) λk A B L=>?_
 refine ab.mk A (by simp) λl C D M=>?_
 refine ab.mk C (by simp) λE F G N=>t E (by simpa using F) (((((v.trans x).trans z).trans B).trans D).trans G) (by omega)
theorem ab.eight {a:aa}{b:Nat}{T:Q7}{q r s t u v w x d v1 v2 e f g h i:J0}{K:aa->Prop}(y:a[b]? =some (J2 #[q,r,s,t,u,v,w,x] T (0,0)))
  (z: ∀c,c[b]? =some (J2 #[d,v1,v2,e,f,g,h,i] T (0,0))->Mod (· =b) a c->c.size=a.size->K c):
  ab a ⟨b,0,none⟩ d λj=>ab j ((⟨b,0,none⟩:Q6).add 1) v1 λk=>ab k ((⟨b,0,none⟩:Q6).add 2) v2 λl=>ab l ((⟨b,0,none⟩:Q6).add 3) e λm=>ab m ((⟨b,0,none⟩:Q6).add 4) f λn=>
   ab n ((⟨b,0,none⟩:Q6).add 5) g λo=>ab o ((⟨b,0,none⟩:Q6).add 6) h λp=>ab p ((⟨b,0,none⟩:Q6).add 7) i K:=by
 refine ab.mk y (by simp) λj A B S=>?_
 rw[Bb,Bb,Bb,Bb,Bb,Bb,Bb];refine ab.mk A (by simp) λk C D U=>?_
 refine ab.mk C (by simp) λl E F V=>?_
 refine ab.mk E (by simp) λm G H W=>?_
 refine ab.mk G (by simp) λn I J X=>?_
 refine ab.mk I (by simp) λo L M Y=>?_
 refine ab.mk L (by simp) λp N O Z=>?_
 refine ab.mk N (by simp) λP Q R ac=>z P (by simpa using Q) (((((((B.trans D).trans F).trans H).trans J).trans M).trans O).trans R) (by omega)
theorem ab.bL {a:aa}{b j:Nat}{v:J0}{d dR:Array J0}{T:Q7}{K:aa->Prop}(e:a[b]? =some (J2 d T (0,0)))(f:j<d.size)(g:d.setIfInBounds j v=dR)
  (h: ∀c,c[b]? =some (J2 dR T (0,0))->Mod (· =b) a c->c.size=a.size->K c):ab a ((⟨b,0,none⟩:Q6).add j) v K:=by
 rw[Bb,AI];exact ab.mk e f λi k=>h i (by rw[<- g];exact k)
structure Ev where
 id:Int
 kind:Int
 tick:Int
 ref:Int
 step:Int
 turn:Int
 aL:Bool
 data:A2O
def fW:cy Ev where
 enc x:= [J6 J9 x.id,J6 J9 x.kind,J6 J9 x.tick,J6 J9 x.ref,J6 J9 x.step,J6 J9 x.turn,J3 x.aL,J7 x.data]
 w:=8
 len _:=rfl
 pos:=by omega
 one x v a:=by simp at a;rcases a with rfl|rfl|rfl|rfl|rfl|rfl|rfl|rfl<;>rfl
def Ev.fv(x:Ev):List Fv:= [.i x.id,.i x.kind,.i x.tick,.i x.ref,.i x.step,.i x.turn,.b x.aL,.s x.data]
theorem Ev.ja {x a:Ev}:x.fv=a.fv↔x=a:=by cases x;cases a;simp[Ev.fv]
instance:DecidableEq Ev:=λx y=>decidable_of_iff (x.fv=y.fv) Ev.ja
def cW(a:Int):Bool:=decide (a=3\/a=4\/a=5\/a=11\/a=7\/a=8\/a=9)
def dj(a:Int):Bool:=decide (a=6\/a=10)
def dx(a:Int):Bool:=decide (a=7\/a=8\/a=9)
def dO(a:Int):Bool:=decide (a=6)
def dP(a:Int):Bool:=decide (a=1\/a=12)
def cX(f:Bool)(a b c:Int):Bool:=if f then bU a b c else decide (a=0)
def EQ(a:Ev):Bool:=bU a.kind 1 18&&bU a.id 1 500&&bU a.tick 0 1099511627776&&cX (cW a.kind) a.ref 1 (a.id-1)&&cX (dj a.kind) a.step 0 15&&cX (dx a.kind) a.turn 1 5&&
 (!a.aL||dO a.kind)&&(decide (a.data=Gw)||dP a.kind)
def KG(a:Ev):Bool:=if a.kind=1 then(Iy (bl a.data)).isSome else if a.kind=12 then Ap a.data else true
def Ed(a:Ev):Bool:=EQ a&&KG a
def Rn(f:Bool)(a:Int):List UInt8:=if f then BZ a.toNat else []
def gK(f:Bool)(s:A2O):List UInt8:=if f then BR (bl s) else []
def Mh(a:Ev):List UInt8:=BZ a.id.toNat++(BZ a.kind.toNat++(BZ a.tick.toNat++(Rn (cW a.kind) a.ref++(Rn (dj a.kind) a.step++(Rn (dx a.kind) a.turn++(Rn (dO a.kind) (if a.aL then 1 else 0)++gK (dP a.kind) a.data))))))
structure jy where
 id:Nat
 kind:Nat
 tick:Nat
 ref:Nat
 step:Nat
 turn:Nat
def jy.wide(b:jy):Prop:=500<=b.id/\18<=b.kind/\1099511627776<=b.tick/\500<=b.ref/\15<=b.step/\5<=b.turn
def fB:jy:=⟨500,18,1099511627776,500,15,5⟩
def EP(f:Bool)(m:Nat)(r:Rd):Nat×Rd:=if f then Bw m r else(0,r)
def SN(f:Bool)(r:Rd):List UInt8×Rd:=if f then FK r else([],r)
def PH(b:jy)(r:Rd):Ev×Rd:=
 let i:=Bw b.id r
 let c:=Bw b.kind i.2
 let t:=Bw b.tick c.2
 let a:=EP (cW c.1) b.ref t.2
 let s:=EP (dj c.1) b.step a.2
 let d:=EP (dx c.1) b.turn s.2
 let u:=EP (dO c.1) 1 d.2
 let e:=SN (dP c.1) u.2
 (⟨i.1,c.1,t.1,a.1,s.1,d.1,decide (u.1=1),AX e.1⟩,e.2)
def jz(l:List UInt8):Option Ev:=let x:=PH fB ⟨l,false⟩;if XV x.2&&Ed x.1 then some x.1 else none
theorem XE {f:Bool}{n:Int}{m:Nat}(a:cX f n 0 m=true)(b:m<18446744073709551616)(t:List UInt8):EP f m ⟨Rn f n++t,false⟩=(n.toNat,⟨t,false⟩):=by
 cases f with
 |false=>simp[cX] at a;subst a;rfl
 |true=>
  simp only[cX,if_true,BX] at a;simp only[EP,Rn,if_true];exact Ci (by omega) (by omega) t
theorem pX {f:Bool}{a b c d e:Int}(g:cX f a b c=true)(h:d<=b)(i:c<=e):cX f a d e=true:=by
 cases f with
 |false=>exact g
 |true=>simp only[cX,if_true,BX] at g ⊢;omega
theorem pY {f:Bool}{a c d:Int}(b:cX f a c d=true)(e:0<=c):((a.toNat:Nat):Int)=a:=by
 cases f with
 |false=>simp[cX] at b;subst b;rfl
 |true=>simp only[cX,if_true,BX] at b;omega
theorem AN0 {f:Bool}{s:A2O}(a:(decide (s=Gw)||f)=true)(b:s.size<18446744073709551616)(t:List UInt8):SN f ⟨gK f s++t,false⟩=(bl s,⟨t,false⟩):=by
 cases f with
 |false=>simp at a;subst a;rfl
 |true=>
  simp only[SN,gK,if_true];exact JD (by rw[BA];exact b) t
theorem LD {a:Ev}(b:Ed a=true):EQ a=true:=by simp only[Ed,A3] at b;exact b.1
theorem AOQ {b:jy}(l:b.wide)(e:b.ref<18446744073709551616/\b.step<18446744073709551616/\b.turn<18446744073709551616){c:Ev}(g:EQ c=true)(hd:c.data.size<18446744073709551616)(t:List UInt8):PH b ⟨Mh c++t,false⟩=(c,⟨t,false⟩):=by
 obtain⟨id,a,tick,o,step,turn,d,p⟩:=c;simp only[EQ,A3] at g;obtain⟨⟨⟨⟨⟨⟨⟨q,r⟩,u⟩,h⟩,i⟩,j⟩,k⟩,v⟩:=g;obtain⟨M,N,O,P,Q,R⟩:=l;have S:=BX.1 q;have T:=BX.1 r;have U:=BX.1 u;have w:=Ci (n:=id.toNat) (most:=b.id) (by omega) (by omega);have x:=Ci (n:=a.toNat) (most:=b.kind) (by omega) (by omega);have y:=Ci (n:=tick.toNat) (most:=b.tick) (by omega) (by omega);have z:((a.toNat:Nat):Int)=a:=by omega
 have A:=XE (f:=cW a) (n:=o) (m:=b.ref) (pX h (by omega) (by omega)) e.1;have B:=XE (f:=dj a) (n:=step) (m:=b.step) (pX i (by omega) (by omega)) e.2.1;have C:=XE (f:=dx a) (n:=turn) (m:=b.turn) (pX j (by omega) (by omega)) e.2.2;have D:=XE (f:=dO a) (n:=if d then 1 else 0) (m:=1) (by
  cases E:dO a with
  |true=>simp only[cX,if_true,BX];split<;>omega
  |false=>rw[E] at k;cases d<;>simp[cX] at k ⊢) (by decide)
 have F:=AN0 (f:=dP a) (s:=p) v hd;simp only[PH,Mh,A4,w,x,y,z,A,B,C,D,F];have G:decide ((if d=true then(1:Int) else 0).toNat=1)=d:=by cases d<;>rfl
 have H:=pY h (by decide);have I:=pY i (by decide);have J:=pY j (by decide);have K:((id.toNat:Nat):Int)=id:=by omega
 have L:((tick.toNat:Nat):Int)=tick:=by omega
 rw[G,H,I,J,K,L,Da]
theorem Tp {f:Bool}{m:Nat}{r:Rd}(a:(EP f m r).2.bad=false):r.bad=false/\r.rest=Rn f (EP f m r).1++(EP f m r).2.rest/\(EP f m r).1<=m:=by
 cases f with
 |false=>exact⟨a,rfl,As _⟩
 |true=>
  simp only[EP,Rn,if_true,A6] at a ⊢;exact FM a
theorem AL4 {f:Bool}{r:Rd}(a:(SN f r).2.bad=false):r.bad=false/\r.rest=gK f (AX (SN f r).1)++(SN f r).2.rest:=by
 cases f with
 |false=>exact⟨a,rfl⟩
 |true=>
  simp only[SN,gK,if_true,EE] at a ⊢;exact Qc a
theorem AK7 {b:jy}{r:Rd}(c:(PH b r).2.bad=false):r.bad=false/\r.rest=Mh (PH b r).1++(PH b r).2.rest:=by
 simp only[PH] at c ⊢;obtain⟨d,e⟩:=AL4 c;obtain⟨f,g,h⟩:=Tp d;obtain⟨i,j,_⟩:=Tp f;obtain⟨k,l,_⟩:=Tp i;obtain⟨m,n,_⟩:=Tp k;obtain⟨o,p,_⟩:=FM m;obtain⟨q,s,_⟩:=FM o;obtain⟨t,u,_⟩:=FM q;refine⟨t,?_⟩;simp only[Mh,A4,A6];rw[<- e];have v: ∀a:Nat,a<=1->(if decide (a=1)=true then(1:Int) else 0)=(a:Int):=λa w=>by
  have:a=0\/a=1:=by omega
  rcases this with rfl|rfl<;>rfl
 rw[v _ h,<-g,<-j,<-l,<-n,<-p,<-s,<-u]
theorem AIH {l:List UInt8}{c:Ev}(a:jz l=some c):Ed c=true/\Mh c=l:=by
 unfold jz at a;simp only at a;split at a
 ·rename_i e;simp only[A3] at e;obtain⟨d,g⟩:=e;obtain rfl:=C2 a;refine⟨g,?_⟩;rw[tT] at d;obtain⟨_,f⟩:=AK7 (b:=fB) (r:=⟨l,false⟩) (by rw[d]);rw[d] at f;simpa using f.symm
 ·cases a
theorem AMg:fB.wide:=⟨A0 _,A0 _,A0 _,A0 _,A0 _,A0 _⟩
theorem AIw {a:Ev}(c:EQ a=true):a.data.size<=(Mh a).length:=by
 simp only[EQ,A3] at c;have b:=c.2;cases d:dP a.kind with
 |false=>
  rw[d] at b;simp at b;rw[b];exact As _
 |true=>
  simp only[Mh,gK,d,if_true,BR,A1,BA];omega
theorem ALM {l:List UInt8}{a:Ev}(e:l.length<18446744073709551616):jz l=some a↔Ed a=true/\Mh a=l:=by refine⟨AIH,λ⟨b,c⟩=>?_⟩;have d:=AIw (LD b);have:=AOQ AMg ⟨by decide,by decide,by decide⟩ (LD b) (by rw[c] at d;omega) [];rw[AM,c] at this;unfold jz;simp only[this,b];rfl
structure Jb where
 id:Int
 step:Int
 aL:Bool
 turn:Int
def fh:cy Jb where
 enc x:= [J6 J9 x.id,J6 J9 x.step,J3 x.aL,J6 J9 x.turn]
 w:=4
 len _:=rfl
 pos:=by omega
 one x v a:=by simp at a;rcases a with rfl|rfl|rfl|rfl<;>rfl
structure Ck where
 id:Int
 step:Int
 tick:Int
def fX:cy Ck where
 enc x:= [J6 J9 x.id,J6 J9 x.step,J6 J9 x.tick]
 w:=3
 len _:=rfl
 pos:=by omega
 one x v a:=by simp at a;rcases a with rfl|rfl|rfl<;>rfl
structure ba where
 prog:cA
 status:Int
 next:Int
 aW:Int
 asked:Int
 taken:Int
 fresh:Bool
 ar:List Jb
 aj:List Ck
 cancel:Bool
 aP:Bool
def Rf:ba:=⟨⟨[],0⟩,0,0,0,0,0,false,[],[],false,false⟩
def stepOf(p:cA)(a b:Int):Option bP:=if 0<=a then(p.steps[a.toNat]?).bind λx=>if x.kind=b then some x else none else none
def I9(p:cA)(a:Jb):Int:=match stepOf p a.step 1 with
 |none=>0
 |some x=>if a.aL then x.aw else x.tries
def lz(s:ba)(b turn:Int):Option Nat:=s.ar.findIdx? λa=>decide (a.id=b)&&decide (a.turn=turn)
def Df(s:ba)(a:Ev):Option ba:=
 if a.kind=2 then(if s.asked=0/\s.taken=0/\s.fresh=true then some {s with asked:=a.id} else none)
 else if a.kind=3 then(if s.asked=a.ref then some {s with asked:=0,taken:=a.id,fresh:=false} else none)
 else if a.kind=4 then(if s.taken=a.ref then some {s with taken:=0} else none)
 else(if s.taken=a.ref then some {s with taken:=0,fresh:=true} else none)
def Kq(s:ba)(a:Ev):Option ba:=
 if a.kind=6 then(stepOf s.prog a.step 1).bind λx=>if a.aL=true/\x.aL=Gw then none else some {s with ar:=s.ar++ [⟨a.id,a.step,a.aL,1⟩]}
 else(lz s a.ref a.turn).bind λi=>(s.ar[i]?).bind λb=>
  if a.kind=8 then(if a.turn=I9 s.prog b then none else some {s with ar:=s.ar.set i {b with turn:=b.turn+1}})
  else if a.kind=7\/a.turn=I9 s.prog b then some {s with ar:=s.ar.eraseIdx i,fresh:=true} else none
def Jh(s:ba)(a:Ev):Option ba:=
 if a.kind=10 then(stepOf s.prog a.step 2).map λx=> {s with aj:=s.aj++ [⟨a.id,a.step,a.tick+x.wait⟩]}
 else(s.aj.findIdx? λc=>decide (c.id=a.ref)&&decide (c.tick<=a.tick)).map λi=> {s with aj:=s.aj.eraseIdx i,fresh:=true}
def Xx(s:ba)(status:Int):ba:= {s with status:=status,asked:=0,taken:=0,fresh:=false,ar:= [],aj:= []}
def OE(s:ba):Prop:=s.asked=0/\s.taken=0/\s.ar= []
instance (s:ba):Decidable (OE s):=decidable_of_iff (s.asked=0/\s.taken=0/\s.ar.length=0) (by simp[OE])
def JS(s:ba)(a:Ev):Option ba:=
 if a.kind=12 then some {s with fresh:=true}
 else if a.kind=13 then(if s.cancel=true then none else some {s with cancel:=true,fresh:=true})
 else if a.kind=14 then(if s.aP=true\/s.prog.aA=0\/a.tick<s.aW+s.prog.aA then none else some {s with aP:=true,fresh:=true})
 else if a.kind=18 then some (Xx s 4)
 else if a.kind=15 then(if OE s then some (Xx s 1) else none)
 else if a.kind=16 then(if OE s then some (Xx s 2) else none)
 else if a.kind=17 then(if OE s then some (Xx s 3) else none)
 else none
def Nz(s:ba)(a:Ev):Option ba:=
 (if 2<=a.kind/\a.kind<=5 then Df s a else if 6<=a.kind/\a.kind<=9 then Kq s a else if a.kind=10\/a.kind=11 then Jh s a else JS s a).map λt=> {t with next:=s.next+1}
def Vp(a:Ev):ba:=⟨(Iy (bl a.data)).getD ⟨[],0⟩,0,2,a.tick,0,0,true,[],[],false,false⟩
def Bc(s:ba)(a:Ev):Int×ba:=
 if Ed a=false then(120,Rf)
 else if s.next=0 then(if a.kind=1/\a.id=1 then(0,Vp a) else(120,Rf))
 else if s.status≠0 then(182,Rf)
 else if a.id≠s.next then(120,Rf)
 else match Nz s a with
  |none=>(120,Rf)
  |some t=>(0,t)
def ES(s:ba):List Ev->Option ba
 | []=>some s
 |e::l=>if(Bc s e).1=0 then ES (Bc s e).2 l else none
theorem ADG {a b:List Ev}: ∀ {s:ba},ES s (a++b)=(ES s a).bind λt=>ES t b:=by
 induction a with
 |nil=>intro s;rfl
 |cons d l c=>
  intro s;rw[DQ,ES,ES];split
  ·exact c
  ·rfl
theorem AG5 {s t:ba}{l:List Ev}{a:Ev}(b:ES s l=some t)(c:(Bc t a).1=0):ES s (l++ [a])=some (Bc t a).2:=by rw[ADG,b];show ES t [a]=_;rw[ES,if_pos c,ES]
theorem Pm {s:ba}{b:Ev}(a:(Bc s b).1=0):Ed b=true:=by
 unfold Bc at a;split at a
 ·cases a
 ·rename_i c;simpa using c
theorem uG {s:ba}{b:Ev}(a:(Bc s b).1=0):(s.next=0->b.id=1/\(Bc s b).2.next=2)/\(s.next≠0->b.id=s.next/\(Bc s b).2.next=s.next+1):=by
 unfold Bc at a ⊢;split at a
 ·cases a
 ·rename_i g;rw[if_neg g];split at a
  ·rename_i c;rw[if_pos c];split at a
   ·rename_i d;rw[if_pos d];exact⟨λ_=>⟨d.2,rfl⟩,λa=>absurd c a⟩
   ·cases a
  ·rename_i c;rw[if_neg c];split at a
   ·cases a
   ·rename_i d;rw[if_neg d];split at a
    ·cases a
    ·rename_i f;rw[if_neg f];cases e:Nz s b with
     |none=>rw[e] at a;cases a
     |some t=>
      refine⟨λa=>absurd a c,λ_=>⟨by simpa using f,?_⟩⟩;unfold Nz at e;obtain⟨h,-,rfl⟩:=Option.map_eq_some_iff.1 e;rfl
theorem AG1: ∀ {l:List Ev} {s t:ba},ES s l=some t->1<=s.next->t.next=s.next+l.length/\ ∀(i:Nat) (b:Ev),l[i]? =some b->b.id=s.next+i/\Ed b=true:=by
 intro l
 induction l with
 |nil=>intro s t a e;cases a;exact⟨by simp,λi b f=>by simp at f⟩
 |cons b l g=>
  intro s t a e;rw[ES] at a;split at a
  ·rename_i d;have h:=(uG d).2 (by omega);obtain⟨j,k⟩:=g a (by omega);refine⟨by rw[j,h.2,A5];omega,λi x c=>?_⟩;cases i with
   |zero=>simp at c;subst c;exact⟨by omega,Pm d⟩
   |succ i=>
    have:=k i x (by simpa using c);exact⟨by omega,this.2⟩
  ·cases a
theorem uH {l:List Ev}{t:ba}(a:ES Rf l=some t)(e:l≠ []):t.next=l.length+1/\ ∀(i:Nat) (b:Ev),l[i]? =some b->b.id=i+1/\Ed b=true:=by
 cases l with
 |nil=>exact absurd rfl e
 |cons b l=>
  rw[ES] at a;split at a
  ·rename_i d;have f:=(uG d).1 rfl;obtain⟨g,h⟩:=AG1 a (by omega);refine⟨by rw[g,f.2,A5];omega,λi x c=>?_⟩;cases i with
   |zero=>simp at c;subst c;exact⟨by omega,Pm d⟩
   |succ i=>
    have:=h i x (by simpa using c);exact⟨by omega,this.2⟩
  ·cases a
def eM:List UInt8->Option (List UInt8)
 | []=>none
 |a::p=>match eM p with
  |some b=>some (a::b)
  |none=>if a<255 then some [a+1] else none
theorem uB {a b:UInt8}(c:a<255):b<a+1↔ ¬a<b:=by
 have e:a.toNat<255:=UInt8.lt_iff_toNat_lt.1 c;have d:(a+1).toNat=a.toNat+1:=by rw[UInt8.toNat_add];show(a.toNat+1) % 256=_;omega
 rw[UInt8.lt_iff_toNat_lt,UInt8.lt_iff_toNat_lt,d];omega
theorem AQ3 {a b:UInt8}(c: ¬a<255): ¬a<b:=λd=>by
 rw[UInt8.lt_iff_toNat_lt] at c d;have:b.toNat<256:=b.toNat_lt;have e:(255:UInt8).toNat=255:=rfl;omega
theorem uC: ∀(p j:List UInt8),(¬ j<p/\(∀ h,eM p=some h->j<h))↔p <+: j
 | [],j=>by simp[eM]
 |a::p,[]=>by
  constructor
  ·rintro⟨c,_⟩;exact absurd (List.nil_lt_cons a p) c
  ·intro c;exact absurd (List.prefix_nil.1 c) (by simp)
 |a::p,b::j=>by
  have s:=uC p j;have e: ∀ {x q:UInt8} {l m:List UInt8},x::l<q::m↔x<q\/x=q/\l<m:=A0j;rw[List.cons_prefix_cons,<-s];constructor
  ·rintro⟨o,f⟩;have r: ¬b<a:=λc=>o (e.2 (.inl c))
   have t: ¬a<b:=λc=>by
    unfold eM at f;cases k:eM p with
    |some h=>
     rw[k] at f;rcases e.1 (f _ rfl) with d|⟨d,_⟩
     ·exact r d
     ·subst d;exact UInt8.lt_irrefl _ c
    |none=>
     rw[k] at f;by_cases i:a<255
     ·have:=f [a+1] (by simp[i]);rcases e.1 this with d|⟨_,d⟩
      ·exact(uB i).1 d c
      ·exact absurd d (by simp)
     ·exact AQ3 i c
   have n:a=b:=by
    by_cases n:a=b
    ·exact n
    ·rcases UInt8.lt_or_lt_of_ne n with c|c
     ·exact absurd c t
     ·exact absurd c r
   subst n;refine⟨rfl,λc=>o (e.2 (.inr ⟨rfl,c⟩)),λh g=>?_⟩;have:=f (a::h) (by unfold eM;rw[g]);rcases e.1 this with d|⟨_,d⟩
   ·exact absurd d (UInt8.lt_irrefl _)
   ·exact d
  ·rintro⟨rfl,o,f⟩;refine⟨λc=>?_,λh g=>?_⟩
   ·rcases e.1 c with d|⟨_,d⟩
    ·exact absurd d (UInt8.lt_irrefl _)
    ·exact o d
   ·unfold eM at g;cases k:eM p with
    |some u=>
     rw[k] at g;obtain rfl:=C2 g;exact e.2 (.inr ⟨rfl,f u k⟩)
    |none=>
     rw[k] at g;by_cases i:a<255
     ·have n:h= [a+1]:=by simpa [i] using g.symm
      subst n;exact e.2 (.inl ((uB i).2 (UInt8.lt_irrefl _)))
     ·simp[i] at g
theorem qj: ∀ {p:List UInt8},(∀ x∈p,¬x<255)->eM p=none
 | [],_=>rfl
 |a::p,b=>by
  unfold eM;rw[qj λx c=>b x (An _ c)];simp[b a AN]
theorem uD: ∀ {p:List UInt8} {i:Nat} {a:UInt8},p[i]? =some a->a<255->(∀ x∈p.drop (i+1),¬x<255)->eM p=some (p.take i++ [a+1])
 | [],i,a,c,_,_=>by simp at c
 |b::p,0,a,c,d,hd=>by
  simp at c;subst c;unfold eM;rw[qj (by simpa using hd)];simp[d]
 |b::p,i+1,a,c,d,hd=>by
  unfold eM;rw[uD (p:=p) (i:=i) (a:=a) (by simpa using c) d (by simpa using hd)];simp
def hG(p a:A2O):Bool:=(p.data.toList).isPrefixOf a.data.toList
theorem WX(p a:A2O):hG p a=true↔p.data.toList <+: a.data.toList:=by unfold hG;rw[List.isPrefixOf_iff_prefix]
def Kk:Nat->Nat->List UInt8
 |0,_=> []
 |k+1,a=>Kk k (a / 256)++ [Cq a]
theorem Nb: ∀(k a:Nat),(Kk k a).length=k
 |0,_=>rfl
 |k+1,a=>by rw[Kk,A1,Nb k];rfl
theorem Yc(a:Nat):Cq a=Cq (a % 256):=by apply UInt8.toNat_inj.1;simp[Cq,UInt8.toNat_ofNat']
theorem ALN {a b:Nat}(c:a<256)(d:b<256)(e:Cq a=Cq b):a=b:=by have:=congrArg UInt8.toNat e;rwa [Dq c,Dq d] at this
theorem uI(a:Nat):Kk 4 a= [Cq (a / 256 / 256 / 256),Cq (a / 256 / 256),Cq (a / 256),Cq a]:=rfl
theorem AOq {a b:Nat}(i:b<65536)(j:a<b):Kk 4 a<Kk 4 b:=by
 rw[uI,uI];have d:a / 256 / 256=0:=by omega
 have e:b / 256 / 256=0:=by omega
 rw[d,e];have lt: ∀ {x c:Nat},c<256->x<c->Cq x<Cq c:=λ{x c} f g=>by
  rw[UInt8.lt_iff_toNat_lt,Dq f,Dq (by omega)];exact g
 refine List.Lex.cons (List.Lex.cons ?_);by_cases h:a / 256=b / 256
 ·rw[h];refine List.Lex.cons (List.Lex.rel ?_);rw[Yc a,Yc b];exact lt (by omega) (by omega)
 ·exact List.Lex.rel (lt (by omega) (by omega))
theorem ARC(p:List UInt8){a b:List UInt8}(d:a<b):p++a<p++b:=by
 induction p with
 |nil=>exact d
 |cons c p e=>exact List.Lex.cons e
def kE:UInt8:=104
def jX(wid:A2O):List UInt8:=kE::BR (bl wid)
def VY(wid:A2O):A2O:=AX (jX wid)
def dV(wid:A2O)(id:Nat):A2O:=AX (jX wid++Kk 4 id)
def KX(wid:A2O):A2O:=AX (119::bl wid)
def MQ(a:A2O):A2O:=AX (114::bl a)
def YS(a id:Nat):A2O:=AX (116::Cq a::Kk 8 id)
def Yv(a b id:Nat):A2O:=AX (109::Cq a::(Kk 8 b++Kk 8 id))
theorem Zf {s:A2O}(a:s.size<=16):BR (bl s)=Cq s.size::bl s:=by unfold BR;rw[BA,FR (by omega)];rfl
theorem Qb {wid:A2O}(a:wid.size<=16):jX wid=104::Cq wid.size::bl wid:=by unfold jX;rw[Zf a];rfl
theorem ANQ {wid:A2O}(a:wid.size<=16)(id:Nat):(dV wid id).size<=22:=by unfold dV;rw[AP,A1,Nb,Qb a];simp only[A5,BA];omega
theorem ALc {wid:A2O}(a:wid.size<=16):(VY wid).size<=18:=by unfold VY;rw[AP,Qb a];simp only[A5,BA];omega
theorem Qs(wid:A2O):(KX wid).size=wid.size+1:=by unfold KX;rw[AP,A5,BA]
theorem UC(a:A2O):(MQ a).size=a.size+1:=by unfold MQ;rw[AP,A5,BA]
theorem Zc(a id:Nat):(YS a id).size=10:=by unfold YS;rw[AP];rfl
theorem ZT(b a id:Nat):(Yv b a id).size=18:=by unfold Yv;rw[AP];rfl
theorem lA {wid:A2O}{i a:Nat}(b:a<65536)(c:i<a):aN (dV wid i) (dV wid a)=true:=by rw[Xp,decide_eq_true_eq];unfold dV;rw[Ce,Ce];exact ARC _ (AOq b c)
theorem uJ(wid:A2O)(id:Nat):hG (VY wid) (dV wid id)=true:=by rw[WX];unfold VY dV;rw[Ce,Ce];exact List.prefix_append _ _
theorem uK {wid a:A2O}(d:wid.size<=16)(e:a.size<=16){id:Nat}(b:hG (VY wid) (dV a id)=true):wid=a:=by rw[WX] at b;unfold VY dV at b;rw[Ce,Ce,Qb d,Qb e] at b;obtain⟨t,c⟩:=b;simp only[DQ,HX,true_and] at c;have f:=ALN (by omega) (by omega) c.1;have:=(List.append_inj c.2 (by rw[BA,BA];exact f)).1;rw[<- Da wid,<-Da a];exact congrArg AX this
theorem AOj {wid b:A2O}(e:wid.size<=16)(f:b.size<=16){i c:Nat}(g:i<65536)(h:c<65536)(d:dV wid i=dV b c):wid=b/\i=c:=by
 have j:wid=b:=uK e f (by rw[<- d];exact uJ wid i);subst j;refine⟨rfl,?_⟩;rcases HP i c with a|a|a
 ·exact absurd d (Nk (lA h a))
 ·exact a
 ·exact absurd d.symm (Nk (lA g a))
theorem ALz {a b:A2O}(c:KX a=KX b):a=b:=by have:=Nf.1 c;simp only[HX,true_and] at this;rw[<- Da a,<-Da b];exact congrArg AX this
theorem uL {a b:A2O}(c:MQ a=MQ b):a=b:=by have:=Nf.1 c;simp only[HX,true_and] at this;rw[<- Da a,<-Da b];exact congrArg AX this
def CY(a:A2O):UInt8:=(bl a).headD 0
theorem nw(wid:A2O)(id:Nat):CY (dV wid id)=104:=by unfold CY dV;rw[EE];rfl
theorem Gh(wid:A2O):CY (KX wid)=119:=by unfold CY KX;rw[EE];rfl
theorem MH(wid:A2O):CY (MQ wid)=114:=by unfold CY MQ;rw[EE];rfl
theorem AJN(a id:Nat):CY (YS a id)=116:=by unfold CY YS;rw[EE];rfl
theorem AIY(b a id:Nat):CY (Yv b a id)=109:=by unfold CY Yv;rw[EE];rfl
theorem qk {wid a:A2O}(b:hG (VY wid) a=true):CY a=104:=by rw[WX] at b;obtain⟨t,c⟩:=b;unfold CY;show(a.data.toList).headD 0=104;rw[<- c];unfold VY;rw[Ce];rfl
def Pe(status next:Nat)(a:Bool):A2O:=AX (BZ status++(BZ next++BZ (if a then 1 else 0)))
def iP(a:List UInt8)(status next:Nat):A2O:=AX (BR a++(BZ status++BZ next))
def ql(a:Nat)(wid:A2O)(b turn:Nat):A2O:=AX (BZ a++(BR (bl wid)++(BZ b++BZ turn)))
theorem GX {n:Nat}(a:n<16384):(BZ n).length<=2:=vm 1 n (by omega)
theorem AId {kind ref turn:Nat}{wid:A2O}(a:kind<128)(b:wid.size<=16)(c:ref<=500)(d:turn<=5):(ql kind wid ref turn).size<=22:=by unfold ql;have:=GX (n:=ref) (by omega);rw[AP,FR a,Zf b,FR (n:=turn) (by omega)];simp only[A1,A5,BA,Ft];omega
theorem AI1 {status next:Nat}{kept:Bool}(a:status<128)(b:next<=501):(Pe status next kept).size<=4:=by unfold Pe;have:=GX (n:=next) (by omega);rw[AP,FR a,FR (n:=if kept then 1 else 0) (by split<;>omega)];simp only[A1,A5,Ft];omega
structure br where
 wid:A2O
 ao:Nat
 cq:Int
 bW:Int
 kept:Bool
 st:ba
 more:List Ev
 aq:List Pr
 conds:List Pr
 err:Int
 now:Int
def WT(s:ba):Bool:=decide (s.next<=497)
def JP(wid:A2O)(b:Nat)(c d:Int)(e:Bool)(st:ba)(a:Int):br:=
 ⟨wid,b,c,d,e,st,[],[],[],if a<0\/1099511611776<a then 1 else 0,a⟩
def CQ(a:br)(b:Ev):Ev:= {b with id:=if 1>a.st.next then 1 else a.st.next,tick:=a.now}
def EN(a:br)(b:Ev):br:=
 if a.err≠0 then a
 else if a.more= []/\WT a.st=false/\b.kind≠18 then {a with err:=2}
 else if(Bc a.st (CQ a b)).1≠0 then {a with err:=(Bc a.st (CQ a b)).1}
 else {a with st:=(Bc a.st (CQ a b)).2,more:=a.more++ [CQ a b]}
def jY(a:br):Int:=a.st.next-1
structure gP where
 kind:Int
 ref:Int
 turn:Int
def Ju(t:gP)(wid:A2O):Bool:=bU t.kind 1 7&&Ap wid&&bU t.ref 0 500&&bU t.turn 0 5
def jC(t:gP)(wid:A2O):A2O:=ql t.kind.toNat wid t.ref.toNat t.turn.toNat
def Ns(a:Nat)(tick:Int)(b:Nat):A2O:=if tick<0 then YS a b else Yv a tick.toNat b
def Fe(a:br)(t:gP)(tick:Int)(b:Nat):br:=
 if a.err≠0 then a
 else if Ju t a.wid=false then {a with err:=1}
 else {a with aq:=a.aq++ [⟨Ns a.ao tick b,jC t a.wid,false⟩]}
def ny(a:br)(key val:A2O):br:= {a with conds:=a.conds++ [⟨key,⟨#[]⟩,true⟩],aq:=a.aq++ [⟨key,val,false⟩]}
def FE(a:br):Bool:=decide (a.more≠ [])&&(decide (a.st.status=0)&&(a.st.fresh&&(decide (a.st.asked=0)&&decide (a.st.taken=0))))
def Dc(a:br):Int×Int:=(a.st.status,if FE a then a.st.next+1 else a.st.next)
def bq(a:br):Pr:=if 0<a.bW then⟨KX a.wid,Pe a.cq.toNat a.bW.toNat a.kept,false⟩ else⟨KX a.wid,⟨#[]⟩,true⟩
def OQ(wid:A2O)(a:Ev):Pr:=⟨dV wid a.id.toNat,AX (Mh a),false⟩
def EI(a:br):List Pr:=a.more.map (OQ a.wid)++(if a.more= [] then [] else [⟨KX a.wid,Pe a.st.status.toNat a.st.next.toNat false,false⟩])
structure br.yg (C:br):Prop where
 pos:C.err=0-> ∀e∈C.more,Ed e=true
 err0:0<=C.err
theorem YQ(a:br)(b:Ev):(EN a b).wid=a.wid/\(EN a b).ao=a.ao/\(EN a b).cq=a.cq/\(EN a b).bW=a.bW/\(EN a b).kept=a.kept/\(EN a b).aq=a.aq/\(EN a b).conds=a.conds/\(EN a b).now=a.now:=by
 unfold EN;split
 ·simp
 ·split
  ·simp
  ·split<;>simp
theorem nz {C:br}{e:Ev}(c:C.err=0)(d:C.more≠ []\/C.st.next<=497\/e.kind=18)(f:(Bc C.st (CQ C e)).1=0):
  EN C e= {C with st:=(Bc C.st (CQ C e)).2,more:=C.more++ [CQ C e]}:=by
 unfold EN;rw[if_neg (by simp[c]),if_neg (by
  rintro⟨g,b,h⟩;rcases d with a|a|a
  ·exact a g
  ·unfold WT at b;simp at b;omega
  ·exact h a),if_neg (by simp[f])]
def qm(a:Q6):aa->Nat->List J0->(aa->Prop)->Prop
 |h,_,[],K=>K h
 |h,i,v::b,K=>ab h (a.add i) v λc=>qm a c (i+1) b K
def aK(b:aa)(a:Q6)(c:List J0)(K:aa->Prop):Prop:=qm a b 0 c K
def Ye(a:Array J0)(b:Nat)(c:List J0):Array J0:=⟨a.toList.take b++(c++a.toList.drop (b+c.length))⟩
theorem ALv {c:Array J0}{a:Nat}{v:J0}{b:List J0}(d:a<c.size):Ye (c.setIfInBounds a v) (a+1) b=Ye c a (v::b):=by
 obtain⟨l⟩:=c;have d:a<l.length:=d;unfold Ye;apply congrArg Array.mk;simp only[Wf,A5];have e:l.set a v=l.take a++v::l.drop (a+1):=by rw[A07,if_pos d]
 rw[e,KB,PJ,AE,GF (by omega)];rw[show a+1-a=1 from by omega,Sh,P3 (by omega),show a+1+b.length-a=b.length+1 from by omega];rw[Hv (l:=l.take a) (by rw[AE];omega)];simp only[HS,I0,Ds,HM,HN,A4,DQ];rw[show a+1+b.length=a+(b.length+1) from by omega]
theorem AOG {a:Array J0}{b:Nat}:Ye a b []=a:=by obtain⟨l⟩:=a;unfold Ye;simp
theorem uN {b c:Nat}{T:Q7}{K:aa->Prop}: ∀(d:List J0) (i:Nat) {a:aa} {e:Array J0},a[b]? =some (J2 e T (0,0))->c+i+d.length<=e.size->
  (∀ f,f[b]? =some (J2 (Ye e (c+i) d) T (0,0))->Mod (· =b) a f->f.size=a.size->K f)->qm ⟨b,c,none⟩ a i d K
 | [],i,a,e,g,_,h=>h a (by rw[AOG];exact g) ⟨A0 _,λ_ _ _=>rfl⟩ rfl
 |v::d,i,a,e,g,k,h=>by
  rw[A5] at k;show ab a (Addr.add ⟨b,c,none⟩ i) v _;rw[Bb];refine ab.mk g (by omega) λp l m q=>?_
  refine uN d (i+1) l (by simp;omega) λn j o r=>h n ?_ (m.trans o) (by omega)
  rw[show c+(i+1)=c+i+1 from by omega,ALv (by omega)] at j;exact j
theorem aK.mk {b e:Nat}{T:Q7}{K:aa->Prop}{a:List J0}{c:aa}{f:Array J0}(g:c[b]? =some (J2 f T (0,0)))(h:e+a.length<=f.size)
  (i: ∀d,d[b]? =some (J2 (Ye f e a) T (0,0))->Mod (· =b) c d->d.size=c.size->K d):aK c ⟨b,e,none⟩ a K:=uN a 0 g h i
theorem Dj {c:aa}{b o:Nat}{d:Array J0}{T:Q7}{fr:Nat×Nat}{l:List J0}(e:c[b]? =some (J2 d T fr))(f:(d.toList.drop o).take l.length=l):Cells c ⟨b,o,none⟩ l:=λg v a=>by
 rw[Bb];refine AL e ?_;rw[<- Pl,<-Bm];have h:=(List.getElem?_eq_some_iff.1 a).1;rw[<- f,Fl,if_pos (by omega)] at a;exact a
abbrev Ev.l(x:Ev):List J0:= [J6 J9 x.id,J6 J9 x.kind,J6 J9 x.tick,J6 J9 x.ref,J6 J9 x.step,J6 J9 x.turn,J3 x.aL,J7 x.data]
abbrev Ev.c(x:Ev):Array J0:= #[J6 J9 x.id,J6 J9 x.kind,J6 J9 x.tick,J6 J9 x.ref,J6 J9 x.step,J6 J9 x.turn,J3 x.aL,J7 x.data]
abbrev Ev.v(x:Ev):J0:= .agg #[J6 J9 x.id,J6 J9 x.kind,J6 J9 x.tick,J6 J9 x.ref,J6 J9 x.step,J6 J9 x.turn,J3 x.aL,J7 x.data]
abbrev Ev.z:Ev:=⟨0,0,0,0,0,0,false,⟨#[]⟩⟩
abbrev Ev.s:List Sc:= [.int J9,.int J9,.int J9,.int J9,.int J9,.int J9,.bool,.str]
abbrev Ev.T:Type:=Int×Int×Int×Int×Int×Int×Bool×A2O×Unit
abbrev Ev.t(x:Ev):Ev.T:=(x.id,x.kind,x.tick,x.ref,x.step,x.turn,x.aL,x.data,())
def nA(K:Ev->Prop):Prop:= ∃a:Int,∃b:Int,∃c:Int,∃d:Int,∃e:Int,∃f:Int,∃g:Bool,∃h:A2O,K ⟨a,b,c,d,e,f,g,h⟩
theorem nA.mk {K:Ev->Prop}(x:Ev)(a:K x):nA K:=⟨x.id,x.kind,x.tick,x.ref,x.step,x.turn,x.aL,x.data,a⟩
def Mo(b:aa)(a:Q6)(K:Ev->Prop):Prop:=
 AC J9 b a λc=>
 AC J9 b (a.add 1) λd=>
 AC J9 b (a.add 2) λe=>
 AC J9 b (a.add 3) λf=>
 AC J9 b (a.add 4) λg=>
 AC J9 b (a.add 5) λh=>
 Ab b (a.add 6) λi=>
 AJ b (a.add 7) λj=>
 K ⟨c,d,e,f,g,h,i,j⟩
theorem Mo.mk {b:aa}{a:Q6}{K:Ev->Prop}(x:Ev)(c:Cells b a x.l)(d:K x):Mo b a K:=
 ⟨_,by have:=c 0 _ rfl;rwa [add_zero] at this,_,c 1 _ rfl,_,c 2 _ rfl,_,c 3 _ rfl,_,c 4 _ rfl,_,c 5 _ rfl,_,c 6 _ rfl,_,c 7 _ rfl,d⟩
abbrev Jb.l(x:Jb):List J0:= [J6 J9 x.id,J6 J9 x.step,J3 x.aL,J6 J9 x.turn]
abbrev Jb.c(x:Jb):Array J0:= #[J6 J9 x.id,J6 J9 x.step,J3 x.aL,J6 J9 x.turn]
abbrev Jb.v(x:Jb):J0:= .agg #[J6 J9 x.id,J6 J9 x.step,J3 x.aL,J6 J9 x.turn]
abbrev Jb.z:Jb:=⟨0,0,false,0⟩
abbrev Jb.s:List Sc:= [.int J9,.int J9,.bool,.int J9]
abbrev Jb.T:Type:=Int×Int×Bool×Int×Unit
abbrev Jb.t(x:Jb):Jb.T:=(x.id,x.step,x.aL,x.turn,())
def jZ(b:aa)(a:Q6)(K:Jb->Prop):Prop:=
 AC J9 b a λc=>
 AC J9 b (a.add 1) λd=>
 Ab b (a.add 2) λe=>
 AC J9 b (a.add 3) λf=>
 K ⟨c,d,e,f⟩
theorem jZ.mk {b:aa}{a:Q6}{K:Jb->Prop}(x:Jb)(c:Cells b a x.l)(d:K x):jZ b a K:=
 ⟨_,by have:=c 0 _ rfl;rwa [add_zero] at this,_,c 1 _ rfl,_,c 2 _ rfl,_,c 3 _ rfl,d⟩
abbrev Ck.l(x:Ck):List J0:= [J6 J9 x.id,J6 J9 x.step,J6 J9 x.tick]
abbrev Ck.c(x:Ck):Array J0:= #[J6 J9 x.id,J6 J9 x.step,J6 J9 x.tick]
abbrev Ck.v(x:Ck):J0:= .agg #[J6 J9 x.id,J6 J9 x.step,J6 J9 x.tick]
abbrev Ck.z:Ck:=⟨0,0,0⟩
abbrev Ck.s:List Sc:= [.int J9,.int J9,.int J9]
abbrev Ck.T:Type:=Int×Int×Int×Unit
abbrev Ck.t(x:Ck):Ck.T:=(x.id,x.step,x.tick,())
def nB(b:aa)(a:Q6)(K:Ck->Prop):Prop:=
 AC J9 b a λc=>
 AC J9 b (a.add 1) λd=>
 AC J9 b (a.add 2) λe=>
 K ⟨c,d,e⟩
theorem nB.mk {b:aa}{a:Q6}{K:Ck->Prop}(x:Ck)(c:Cells b a x.l)(d:K x):nB b a K:=
 ⟨_,by have:=c 0 _ rfl;rwa [add_zero] at this,_,c 1 _ rfl,_,c 2 _ rfl,d⟩
abbrev bP.l(x:bP):List J0:= [J6 J9 x.kind,J7 x.name,J7 x.aL,J6 J9 x.tries,J6 J9 x.aw,J6 J9 x.wait]
abbrev bP.c(x:bP):Array J0:= #[J6 J9 x.kind,J7 x.name,J7 x.aL,J6 J9 x.tries,J6 J9 x.aw,J6 J9 x.wait]
abbrev bP.v(x:bP):J0:= .agg #[J6 J9 x.kind,J7 x.name,J7 x.aL,J6 J9 x.tries,J6 J9 x.aw,J6 J9 x.wait]
abbrev bP.z:bP:=⟨0,⟨#[]⟩,⟨#[]⟩,0,0,0⟩
abbrev bP.s:List Sc:= [.int J9,.str,.str,.int J9,.int J9,.int J9]
abbrev bP.T:Type:=Int×A2O×A2O×Int×Int×Int×Unit
abbrev bP.t(x:bP):bP.T:=(x.kind,x.name,x.aL,x.tries,x.aw,x.wait,())
def Zx(K:bP->Prop):Prop:= ∃a:Int,∃b:A2O,∃c:A2O,∃d:Int,∃e:Int,∃f:Int,K ⟨a,b,c,d,e,f⟩
theorem Zx.mk {K:bP->Prop}(x:bP)(a:K x):Zx K:=⟨x.kind,x.name,x.aL,x.tries,x.aw,x.wait,a⟩
def ZV(b:aa)(a:Q6)(K:bP->Prop):Prop:=
 AC J9 b a λc=>
 AJ b (a.add 1) λd=>
 AJ b (a.add 2) λe=>
 AC J9 b (a.add 3) λf=>
 AC J9 b (a.add 4) λg=>
 AC J9 b (a.add 5) λh=>
 K ⟨c,d,e,f,g,h⟩
theorem ZV.mk {b:aa}{a:Q6}{K:bP->Prop}(x:bP)(c:Cells b a x.l)(d:K x):ZV b a K:=
 ⟨_,by have:=c 0 _ rfl;rwa [add_zero] at this,_,c 1 _ rfl,_,c 2 _ rfl,_,c 3 _ rfl,_,c 4 _ rfl,_,c 5 _ rfl,d⟩
structure bF where
 steps:Sl
 aA:Int
 status:Int
 next:Int
 aW:Int
 asked:Int
 taken:Int
 fresh:Bool
 ar:Sl
 aj:Sl
 cancel:Bool
 aP:Bool
abbrev bF.l(x:bF):List J0:= [J4 x.steps.p x.steps.len x.steps.cap,J6 J9 x.aA,J6 J9 x.status,J6 J9 x.next,J6 J9 x.aW,J6 J9 x.asked,J6 J9 x.taken,J3 x.fresh,J4 x.ar.p x.ar.len x.ar.cap,J4 x.aj.p x.aj.len x.aj.cap,J3 x.cancel,J3 x.aP]
abbrev bF.c(x:bF):Array J0:= #[J4 x.steps.p x.steps.len x.steps.cap,J6 J9 x.aA,J6 J9 x.status,J6 J9 x.next,J6 J9 x.aW,J6 J9 x.asked,J6 J9 x.taken,J3 x.fresh,J4 x.ar.p x.ar.len x.ar.cap,J4 x.aj.p x.aj.len x.aj.cap,J3 x.cancel,J3 x.aP]
abbrev bF.v(x:bF):J0:= .agg #[J4 x.steps.p x.steps.len x.steps.cap,J6 J9 x.aA,J6 J9 x.status,J6 J9 x.next,J6 J9 x.aW,J6 J9 x.asked,J6 J9 x.taken,J3 x.fresh,J4 x.ar.p x.ar.len x.ar.cap,J4 x.aj.p x.aj.len x.aj.cap,J3 x.cancel,J3 x.aP]
abbrev bF.z:bF:=⟨⟨none,0,0⟩,0,0,0,0,0,0,false,⟨none,0,0⟩,⟨none,0,0⟩,false,false⟩
abbrev bF.s:List Sc:= [.sl,.int J9,.int J9,.int J9,.int J9,.int J9,.int J9,.bool,.sl,.sl,.bool,.bool]
abbrev bF.T:Type:=Sl×Int×Int×Int×Int×Int×Int×Bool×Sl×Sl×Bool×Bool×Unit
abbrev bF.t(x:bF):bF.T:=(x.steps,x.aA,x.status,x.next,x.aW,x.asked,x.taken,x.fresh,x.ar,x.aj,x.cancel,x.aP,())
def Gt(K:bF->Prop):Prop:= ∃a:Sl,∃b:Int,∃c:Int,∃d:Int,∃e:Int,∃f:Int,∃g:Int,∃h:Bool,∃i:Sl,∃j:Sl,∃k:Bool,∃l:Bool,K ⟨a,b,c,d,e,f,g,h,i,j,k,l⟩
theorem Gt.mk {K:bF->Prop}(x:bF)(a:K x):Gt K:=⟨x.steps,x.aA,x.status,x.next,x.aW,x.asked,x.taken,x.fresh,x.ar,x.aj,x.cancel,x.aP,a⟩
def Av(b:aa)(a:Q6)(K:bF->Prop):Prop:=
 AY b a λc=>
 AC J9 b (a.add 1) λd=>
 AC J9 b (a.add 2) λe=>
 AC J9 b (a.add 3) λf=>
 AC J9 b (a.add 4) λg=>
 AC J9 b (a.add 5) λh=>
 AC J9 b (a.add 6) λi=>
 Ab b (a.add 7) λj=>
 AY b (a.add 8) λk=>
 AY b (a.add 9) λl=>
 Ab b (a.add 10) λm=>
 Ab b (a.add 11) λn=>
 K ⟨c,d,e,f,g,h,i,j,k,l,m,n⟩
theorem Av.mk {b:aa}{a:Q6}{K:bF->Prop}(x:bF)(c:Cells b a x.l)(d:K x):Av b a K:=
 ⟨_,by have:=c 0 _ rfl;rwa [add_zero] at this,_,c 1 _ rfl,_,c 2 _ rfl,_,c 3 _ rfl,_,c 4 _ rfl,_,c 5 _ rfl,_,c 6 _ rfl,_,c 7 _ rfl,_,c 8 _ rfl,_,c 9 _ rfl,_,c 10 _ rfl,_,c 11 _ rfl,d⟩
structure cN where
 status:Int
 next:Int
 kept:Bool
abbrev cN.l(x:cN):List J0:= [J6 J9 x.status,J6 J9 x.next,J3 x.kept]
abbrev cN.c(x:cN):Array J0:= #[J6 J9 x.status,J6 J9 x.next,J3 x.kept]
abbrev cN.v(x:cN):J0:= .agg #[J6 J9 x.status,J6 J9 x.next,J3 x.kept]
abbrev cN.z:cN:=⟨0,0,false⟩
abbrev cN.s:List Sc:= [.int J9,.int J9,.bool]
abbrev cN.T:Type:=Int×Int×Bool×Unit
abbrev cN.t(x:cN):cN.T:=(x.status,x.next,x.kept,())
def nC(K:cN->Prop):Prop:= ∃a:Int,∃b:Int,∃c:Bool,K ⟨a,b,c⟩
theorem nC.mk {K:cN->Prop}(x:cN)(a:K x):nC K:=⟨x.status,x.next,x.kept,a⟩
def NW(b:aa)(a:Q6)(K:cN->Prop):Prop:=
 AC J9 b a λc=>
 AC J9 b (a.add 1) λd=>
 Ab b (a.add 2) λe=>
 K ⟨c,d,e⟩
theorem NW.mk {b:aa}{a:Q6}{K:cN->Prop}(x:cN)(c:Cells b a x.l)(d:K x):NW b a K:=
 ⟨_,by have:=c 0 _ rfl;rwa [add_zero] at this,_,c 1 _ rfl,_,c 2 _ rfl,d⟩
structure ck where
 wid:A2O
 ao:Int
 me:cN
 cF:Sl
 st:bF
abbrev ck.l(x:ck):List J0:= [J7 x.wid,J6 J9 x.ao,J6 J9 x.me.status,J6 J9 x.me.next,J3 x.me.kept,J4 x.cF.p x.cF.len x.cF.cap,J4 x.st.steps.p x.st.steps.len x.st.steps.cap,J6 J9 x.st.aA,J6 J9 x.st.status,J6 J9 x.st.next,J6 J9 x.st.aW,J6 J9 x.st.asked,J6 J9 x.st.taken,J3 x.st.fresh,J4 x.st.ar.p x.st.ar.len x.st.ar.cap,J4 x.st.aj.p x.st.aj.len x.st.aj.cap,J3 x.st.cancel,J3 x.st.aP]
abbrev ck.c(x:ck):Array J0:= #[J7 x.wid,J6 J9 x.ao,J6 J9 x.me.status,J6 J9 x.me.next,J3 x.me.kept,J4 x.cF.p x.cF.len x.cF.cap,J4 x.st.steps.p x.st.steps.len x.st.steps.cap,J6 J9 x.st.aA,J6 J9 x.st.status,J6 J9 x.st.next,J6 J9 x.st.aW,J6 J9 x.st.asked,J6 J9 x.st.taken,J3 x.st.fresh,J4 x.st.ar.p x.st.ar.len x.st.ar.cap,J4 x.st.aj.p x.st.aj.len x.st.aj.cap,J3 x.st.cancel,J3 x.st.aP]
abbrev ck.v(x:ck):J0:= .agg #[J7 x.wid,J6 J9 x.ao,J6 J9 x.me.status,J6 J9 x.me.next,J3 x.me.kept,J4 x.cF.p x.cF.len x.cF.cap,J4 x.st.steps.p x.st.steps.len x.st.steps.cap,J6 J9 x.st.aA,J6 J9 x.st.status,J6 J9 x.st.next,J6 J9 x.st.aW,J6 J9 x.st.asked,J6 J9 x.st.taken,J3 x.st.fresh,J4 x.st.ar.p x.st.ar.len x.st.ar.cap,J4 x.st.aj.p x.st.aj.len x.st.aj.cap,J3 x.st.cancel,J3 x.st.aP]
abbrev ck.z:ck:=⟨⟨#[]⟩,0,⟨0,0,false⟩,⟨none,0,0⟩,⟨⟨none,0,0⟩,0,0,0,0,0,0,false,⟨none,0,0⟩,⟨none,0,0⟩,false,false⟩⟩
abbrev ck.s:List Sc:= [.str,.int J9,.int J9,.int J9,.bool,.sl,.sl,.int J9,.int J9,.int J9,.int J9,.int J9,.int J9,.bool,.sl,.sl,.bool,.bool]
abbrev ck.T:Type:=A2O×Int×Int×Int×Bool×Sl×Sl×Int×Int×Int×Int×Int×Int×Bool×Sl×Sl×Bool×Bool×Unit
abbrev ck.t(x:ck):ck.T:=(x.wid,x.ao,x.me.status,x.me.next,x.me.kept,x.cF,x.st.steps,x.st.aA,x.st.status,x.st.next,x.st.aW,x.st.asked,x.st.taken,x.st.fresh,x.st.ar,x.st.aj,x.st.cancel,x.st.aP,())
def Mf(K:ck->Prop):Prop:= ∃a:A2O,∃b:Int,∃c:Int,∃d:Int,∃e:Bool,∃f:Sl,∃g:Sl,∃h:Int,∃i:Int,∃j:Int,∃k:Int,∃l:Int,∃m:Int,∃n:Bool,∃o:Sl,∃p:Sl,∃q:Bool,∃r:Bool,K ⟨a,b,⟨c,d,e⟩,f,⟨g,h,i,j,k,l,m,n,o,p,q,r⟩⟩
theorem Mf.mk {K:ck->Prop}(x:ck)(a:K x):Mf K:=⟨x.wid,x.ao,x.me.status,x.me.next,x.me.kept,x.cF,x.st.steps,x.st.aA,x.st.status,x.st.next,x.st.aW,x.st.asked,x.st.taken,x.st.fresh,x.st.ar,x.st.aj,x.st.cancel,x.st.aP,a⟩
def Hl(b:aa)(a:Q6)(K:ck->Prop):Prop:=
 AJ b a λc=>
 AC J9 b (a.add 1) λd=>
 AC J9 b (a.add 2) λe=>
 AC J9 b (a.add 3) λf=>
 Ab b (a.add 4) λg=>
 AY b (a.add 5) λh=>
 AY b (a.add 6) λi=>
 AC J9 b (a.add 7) λj=>
 AC J9 b (a.add 8) λk=>
 AC J9 b (a.add 9) λl=>
 AC J9 b (a.add 10) λm=>
 AC J9 b (a.add 11) λn=>
 AC J9 b (a.add 12) λo=>
 Ab b (a.add 13) λp=>
 AY b (a.add 14) λq=>
 AY b (a.add 15) λr=>
 Ab b (a.add 16) λs=>
 Ab b (a.add 17) λt=>
 K ⟨c,d,⟨e,f,g⟩,h,⟨i,j,k,l,m,n,o,p,q,r,s,t⟩⟩
theorem Hl.mk {b:aa}{a:Q6}{K:ck->Prop}(x:ck)(c:Cells b a x.l)(d:K x):Hl b a K:=
 ⟨_,by have:=c 0 _ rfl;rwa [add_zero] at this,_,c 1 _ rfl,_,c 2 _ rfl,_,c 3 _ rfl,_,c 4 _ rfl,_,c 5 _ rfl,_,c 6 _ rfl,_,c 7 _ rfl,_,c 8 _ rfl,_,c 9 _ rfl,_,c 10 _ rfl,_,c 11 _ rfl,_,c 12 _ rfl,_,c 13 _ rfl,_,c 14 _ rfl,_,c 15 _ rfl,_,c 16 _ rfl,_,c 17 _ rfl,d⟩
structure dm where
 kind:Int
 wid:A2O
 ref:Int
 turn:Int
abbrev dm.l(x:dm):List J0:= [J6 J9 x.kind,J7 x.wid,J6 J9 x.ref,J6 J9 x.turn]
abbrev dm.c(x:dm):Array J0:= #[J6 J9 x.kind,J7 x.wid,J6 J9 x.ref,J6 J9 x.turn]
abbrev dm.v(x:dm):J0:= .agg #[J6 J9 x.kind,J7 x.wid,J6 J9 x.ref,J6 J9 x.turn]
abbrev dm.z:dm:=⟨0,⟨#[]⟩,0,0⟩
abbrev dm.s:List Sc:= [.int J9,.str,.int J9,.int J9]
abbrev dm.T:Type:=Int×A2O×Int×Int×Unit
abbrev dm.t(x:dm):dm.T:=(x.kind,x.wid,x.ref,x.turn,())
def Zp(b:aa)(a:Q6)(K:dm->Prop):Prop:=
 AC J9 b a λc=>
 AJ b (a.add 1) λd=>
 AC J9 b (a.add 2) λe=>
 AC J9 b (a.add 3) λf=>
 K ⟨c,d,e,f⟩
theorem Zp.mk {b:aa}{a:Q6}{K:dm->Prop}(x:dm)(c:Cells b a x.l)(d:K x):Zp b a K:=
 ⟨_,by have:=c 0 _ rfl;rwa [add_zero] at this,_,c 1 _ rfl,_,c 2 _ rfl,_,c 3 _ rfl,d⟩
structure bN where
 kind:Int
 aX:A2O
 wid:A2O
 name:A2O
 steps:Sl
 aA:Int
 cE:Sl
 ref:Int
 turn:Int
 aT:Int
 ao:Int
 aQ:Bool
abbrev bN.l(x:bN):List J0:= [J6 J9 x.kind,J7 x.aX,J7 x.wid,J7 x.name,J4 x.steps.p x.steps.len x.steps.cap,J6 J9 x.aA,J4 x.cE.p x.cE.len x.cE.cap,J6 J9 x.ref,J6 J9 x.turn,J6 J9 x.aT,J6 J9 x.ao,J3 x.aQ]
abbrev bN.c(x:bN):Array J0:= #[J6 J9 x.kind,J7 x.aX,J7 x.wid,J7 x.name,J4 x.steps.p x.steps.len x.steps.cap,J6 J9 x.aA,J4 x.cE.p x.cE.len x.cE.cap,J6 J9 x.ref,J6 J9 x.turn,J6 J9 x.aT,J6 J9 x.ao,J3 x.aQ]
abbrev bN.v(x:bN):J0:= .agg #[J6 J9 x.kind,J7 x.aX,J7 x.wid,J7 x.name,J4 x.steps.p x.steps.len x.steps.cap,J6 J9 x.aA,J4 x.cE.p x.cE.len x.cE.cap,J6 J9 x.ref,J6 J9 x.turn,J6 J9 x.aT,J6 J9 x.ao,J3 x.aQ]
abbrev bN.z:bN:=⟨0,⟨#[]⟩,⟨#[]⟩,⟨#[]⟩,⟨none,0,0⟩,0,⟨none,0,0⟩,0,0,0,0,false⟩
abbrev bN.s:List Sc:= [.int J9,.str,.str,.str,.sl,.int J9,.sl,.int J9,.int J9,.int J9,.int J9,.bool]
abbrev bN.T:Type:=Int×A2O×A2O×A2O×Sl×Int×Sl×Int×Int×Int×Int×Bool×Unit
abbrev bN.t(x:bN):bN.T:=(x.kind,x.aX,x.wid,x.name,x.steps,x.aA,x.cE,x.ref,x.turn,x.aT,x.ao,x.aQ,())
def Ud(b:aa)(a:Q6)(K:bN->Prop):Prop:=
 AC J9 b a λc=>
 AJ b (a.add 1) λd=>
 AJ b (a.add 2) λe=>
 AJ b (a.add 3) λf=>
 AY b (a.add 4) λg=>
 AC J9 b (a.add 5) λh=>
 AY b (a.add 6) λi=>
 AC J9 b (a.add 7) λj=>
 AC J9 b (a.add 8) λk=>
 AC J9 b (a.add 9) λl=>
 AC J9 b (a.add 10) λm=>
 Ab b (a.add 11) λn=>
 K ⟨c,d,e,f,g,h,i,j,k,l,m,n⟩
theorem Ud.mk {b:aa}{a:Q6}{K:bN->Prop}(x:bN)(c:Cells b a x.l)(d:K x):Ud b a K:=
 ⟨_,by have:=c 0 _ rfl;rwa [add_zero] at this,_,c 1 _ rfl,_,c 2 _ rfl,_,c 3 _ rfl,_,c 4 _ rfl,_,c 5 _ rfl,_,c 6 _ rfl,_,c 7 _ rfl,_,c 8 _ rfl,_,c 9 _ rfl,_,c 10 _ rfl,_,c 11 _ rfl,d⟩
structure bI where
 err:Int
 status:Int
 next:Int
 task:dm
 name:A2O
 cF:Sl
abbrev bI.l(x:bI):List J0:= [J6 J9 x.err,J6 J9 x.status,J6 J9 x.next,J6 J9 x.task.kind,J7 x.task.wid,J6 J9 x.task.ref,J6 J9 x.task.turn,J7 x.name,J4 x.cF.p x.cF.len x.cF.cap]
abbrev bI.c(x:bI):Array J0:= #[J6 J9 x.err,J6 J9 x.status,J6 J9 x.next,J6 J9 x.task.kind,J7 x.task.wid,J6 J9 x.task.ref,J6 J9 x.task.turn,J7 x.name,J4 x.cF.p x.cF.len x.cF.cap]
abbrev bI.v(x:bI):J0:= .agg #[J6 J9 x.err,J6 J9 x.status,J6 J9 x.next,J6 J9 x.task.kind,J7 x.task.wid,J6 J9 x.task.ref,J6 J9 x.task.turn,J7 x.name,J4 x.cF.p x.cF.len x.cF.cap]
abbrev bI.z:bI:=⟨0,0,0,⟨0,⟨#[]⟩,0,0⟩,⟨#[]⟩,⟨none,0,0⟩⟩
abbrev bI.s:List Sc:= [.int J9,.int J9,.int J9,.int J9,.str,.int J9,.int J9,.str,.sl]
abbrev bI.T:Type:=Int×Int×Int×Int×A2O×Int×Int×A2O×Sl×Unit
abbrev bI.t(x:bI):bI.T:=(x.err,x.status,x.next,x.task.kind,x.task.wid,x.task.ref,x.task.turn,x.name,x.cF,())
def EJ(K:bI->Prop):Prop:= ∃a:Int,∃b:Int,∃c:Int,∃d:Int,∃e:A2O,∃f:Int,∃g:Int,∃h:A2O,∃i:Sl,K ⟨a,b,c,⟨d,e,f,g⟩,h,i⟩
theorem EJ.mk {K:bI->Prop}(x:bI)(a:K x):EJ K:=⟨x.err,x.status,x.next,x.task.kind,x.task.wid,x.task.ref,x.task.turn,x.name,x.cF,a⟩
def FZ(b:aa)(a:Q6)(K:bI->Prop):Prop:=
 AC J9 b a λc=>
 AC J9 b (a.add 1) λd=>
 AC J9 b (a.add 2) λe=>
 AC J9 b (a.add 3) λf=>
 AJ b (a.add 4) λg=>
 AC J9 b (a.add 5) λh=>
 AC J9 b (a.add 6) λi=>
 AJ b (a.add 7) λj=>
 AY b (a.add 8) λk=>
 K ⟨c,d,e,⟨f,g,h,i⟩,j,k⟩
theorem FZ.mk {b:aa}{a:Q6}{K:bI->Prop}(x:bI)(c:Cells b a x.l)(d:K x):FZ b a K:=
 ⟨_,by have:=c 0 _ rfl;rwa [add_zero] at this,_,c 1 _ rfl,_,c 2 _ rfl,_,c 3 _ rfl,_,c 4 _ rfl,_,c 5 _ rfl,_,c 6 _ rfl,_,c 7 _ rfl,_,c 8 _ rfl,d⟩
structure fY where
 wait:Int
 q:bN
 take:Bool
 ir:Bool
abbrev fY.l(x:fY):List J0:= [J6 J9 x.wait,J6 J9 x.q.kind,J7 x.q.aX,J7 x.q.wid,J7 x.q.name,J4 x.q.steps.p x.q.steps.len x.q.steps.cap,J6 J9 x.q.aA,J4 x.q.cE.p x.q.cE.len x.q.cE.cap,J6 J9 x.q.ref,J6 J9 x.q.turn,J6 J9 x.q.aT,J6 J9 x.q.ao,J3 x.q.aQ,J3 x.take,J3 x.ir]
abbrev fY.c(x:fY):Array J0:= #[J6 J9 x.wait,J6 J9 x.q.kind,J7 x.q.aX,J7 x.q.wid,J7 x.q.name,J4 x.q.steps.p x.q.steps.len x.q.steps.cap,J6 J9 x.q.aA,J4 x.q.cE.p x.q.cE.len x.q.cE.cap,J6 J9 x.q.ref,J6 J9 x.q.turn,J6 J9 x.q.aT,J6 J9 x.q.ao,J3 x.q.aQ,J3 x.take,J3 x.ir]
abbrev fY.v(x:fY):J0:= .agg #[J6 J9 x.wait,J6 J9 x.q.kind,J7 x.q.aX,J7 x.q.wid,J7 x.q.name,J4 x.q.steps.p x.q.steps.len x.q.steps.cap,J6 J9 x.q.aA,J4 x.q.cE.p x.q.cE.len x.q.cE.cap,J6 J9 x.q.ref,J6 J9 x.q.turn,J6 J9 x.q.aT,J6 J9 x.q.ao,J3 x.q.aQ,J3 x.take,J3 x.ir]
abbrev fY.z:fY:=⟨0,⟨0,⟨#[]⟩,⟨#[]⟩,⟨#[]⟩,⟨none,0,0⟩,0,⟨none,0,0⟩,0,0,0,0,false⟩,false,false⟩
abbrev fY.s:List Sc:= [.int J9,.int J9,.str,.str,.str,.sl,.int J9,.sl,.int J9,.int J9,.int J9,.int J9,.bool,.bool,.bool]
abbrev fY.T:Type:=Int×Int×A2O×A2O×A2O×Sl×Int×Sl×Int×Int×Int×Int×Bool×Bool×Bool×Unit
abbrev fY.t(x:fY):fY.T:=(x.wait,x.q.kind,x.q.aX,x.q.wid,x.q.name,x.q.steps,x.q.aA,x.q.cE,x.q.ref,x.q.turn,x.q.aT,x.q.ao,x.q.aQ,x.take,x.ir,())
structure fZ where
 key:A2O
 val:A2O
 ref:Int
 turn:Int
 aQ:Bool
abbrev fZ.l(x:fZ):List J0:= [J7 x.key,J7 x.val,J6 J9 x.ref,J6 J9 x.turn,J3 x.aQ]
abbrev fZ.c(x:fZ):Array J0:= #[J7 x.key,J7 x.val,J6 J9 x.ref,J6 J9 x.turn,J3 x.aQ]
abbrev fZ.v(x:fZ):J0:= .agg #[J7 x.key,J7 x.val,J6 J9 x.ref,J6 J9 x.turn,J3 x.aQ]
abbrev fZ.z:fZ:=⟨⟨#[]⟩,⟨#[]⟩,0,0,false⟩
abbrev fZ.s:List Sc:= [.str,.str,.int J9,.int J9,.bool]
abbrev fZ.T:Type:=A2O×A2O×Int×Int×Bool×Unit
abbrev fZ.t(x:fZ):fZ.T:=(x.key,x.val,x.ref,x.turn,x.aQ,())
end Go.Lf
namespace Go.Lf.G
abbrev AU:bX:= .none
abbrev AO(a b:bX):bX:= .seq a b
def CX:Nat->bX->bX
 |0,x=>x
 |n+1,x=> .seq .none (CX n x)
abbrev Bv:bX:=AO AU AU
abbrev Dz:bX:= .cond Bv AU
abbrev FH:bX:= .cond AU AU
abbrev DY:bX:=AO AU Dz
abbrev FQ:bX:=AO AU FH
abbrev Ex:bX:=CX 2 AU
abbrev iv:bX:=AO DY Bv
abbrev Qo:bX:=AO AU iv
abbrev MM:bX:=CX 2 Dz
abbrev mL:bX:=AO AU (AO FH (AO (.block MM) AU))
abbrev pB:bX:=AO AU (AO (AO AU (.block (.loop [(8,.one (.int J9))] [0,1,7] mL))) Bv)
abbrev jN:bX:=AO AU (AO FH (AO (.block Bv) AU))
abbrev mM:bX:=AO AU (.cond AU FQ)
abbrev kX:bX:=AO AU (.cond AU mM)
abbrev gh:bX:=CX 3 AU
abbrev pC:bX:= .cond gh AU
abbrev sS:bX:=CX 3 (AO DY (AO AU (AO DY (AO (AO AU (.cond (CX 4 AU) AU)) (AO AU (AO (AO AU pC) gh))))))
abbrev mN:bX:= .block AU
abbrev mO:bX:=AO AU (AO FH (AO mN AU))
abbrev mP:bX:=AO AU (AO FH (AO (.block Ex) AU))
abbrev pD:bX:=AO DY AU
abbrev pE:bX:=AO AU (AO FH (AO (.block (CX 2 pD)) AU))
abbrev pF:bX:=AO AU (.cond Bv DY)
abbrev pG:bX:= .block (AO AU (.cond Bv pF))
abbrev pH:bX:=AO AU (AO FH (AO (.block (CX 3 Dz)) AU))
abbrev jO:bX:=AO DY Ex
abbrev kY:bX:= .cond Ex AU
abbrev jP:bX:=CX 2 FH
abbrev sT:bX:=AO (.bA [(13,.one .bool)] [0,1]) Dz
abbrev sU:bX:=AO (.bA [(19,.one .bool)] [0,1]) Dz
abbrev sV:bX:=CX 2 (AO DY (CX 4 AU))
abbrev pI:bX:=AO AU pD
theorem Ac {a:al}{f:Q8}{args:List J0}{b:aa}{c:A2N}{d:Prop}(e:bX)(g:d=pM a P f e args b c)(h:d):AA a P f args.toArray b c:=AFz mixed (g▸h)
end Go.Lf.G
