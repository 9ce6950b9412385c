/-
 A store over its files (chapter 9): plain law: what is kept in step, how much there may be, what a crash leaves.
-/
import Derived.Test.YtdmlhpjdmgaggaaGreatDoorLfZ5ToZ8
set_option linter.unusedVariables false
set_option linter.unusedSimpArgs false
set_option maxRecDepth 100000
set_option linter.unusedVariables false
set_option linter.unusedSimpArgs false
namespace Go.Lf.G
open Go
open M (Sorted Ag DR BJ Ai BD CV Ap OkL Ba)
def AKE(C:Nat):Nat:=20000*C+10000000
structure Bud where
 C:Nat
 W0:Nat
 A:Nat
 hC:C≤100000
 hA:A≤60000
 hW:W0+A*AKE C≤8000000000000
def Bud.K(B:Bud):Nat:=AKE B.C
theorem Bud.wt(B:Bud){a:Nat}(h:a≤B.A):B.W0+a*B.K≤8000000000000:=by
 have h1:=B.hW
 have h2:a*B.K≤B.A*B.K:=Nat.mul_le_mul_right _ h
 have h3:B.A*AKE B.C=B.A*B.K:=rfl
 rw[h3] at h1
 generalize a*B.K=x at*
 generalize B.A*B.K=y at*
 omega
theorem ABp: ∀rs:List (List UInt8),(∀ r∈rs,r.length≤1048576)→(wraps rs).length≤(rs.map List.length).sum+rs.length*14
 | [],_=>by simp
 |r::rs,h=>by
  have h2:=(GH (h r List.mem_cons_self)).2
  have h3:=ABp rs fun x hx=>h x (List.mem_cons_of_mem _ hx)
  rw[Tf]
  simp only[List.length_append,List.map_cons,List.sum_cons,List.length_cons]
  omega
theorem ABe: ∀bs:List (List Pr),((bs.map Aw).map List.length).sum=(Aw bs.flatten).length
 | []=>rfl
 |b::bs=>by
  simp only[List.map_cons,List.sum_cons,List.flatten_cons,ABe bs]
  simp[Aw]
theorem AIP {n w s k f p:Nat}(h2:w≤s+k*14)(h3:s=p+f)(h5:p≤n*8276)(h6:f≤1048576)(h8:k≤n+2):w≤8400*n+1100000:=by omega
theorem AHY {l:List Pr}(t:FR l):(Hq l).length≤8400*l.length+1100000:=by
 have h2:=ABp (framesT l (KD l)) (Kq t.tabS)
 have h3:((framesT l (KD l)).map List.length).sum=(Aw l).length+(SA l (KD l)).length:=by
  have e:=ABe (Ir l)
  rw[AIL] at e
  rw[← e]
  simp only[framesT,List.map_append,List.sum_append,List.map_cons,List.map_nil,List.sum_cons,List.sum_nil,Nat.add_zero]
 have h7:(framesT l (KD l)).length≤l.length+2:=by
  have h7:(framesT l (KD l)).length=BP l+1:=by simp[framesT,FW]
  have h8:BP l≤l.length+1:=by unfold BP;omega
  omega
 exact AIP h2 h3 (Jm t.ok) (Tp t.tabS) h7
def KC(D:BO):Nat:=((Ac D).names.map fun n=>(D.T n).length).sum+(F3 D).flatten.length
structure Di (F:Fls) (st:Db) (D:BO):Prop where
 ok:Ar F D
 names:(Ac D).names=st.ts.map (·.1)
 tabs: ∀p∈st.ts,D.T p.1=p.2
 frm:(Ac D).frm=st.frm
 next:(Ac D).next≤st.next
 below: ∀p∈st.ts,p.1<st.next
 fr:st.fr=DK D
 lout: ∀n,st.lseg≤n→n≤99999999→(st.lmade=true→n≠st.lseg)→F (fnB nl n)=none
 lcur:st.lmade=true→F (fnB nl st.lseg)=some (AY (wraps ((D.L st.lseg).map (A8 st.lseg))),bs0)
 nout: ∀n,st.nseg≤n→n≤99999999→F (fnB nn n)=none
 lfrm:1≤st.frm∧st.frm≤st.lseg
 nseg:1≤st.nseg
 clean: ∀n,F (tfN n)≠none→n∈st.ts.map (·.1)
structure Pd (st:Db) (D:BO) (age c:Nat):Prop where
 lseg:st.lseg≤8*age+4
 nseg:st.nseg≤8*age+4
 next:st.next≤8*age+4
 cnt:st.ts.length≤age
 prs:KC D≤c
 ltop:D.ltop≤8*age+6
 ntop:D.ntop≤8*age+6
structure AEU (F:Fls) (D:BO) (age c:Nat):Prop where
 ltop:D.ltop≤8*age+8
 ntop:D.ntop≤8*age+8
 next:(Ac D).next≤8*age+8
 frm:(Ac D).frm≤8*age+8
 cnt:(Ac D).names.length≤age
 prs:KC D≤c
 tfs: ∀n,F (tfN n)≠none→n<8*age+8
def Rec(F:Fls)(age c:Nat)(mp:List Pr):Prop:= ∃D,Ar F D∧AEU F D age c∧mapD D=mp
def ZW(F:Fls)(age c:Nat)(mp:List Pr):Prop:= ∀G,Hd F G→Rec G age c mp
theorem Pd.mono {st:Db}{D:BO}{age age' c c':Nat}(l:Pd st D age c)(h:age≤age')(hc:c≤c'):Pd st D age' c':=
 ⟨by have:=l.lseg;omega,by have:=l.nseg;omega,by have:=l.next;omega,by have:=l.cnt;omega,by have:=l.prs;omega,by have:=l.ltop;omega,by have:=l.ntop;omega⟩
theorem AEU.mono {F:Fls}{D:BO}{age age' c c':Nat}(l:AEU F D age c)(h:age≤age')(hc:c≤c'):AEU F D age' c':=
 ⟨by have:=l.ltop;omega,by have:=l.ntop;omega,by have:=l.next;omega,by have:=l.frm;omega,by have:=l.cnt;omega,by have:=l.prs;omega,fun n hn=>by have:=l.tfs n hn;omega⟩
theorem Rec.mono {F:Fls}{age age' c c':Nat}{mp:List Pr}(r:Rec F age c mp)(h:age≤age')(hc:c≤c'):Rec F age' c' mp:=by
 obtain⟨D,h1,h2,h3⟩:=r
 exact⟨D,h1,h2.mono h hc,h3⟩
theorem ZW.mono {F:Fls}{age age' c c':Nat}{mp:List Pr}(r:ZW F age c mp)(h:age≤age')(hc:c≤c'):ZW F age' c' mp:=fun G cr=>(r G cr).mono h hc
theorem Hd.some {F G:Fls}(c:Hd F G){x:ByteArray}(h:G x≠none):F x≠none:=fun hf=>h (by
 have:=c x;rw[hf] at this;exact this)
theorem Di.nmle {F:Fls}{st:Db}{D:BO}(L:Di F st D):(Ac D).names.length=st.ts.length:=by rw[L.names];simp
theorem Di.tabsS {F:Fls}{st:Db}{D:BO}(L:Di F st D):(Ac D).names.map D.T=G.tabsS st:=by
 rw[L.names,List.map_map]
 exact List.map_congr_left fun p hp=>L.tabs p hp
theorem Di.map {F:Fls}{st:Db}{D:BO}(L:Di F st D):mapD D=Bp st:=by
 unfold mapD Bp Jt
 rw[L.tabsS,←L.fr]
theorem Di.ntok {F:Fls}{st:Db}{D:BO}(L:Di F st D):YG (Ac D):=AEJ L.ok
theorem Di.nd {F:Fls}{st:Db}{D:BO}(L:Di F st D):(st.ts.map (·.1)).Nodup:=by rw[← L.names];exact L.ntok.nd
theorem Di.rlim {F F':Fls}{st:Db}{D:BO}{age c:Nat}(L:Di F st D)(l:Pd st D age c)(ht: ∀n,F' (tfN n)≠none→n<8*age+8):AEU F' D age c:=by
 have:=L.next;have:=l.next;have:=L.lfrm;have:=l.lseg
 exact⟨by have:=l.ltop;omega,by have:=l.ntop;omega,by omega,by rw[L.frm];omega,by rw[L.nmle];exact l.cnt,l.prs,ht⟩
theorem Di.tlt {F:Fls}{st:Db}{D:BO}{age c:Nat}(L:Di F st D)(l:Pd st D age c){n:Nat}(hn:F (tfN n)≠none):n<st.next:=by
 obtain⟨p,hp,rfl⟩:=List.mem_map.1 (L.clean n hn)
 exact L.below p hp
theorem Di.tfree {F:Fls}{st:Db}{D:BO}{age c:Nat}(L:Di F st D)(l:Pd st D age c):F (tfN st.next)=none:=by
 cases hf:F (tfN st.next) with
 |none=>rfl
 |some p=>exact absurd (L.tlt l (n:=st.next) (by rw[hf];simp)) (by omega)
theorem Di.recS {F:Fls}{st:Db}{D:BO}{age c:Nat}(L:Di F st D)(l:Pd st D age c):ZW F age c (Bp st):=fun G cr=>by
 refine⟨D,L.ok.crash cr,L.rlim l fun n hn=>?_,L.map⟩
 have h1:=L.tlt l (cr.some hn)
 have:=l.next;omega
theorem Di.recT {F F':Fls}{st:Db}{D:BO}{age c:Nat}(L:Di F st D)(l:Pd st D age c)(hk: ∀x,(∀ n,n∉st.ts.map (·.1)→x≠tfN n)→F' x=F x)(ht: ∀n,F' (tfN n)≠none→n<8*age+8):Ar F' D∧ZW F' age c (Bp st):=by
 have h1:Ar F' D:=L.ok.tput fun x hx=>hk x fun n hn=>hx n (by rw[L.names];exact hn)
 exact⟨h1,fun G cr=>⟨D,h1.crash cr,L.rlim l fun n hn=>ht n (cr.some hn),L.map⟩⟩
theorem AG8 {D D':BO}{f:Nat}(hL:D'.L=D.L)(ht:D'.ltop=D.ltop)(hf:(Ac D').frm=f):F3 D'=(List.range D.ltop).flatMap fun n=>if n<f then [] else D.L n:=by
 unfold F3
 rw[hL,ht,hf]
theorem ABn {D D':BO}(hL:D'.L=D.L)(ht:D'.ltop=D.ltop)(hf:(Ac D').frm=(Ac D).frm):F3 D'=F3 D:=by
 rw[AG8 hL ht hf];rfl
theorem AIb {D D':BO}{f:Nat}(hL:D'.L=D.L)(ht:D'.ltop=D.ltop)(hf:(Ac D').frm=f)(hn: ∀n,f≤n→D.L n= []):F3 D'= []:=by
 rw[AG8 hL ht hf,List.flatMap_eq_nil_iff]
 intro n _
 split
 ·rfl
 ·exact hn n (by omega)
theorem AEa {D D':BO}(hL:D'.L=D.L)(ht:D'.ltop=D.ltop)(hl:Ac D'=Ac D)(hT:D'.T=D.T):mapD D'=mapD D∧KC D'=KC D:=by
 have e:=ABn hL ht (congrArg Nt.frm hl)
 unfold mapD DK KC
 rw[e,hl,hT]
 exact⟨rfl,rfl⟩
structure BC (B:Bud) (g h:Heap) (q:Hp) (k:Nat→Nat) (st:Db) (m:Bx) (D:BO) (age c:Nat):Prop where
 mem:DbH g h q k st m
 up:m.down=false
 disk:Di (ff m) st D
 lim:Pd st D age c
 wt:wtF m.files≤B.W0+age*B.K
 hc:c≤B.C
theorem BC.age {B:Bud}{g h:Heap}{q:Hp}{k:Nat→Nat}{st:Db}{m:Bx}{D:BO}{age age' c:Nat}(S:BC B g h q k st m D age c)(ha:age≤age'):BC B g h q k st m D age' c:=
 ⟨S.mem,S.up,S.disk,S.lim.mono ha (Nat.le_refl _),Nat.le_trans S.wt (Nat.add_le_add_left (Nat.mul_le_mul_right _ ha) _),S.hc⟩
theorem ADo(l:List (List Pr)):M.total l=(l.map List.length).sum:=rfl
theorem Di.cnt {F:Fls}{st:Db}{D:BO}(L:Di F st D):KC D=M.total (G.tabsS st)+(F3 D).flatten.length:=by
 unfold KC
 rw[← L.tabsS,ADo,List.map_map];rfl
theorem ABj(D:BO):(DK D).length≤(F3 D).flatten.length:=by
 have:=M.Np (l:=(F3 D).flatten) (t:= [])
 unfold DK;simpa using this
theorem Di.frlen {F:Fls}{st:Db}{D:BO}{age c:Nat}(L:Di F st D)(l:Pd st D age c):st.fr.length+M.total (G.tabsS st)≤c:=by
 have h1:=L.cnt
 have h2:=ABj D
 have h3:=l.prs
 rw[L.fr];omega
theorem Di.alllen {F:Fls}{st:Db}{D:BO}{age c:Nat}(L:Di F st D)(l:Pd st D age c):(Ai (st.fr::G.tabsS st)).length≤c:=by
 have h1:=M.Mo (st.fr::G.tabsS st)
 rw[M.Y0] at h1
 have:=L.frlen l;omega
theorem Di.leftlen {F:Fls}{st:Db}{D:BO}{age c:Nat}(L:Di F st D)(l:Pd st D age c):(Er (G.tabsS st)).length≤M.total (G.tabsS st):=by
 have h1:=M.Mo (G.tabsS st)
 have h2:=U0 (Ai (G.tabsS st))
 unfold Er;omega
end Go.Lf.G

/-
 Contract: all tables become one (chapter 9).
-/
set_option maxRecDepth 100000
set_option linter.unusedVariables false
set_option linter.unusedSimpArgs false
namespace Go.Lf.G
open Go
open M (Sorted Ag DR BJ Ai BD CV Ap OkL Ba)
structure AIg (B:Bud) (h h':Heap) (q:Hp) (k:Nat→Nat) (m m':Bx) (age:Nat):Prop where
 fuel:m.fuel≠ -1
 dn:Qb h' q.d
 box: ∃S',BU h' q.b S' m'∧ ∀c,S' c→k c≠0∨h.size≤c
 down:m'.down=true
 mod:Mod (fun c=>k c≠0) h h'
 oth: ∀y,¬Mine y→ff m' y=ff m y
 wt:wtF m'.files≤B.W0+age*B.K
section
variable {A : Amb} {B : Bud} {g h : Heap} {q : Hp} {k : Nat → Nat} {st : Db} {m : Bx} {D : BO} {age c : Nat} {R : Value → Heap → Prop}
theorem Hm {h1:Heap}{S1:Nat→Prop}{m':Bx}(W:DbH g h q k st m)(Bx':BU h1 q.b S1 m')(md:Mod (fun c=>q.Sb c∨c=q.lg∨c=q.nt) h h1)(s1: ∀c,S1 c→q.Sb c∨h.size≤c)
  (H: ∀h2,Qb h2 q.d→BU h2 q.b S1 m'→Mod (fun c=>k c≠0) h h2→(∀ c,S1 c→k c≠0∨h.size≤c)→R (.int .i64 30) h2):AA A P Bj #[Aq q.d,.int .i64 30] h1 R:=by
 have hdl:=W.dlt
 have cd:h1[q.d]? =some (.cells (dbC q st false) Du (0,0)):=md.blk W.cell (by
  rintro(h|h|h)
  ·exact W.nSd h
  ·exact W.dl h
  ·exact W.dn h)
 have nd: ¬S1 q.d:=fun hc=>by
  rcases s1 _ hc with h|h
  ·exact W.nSd h
  ·omega
 refine AK2 cd fun h2 d2 m2 s2=>H h2 d2 (Bx'.mod m2 fun c hc e=>nd (e▸hc)) ((md.weak fun c _ hc=>?_).trans (m2.weak fun c _ hc=>?_)) fun c hc=>(s1 c hc).imp (fun h=>by rw[W.kb c h];decide) id
 ·rcases hc with hc|rfl|rfl
  ·rw [W.kb c hc];decide
  ·rw [W.kl];decide
  ·rw [W.kn];decide
 ·rw [hc,W.kd];decide
theorem AMk(n:Nat):Mine (tfN n):= .inr (.inr ⟨n,rfl⟩)
theorem AMt(n:Nat):Mine (fnB nn n):= .inr (.inl ⟨n,rfl⟩)
theorem AMb(n:Nat):Mine (fnB nl n):= .inl ⟨n,rfl⟩
theorem Nv {y:ByteArray}(h: ¬Mine y)(n:Nat):y≠tfN n:=fun e=>h (e▸AMk n)
theorem ABL {y:ByteArray}(h: ¬Mine y)(n:Nat):y≠fnB nn n:=fun e=>h (e▸AMt n)
theorem AHy {y:ByteArray}(h: ¬Mine y)(n:Nat):y≠fnB nl n:=fun e=>h (e▸AMb n)
theorem AKR(W:DbH g h q k st m)(L:Di (ff m) st D)(l:Pd st D age c)(hc:c≤B.C)(hne:Er (tabsS st)≠ []):FR (Er (tabsS st)):=by
 have h1:=L.leftlen l
 have h2:=L.frlen l
 have h3:=B.hC
 exact⟨hne,fun x hx=>AHL (Xm.2 x hx),Xm.1,by omega⟩
theorem Bud.step(B:Bud){w w' age d:Nat}(h:w≤B.W0+age*B.K)(h2:w'≤w+d)(hd:d≤20000*B.C+10000000):w'≤B.W0+(age+1)*B.K:=by
 have e:(age+1)*B.K=age*B.K+B.K:=Nat.succ_mul _ _
 have e2:B.K=20000*B.C+10000000:=rfl
 rw[e]
 generalize age*B.K=x at*
 omega
theorem AKj {t w a c:Nat}(h1:t≤8400*c+1100000)(h2:w≤a)(h3:a≤8000000000000)(h4:c≤100000):w+t+1≤8796093022208:=by omega
theorem AMT {w w1 w' x:Nat}(h1:w1≤w+x)(h2:w'≤w1+700000):w'≤w+(x+700000):=by
 rw[← Nat.add_assoc]
 exact Nat.le_trans h2 (Nat.add_le_add_right h1 _)
theorem AKH(C:Nat):8400*C+1100001+700000≤20000*C+10000000:=by omega
theorem Bud.step2(B:Bud){w w1 w' age:Nat}(h:w≤B.W0+age*B.K)(h1:w1≤w+(8400*B.C+1100001))(h2:w'≤w1+700000):w'≤B.W0+(age+1)*B.K:=
 B.step h (AMT h1 h2) (AKH B.C)
theorem Yg(E:Evn g)(S:BC B g h q k st m D age c)(hA:age+1≤B.A)
  (H0: ∀h' m',AIg B h h' q k m m' (age+1)→ZW (ff m') (age+1) c (Bp st)→R (.int .i64 30) h')
  (H1: ∀h' q' k' st' m' D',q'.d=q.d→q'.b=q.b→BC B g h' q' k' st' m' D' (age+1) c→Gw m m'→st'.fr=st.fr→Bp st'=Bp st→st'.ts.length≤1→(∀ y,¬Mine y→ff m' y=ff m y)→Mod (fun c=>k c≠0) h h'→(∀ c,k' c≠0→k c≠0∨h.size≤c)→R (.int .i64 0) h'):
  AA A P Df #[Aq q.d] h R:=by
 have S0:=S
 obtain⟨W,hd,L,l,hw,hc⟩:=S
 have hBA:=B.hA
 have hBC:=B.hC
 have hW8:=B.wt (a:=age) (by omega)
 refine Mi ?_
 unfold IA
 refine Join.mk fun K hK=>UW W (hK _ _ (PIf.no rfl ?_))
 refine atI (AZ.mk (s:=q.tp) (AB W.cell rfl) ?_)
 have hpl:=W.tlen
 have htl:=W.tabs.len
 have hcnt:=l.cnt
 refine PIf.intro (fun hq=>?_) (fun hq=>?_)
 ·have h1:st.ts.length≤1:=by
   have:=of_decide_eq_true hq
   omega
  exact H1 h q k st m D rfl rfl (S0.age (by omega)) (Gw.refl hd) rfl rfl h1 (fun _ _=>rfl) Mod.refl (fun c hc=> .inl hc)
 refine atI (AZ.mk (s:=q.tp) (AB W.cell rfl) ?_)
 refine Loop.rule (fun mm x hh=> ∃(i:Nat) (sl:Sl),x=(sl,(i:Int),())∧mm=q.ps.length-i∧i≤q.ps.length∧Ext h hh∧(∀ c,sl.blk=some c→h.size≤c)∧Ph A hh sl ((tabsS st).take i)) ?_ ⟨0,⟨none,0,0⟩,rfl,rfl,by omega,Mod.refl,fun c hc=>by simp[Sl.blk] at hc,Ph.nil⟩
 rintro K1 mm _ hh ⟨i,sl,rfl,rfl,hi,x0h,hbl,qq⟩ hK1
 dsimp only
 refine PIf.intro (fun hq=>?_) (fun hq=>?_)
 ·have hil:i<q.ps.length:=by rw[← htl];simpa using hq
  have his:i<st.ts.length:=by omega
  have g1:q.ps[i]? =some q.ps[i]:=List.getElem?_eq_getElem hil
  have g2:st.ts[i]? =some st.ts[i]:=List.getElem?_eq_getElem his
  have g3:(tabsS st)[i]? =some st.ts[i].2:=by unfold tabsS;rw[List.getElem?_map,g2];rfl
  have Wh:=W.on x0h
  refine Wh.tabs.view.idx g1 fun a _ c=>AP.mk (Cells.pt c) ?_
  obtain⟨lo,hi',T1,t1,t2,t3⟩:=Wh.tab i _ _ g1 g2
  refine AD0 T1 t1 t3.tabS fun fv5 h5 it5 x5 s5=>⟨_,rfl,T9.mk it5.one.1 ?_⟩
  rw[M.Yy] at it5
  have hm:=t3.many
  refine Ph.add (qq.ext x5) it5 (fun c hc e=>?_) (by omega) (by simp[tabsS];omega) fun s' h' q' m' b'=>?_
  ·obtain⟨vs,ov,_,_⟩:=qq
   have hlt:=ov.lt e
   have hge:=hbl c e
   rcases hc with h1|h1|h1
   ·have:=t2 c h1.1 h1.2
    have:=(W.own c (by rw[this];decide)).2
    omega
   ·omega
   ·omega
  ·rw [AR (by omega)]
   refine hK1 (q.ps.length-(i+1)) _ _ (by omega) ⟨i+1,s',rfl,rfl,hil,?_,fun c hc=>?_,?_⟩
   ·exact(x0h.trans x5).then (m'.weak fun c _ hc=> .inr (hbl c hc))
   ·rcases b' c hc with h1|h1
    ·exact hbl c h1
    ·have:=x0h.size;have:=x5.size;omega
   ·rw [List.take_add_one,g3]
    exact q'
 have hil:i=q.ps.length:=by
  have: ¬i<q.tp.len:=by simpa using hq
  omega
 subst hil
 rw[List.take_of_length_le (by simp[tabsS];omega)] at qq
 clear hK1
 have okT:=OkL.tail W.okL
 refine M.AKh qq.seqs (fun c h=>h.elim) (by simp[tabsS];omega) okT fun fv6 h6 it6 x6 _=>⟨_,rfl,?_⟩
 refine M.AHp (.inr it6) fun fv7 h7 it7 x7 _=>⟨_,rfl,?_⟩
 have hll:=L.leftlen l
 have hfl:=L.frlen l
 have hlv:(Ba (Ai (tabsS st))).length≤1099511627776:=by
  have:(Ba (Ai (tabsS st))).length=(Er (tabsS st)).length:=rfl
  omega
 refine M.TR it7 (fun _ _=>rfl) hlv fun s8 h8 o8 b8 x8=>⟨s8,rfl,?_⟩
 have x08:Ext h h8:=((x0h.trans x6).trans x7).trans x8
 have o8:Own Ak AO h8 s8 (Er (tabsS st)):=o8
 have W8:=W.on x08
 have sz08:=x08.size
 refine atI (AZ.mk (s:=q.np) (AB W8.cell rfl) ?_)
 refine atI (Store.mk1 W8.cell (by simp) fun h9 hb9 m9 s9=>?_)
 refine atI (Store.mk1 hb9 (by simp) fun h10 hb10 m10 s10=>?_)
 have hb10:h10[q.d]? =some (.cells (dbC {q with tp:=⟨none,0,0⟩,np:=⟨none,0,0⟩} {st with next:=st.next,frm:=st.frm} false) Du (0,0)):=by simpa using hb10
 have md10:Mod (· =q.d) h8 h10:=m9.trans m10
 have W10:=W8.retab (tp:=⟨none,0,0⟩) (np:=⟨none,0,0⟩) (ps:= []) (ts:= []) (next:=st.next) (frm:=st.frm) (S:=fun _=>False) hb10 (md10.weak fun c _ hc=> .inl hc) Own.nil Own.nil rfl
  (fun c hc=>by simp[Sl.blk] at hc) (fun c hc=>by simp[Sl.blk] at hc) (fun c h=>h.elim) (fun i t p h1=>by simp at h1)
 have k10: ∀c,I6 k h8.size ⟨none,0,0⟩ ⟨none,0,0⟩ (fun _=>False) c=k c:=fun c=>by
  unfold I6
  split
  ·rfl
  ·rename_i h1
   simp[Sl.blk]
   exact(by simpa using h1:k c=0).symm
 have ek:I6 k h8.size ⟨none,0,0⟩ ⟨none,0,0⟩ (fun _=>False)=k:=funext k10
 rw[ek] at W10
 have mod10:Mod (fun c=>k c≠0) h h10:=(Ext.mod x08).trans (md10.weak fun c _ hc=>by rw[hc,W.kd];decide)
 have v8:=W8.names.view
 have v10:View Eg h10 q.np (nmS st):=v8.mod md10 fun c hc e=>by have:=W.kx c hc;rw[e,W.kd] at this;cases this
 have hfree:=L.tfree l
 have hnext:=l.next
 have hnseg:=l.nseg
 have hnotin:st.next∉st.ts.map (·.1):=fun hm=>by
  obtain⟨p,hp,e⟩:=List.mem_map.1 hm
  have:=L.below p hp
  omega
 refine Join.mk fun K2 hK2=>?_
 have fin: ∀(hh:Heap) (q2:Hp) (k2:Nat→Nat) (m2:Bx) (next2:Nat) (ts2:List (Nat×List Pr)),DbH g hh q2 k2 {st with ts:=ts2,next:=next2} m2→q2.d=q.d→q2.b=q.b→Gw m m2→
   (∀ x,x≠tfN st.next→ff m2 x=ff m x)→((ts2= []∧next2=st.next∧Er (tabsS st)= []∧ff m2 (tfN st.next)=none)∨(ts2= [(st.next,Er (tabsS st))]∧next2=st.next+1∧ff m2 (tfN st.next)=some (AY (Hq (Er (tabsS st))),bs0)∧FR (Er (tabsS st))))→
   wtF m2.files≤wtF m.files+(8400*B.C+1100001)→Mod (fun c=>k c≠0) h hh→(∀ c,k2 c≠0→k c≠0∨h.size≤c)→View Eg hh q.np (nmS st)→(∀ c,q.np.blk=some c→k2 c=7)→K2 () hh:=by
  intro hh q2 k2 m2 next2 ts2 W2 ed eb sty hff hts hwt hmod hk2 hv h7
  refine hK2 _ _ ?_
  have hne2: ∀x,(∀ n,x≠tfN n)→ff m2 x=ff m x:=fun x hx=>hff x (hx _)
  have hD2:Ar (ff m2) D:=L.ok.tput fun x hx=>hff x (hx st.next (by rw[L.names];exact hnotin))
  have hx2:YG (ntS {st with ts:=ts2,next:=next2}):=by
   have hf1:=L.lfrm
   have hf2:=l.lseg
   rcases hts with⟨rfl,rfl,_,_⟩|⟨rfl,rfl,_,_⟩
   ·exact⟨by show st.next≤_;omega,by show 1≤st.frm∧st.frm≤_;omega,by simp[ntS],by simp[ntS],by simp[ntS]⟩
   ·exact⟨by show st.next+1≤_;omega,by show 1≤st.frm∧st.frm≤_;omega,by simp[ntS],by simp[ntS],by simp[ntS]⟩
  have hT2: ∀n∈(ntS {st with ts:=ts2,next:=next2}).names,ff m2 (tfN n)=some (AY (Hq ((fun _=>Er (tabsS st)) n)),bs0)∧FR ((fun _=>Er (tabsS st)) n):=fun n hn=>by
   rcases hts with⟨rfl,rfl,_,_⟩|⟨rfl,rfl,h1,h2⟩
   ·simp [ntS] at hn
   ·have hn:n=st.next:=by simpa [ntS] using hn
    subst hn
    exact⟨h1,h2⟩
  have hmapn: ∀D':BO,D'.L=D.L→D'.ltop=D.ltop→Ac D'=ntS {st with ts:=ts2,next:=next2}→D'.T=(fun _=>Er (tabsS st))→mapD D'=Bp st∧KC D'≤c∧DK D'=st.fr:=fun D' hL ht hl hTT=>by
   have eb:=ABn hL ht (by rw[hl];exact L.frm.symm)
   have ef:DK D'=st.fr:=by unfold DK;rw[eb];exact L.fr.symm
   have hcn:=L.cnt
   have hpr:=l.prs
   refine⟨?_,?_,ef⟩
   ·unfold mapD
    rw[ef,hl,hTT]
    rcases hts with⟨rfl,rfl,h1,_⟩|⟨rfl,rfl,_,_⟩
    ·exact YU W.okL h1
    ·exact R9 W.okL
   ·unfold KC
    rw[eb,hl,hTT]
    rcases hts with⟨rfl,rfl,h1,_⟩|⟨rfl,rfl,_,_⟩
    ·show 0+(F3 D).flatten.length≤c
     omega
    ·show((Er (tabsS st)).length+0)+(F3 D).flatten.length≤c
     omega
  have htf: ∀ {F':Fls},(∀ n,F' (tfN n)≠none→ff m2 (tfN n)≠none)→ ∀n,F' (tfN n)≠none→n<8*(age+1)+8:=fun hF n hn=>by
   by_cases e:n=st.next
   ·omega
   ·have h1:=hF n hn
    rw[hff _ fun e'=>e (H7 e')] at h1
    have:=L.tlt l h1
    omega
  have hrec: ∀(D':BO) (F':Fls),Ar F' D'→D'.L=D.L→D'.ltop=D.ltop→D'.ntop≤max D.ntop (st.nseg+1)→Ac D'=ntS {st with ts:=ts2,next:=next2}→D'.T=(fun _=>Er (tabsS st))→(∀ n,F' (tfN n)≠none→ff m2 (tfN n)≠none)→Rec F' (age+1) c (Bp st):=fun D' F' h1 hL ht hn hl hTT hF=>by
   obtain⟨r1,r2,_⟩:=hmapn D' hL ht hl hTT
   have:=l.ltop
   have:=l.ntop
   have:=L.lfrm
   have:=l.lseg
   refine⟨D',h1,⟨by omega,by omega,?_,?_,?_,r2,htf hF⟩,r1⟩
   ·rw [hl];show next2≤_
    rcases hts with⟨_,rfl,_⟩|⟨_,rfl,_⟩<;>omega
   ·rw [hl];show st.frm≤_;omega
   ·rw [hl]
    rcases hts with⟨rfl,_⟩|⟨rfl,_⟩<;>simp[ntS]
  rw[← ed]
  have hw2:wtF m2.files+1000000≤8000000000000:=by
   have h1:=B.wt (a:=age+1) hA
   have h2:=B.step (d:=8400*B.C+1100001+1000000) hw (w':=wtF m2.files+1000000) (by omega) (by omega)
   omega
  refine AHt (T:=fun _=>Er (tabsS st)) E W2 sty.up hD2 hx2 hT2 ⟨L.nseg,by show st.nseg+2≤_;omega⟩ (fun n n1 n9=>by rw[hne2 _ fun k=>Ld n k];exact L.nout n n1 n9) hw2
   (fun hfu h3 S3 m3 B3 d3 md3 s3 cr3 fr3 wt3=>⟨_,rfl,PIf.yes rfl ?_⟩) fun h3 S3 k3 m3 D3 W3 st3 dk3 ln3 T3 L3 lt3 nt3 fr3 out3 wt3 md3 gr3=>⟨_,rfl,PIf.no rfl ?_⟩
  ·refine Hm W2 B3 (md3.weak fun c _ hc=>hc.imp id .inr) s3 fun h4 dn4 B4 md4 s4=>⟨_,rfl,?_⟩
   have hmod4:Mod (fun c=>k c≠0) h h4:=hmod.then (md4.weak fun c _ hc=>hk2 c hc)
   have hwt3:wtF m3.files≤B.W0+(age+1)*B.K:=B.step2 hw hwt wt3
   refine H0 h4 m3 ⟨fun hh=>hfu (sty.calm hh),by rw[← ed];exact dn4,⟨S3,by rw[← eb];exact B4,fun c hc=>?_⟩,d3,hmod4,fun y hy=>?_,hwt3⟩ fun G cr=>?_
   ·rcases s4 c hc with h1|h1
    ·exact hk2 c h1
    ·exact .inr (by have:=hmod.size;omega)
   ·rw [fr3 y fun n=>ABL hy n,hff y (Nv hy _)]
   ·obtain⟨D',d1,nx⟩:=cr3 G cr
    have hFt: ∀n,G (tfN n)≠none→ff m2 (tfN n)≠none:=fun n hn=>by
     have:=cr.some hn
     rwa [fr3 _ fun j e=>Ld j n e.symm] at this
    rcases nx.last with⟨e1,e2⟩|⟨e1,e2⟩
    ·obtain⟨r1,r2⟩:=AEa nx.L nx.ltop e1 e2
     have:=l.ltop
     have:=l.ntop
     have:=L.lfrm
     have:=l.lseg
     have:=L.next
     have n3:=nx.ntop
     have n4:({st with ts:=ts2,next:=next2}:Db).nseg=st.nseg:=rfl
     rw[n4] at n3
     exact⟨D',d1,⟨by rw[nx.ltop];omega,by omega,by rw[e1];omega,by rw[e1,L.frm];omega,by rw[e1,L.nmle];omega,by rw[r2];exact l.prs,htf hFt⟩,by rw[r1];exact L.map⟩
    ·exact hrec D' G d1 nx.L nx.ltop nx.ntop e1 e2 hFt
  ·
   have hwt3: ∀ {w},w≤wtF m3.files→w≤B.W0+(age+1)*B.K:=fun hle=>B.step2 hw hwt (Nat.le_trans hle wt3)
   have v3:View Eg h3 q.np (nmS st):=hv.mod md3 fun c hc e=>by
    have h1:=h7 c hc
    rcases e with e|e
    ·rw [W2.kb c e] at h1;cases h1
    ·rw [e,W2.kn] at h1;cases h1
   have h73: ∀c,q.np.blk=some c→c<hh.size:=fun c hc=>(W2.own c (by rw[h7 c hc];decide)).2
   have hnl:q.np.len=st.ts.length:=by rw[W.names.len];simp
   have hmod3:Mod (fun c=>k c≠0) h h3:=hmod.then (md3.weak fun c _ hc=>by
    rcases hc with hc|hc
    ·exact hk2 c (by rw[W2.kb c hc];decide)
    ·exact hk2 c (by rw[hc,W2.kn];decide))
   have hk3: ∀c,k3 c≠0→k c≠0∨h.size≤c:=fun c hc=>by
    by_cases hlt:c<hh.size
    ·rw [gr3 c hlt] at hc;exact hk2 c hc
    ·exact .inr (by have:=hmod.size;omega)
   have fold: ∀n,(∃ p∈st.ts,p.1=n)→(ff m3 (tfN n)).isSome=true∧n≠st.next:=fun n hn=>by
    obtain⟨p,hp,rfl⟩:=hn
    have hlt:=L.below p hp
    have hne:p.1≠st.next:=by omega
    have h1:=(L.ok.tab p.1 (by rw[L.names];exact List.mem_map.2 ⟨p,hp,rfl⟩)).1
    rw[fr3 _ fun j e=>Ld j _ e.symm,hff _ fun e=>hne (H7 e),h1]
    exact⟨rfl,hne⟩
   have hnd:=L.nd
   obtain⟨r1,r2,r3⟩:=hmapn D3 L3 lt3 ln3 T3
   have eds:st3.up=st3.up:=rfl
   refine Loop.rule (fun mm x hx=> ∃(i:Nat) (S4:Nat→Prop) (k4:Nat→Nat) (m4:Bx),x=((i:Int),())∧mm=st.ts.length-i∧i≤st.ts.length∧DbH g hx {q2 with Sb:=S4} k4 {st with ts:=ts2,next:=next2,nseg:=st.nseg+1} m4∧Gw m m4∧wtF m4.files≤wtF m3.files∧
     (∀ x,(∀ n∈(st.ts.map (·.1)).take i,x≠tfN n)→ff m4 x=ff m3 x)∧(∀ n∈(st.ts.map (·.1)).take i,ff m4 (tfN n)=none)∧Mod (fun c=>k c≠0) h hx∧(∀ c,k4 c≠0→k c≠0∨h.size≤c)∧View Eg hx q.np (nmS st)∧(∀ c,q.np.blk=some c→k4 c=7)) ?_
    ⟨0,S3,k3,m3,rfl,rfl,by omega,W3,sty.trans st3,Nat.le_refl _,fun x _=>rfl,by simp,hmod3,hk3,v3,fun c hc=>by rw[gr3 c (h73 c hc)];exact h7 c hc⟩
   rintro K4 mm _ hx ⟨i,S4,k4,m4,rfl,rfl,hi,W4,st4,wt4,f4,f4',mod4,kk4,v4,h74⟩ hK4
   dsimp only
   refine PIf.intro (fun hq=>?_) (fun hq=>?_)
   ·have hil:i<st.ts.length:=by have:=of_decide_eq_true hq;omega
    have g2:st.ts[i]? =some st.ts[i]:=List.getElem?_eq_getElem hil
    have gn:(st.ts.map (·.1))[i]? =some st.ts[i].1:=by rw[List.getElem?_map,g2];rfl
    have hmemi:st.ts[i]∈st.ts:=List.getElem_mem hil
    have hbi:=L.below _ hmemi
    refine v4.idx (i:=i) (x:=(st.ts[i].1:Int)) (by rw[nmS,List.getElem?_map,g2];rfl) fun a _ ca=>Aa.mk ca.int ?_
    refine atI (AP.mk (AC W4.cell rfl) ?_)
    refine NY (W4.evn E) (by omega) fun h5 x5=>⟨_,rfl,⟨AC (W4.on x5).cell rfl,?_⟩⟩
    have W5:=W4.on x5
    refine Sq W5.box fun h6 S6 B6 m6 s6=>⟨_,rfl,?_⟩
    have hni:st.ts[i].1∉(st.ts.map (·.1)).take i:=fun hm=>by
     obtain⟨j,hj,e⟩:=List.getElem_of_mem hm
     have hj':j<i:=by
      have:=hj
      simp at this;omega
     rw[List.getElem_take] at e
     have h1:=(List.getElem?_eq_some_iff.1 gn)
     have h2:=(List.getElem_inj (h₀:=by simp;omega) (h₁:=h1.1) hnd).1 (e.trans h1.2.symm)
     omega
    have hsome:(ff m4 (tfN st.ts[i].1)).isSome=true:=by
     rw[f4 _ fun n hn e=>hni (by rw[H7 e];exact hn)]
     exact(fold _ ⟨_,hmemi,rfl⟩).1
    have htk:(st.ts.map (·.1)).take (i+1)=(st.ts.map (·.1)).take i++ [st.ts[i].1]:=by rw[List.take_add_one,gn];rfl
    have mod6:Mod (fun c=>k c≠0) h h6:=mod4.then (((Ext.mod x5).trans m6).weak fun c _ hc=>kk4 c (by rw[W4.kb c hc];decide))
    rcases Og (k:=tfN st.ts[i].1) st4.up hsome with⟨hf0,e6⟩|⟨e6,st6,f6⟩
    ·rw [e6] at B6 ⊢
     refine PIf.yes rfl ?_
     refine Hm (q:= {q2 with Sb:=S4}) W5 B6 (m6.weak fun c _ hc=> .inl hc) (fun c hc=> .inl (s6 c hc)) fun h7' dn7 B7 md7 s7=>⟨_,rfl,?_⟩
     have mod7:Mod (fun c=>k c≠0) h h7':=(mod4.trans (Ext.mod x5)).then (md7.weak fun c _ hc=>kk4 c hc)
     have fF: ∀n,ff m4 (tfN n)≠none→ff m2 (tfN n)≠none:=fun n hn=>by
      by_cases hm:n∈(st.ts.map (·.1)).take i
      ·exact absurd (f4' n hm) hn
      ·rw [f4 _ fun j hj e=>hm (by rw[H7 e];exact hj),fr3 _ fun j e=>Ld j n e.symm] at hn
       exact hn
     have dk4:Ar (ff m4) D3:=dk3.tput fun x hx'=>f4 x fun n hn e=>hx' n (by
      rw[ln3]
      intro hm
      rcases hts with⟨rfl,_⟩|⟨rfl,_⟩
      ·simp [ntS] at hm
      ·have:n=st.next:=by simpa [ntS] using hm
       have hin:n∈st.ts.map (·.1):=List.mem_of_mem_take hn
       rw[this] at hin
       exact hnotin hin) e
     refine H0 h7' (JU m4) ⟨(fun hh=>by have:=st4.calm hh;rw[hf0] at this;cases this),by rw[← ed];exact dn7,⟨S6,by rw[← eb];exact B7,fun c hc=>?_⟩,rfl,mod7,fun y hy=>?_,hwt3 wt4⟩ fun G cr=>?_
     ·rcases s7 c hc with h1|h1
      ·exact kk4 c h1
      ·exact .inr (by have:=(mod4.trans (Ext.mod x5)).size;omega)
     ·rw [ADa,f4 y fun n _=>Nv hy n,fr3 y fun n=>ABL hy n,hff y (Nv hy _)]
     ·exact hrec D3 G (dk4.crash cr) L3 lt3 nt3 ln3 T3 fun n hn=>fF n (cr.some hn)
    ·rw [e6]
     refine PIf.no rfl ?_
     have W6:=W5.boxed (j:=2) (st':= {st with ts:=ts2,next:=next2,nseg:=st.nseg+1}) B6 (m6.weak fun c _ hc=> .inl hc) (fun c hc=> .inl (s6 c hc)) rfl rfl rfl rfl (.inl ⟨by decide,rfl,rfl⟩) (.inl ⟨by decide,rfl⟩)
     have wt6:=Vb (m:=m4) (tfN st.ts[i].1)
     rw[AR (by omega)]
     refine hK4 (st.ts.length-(i+1)) _ _ (by omega) ⟨i+1,S6,_,_,rfl,rfl,hil,W6,st4.trans st6,Nat.le_trans wt6 wt4,fun x hx'=>?_,fun n hn=>?_,mod6,fun c hc=>?_,?_,fun c hc=>?_⟩
     ·rw [f6,if_neg (hx' _ (by rw[htk];simp))]
      exact f4 x fun n hn=>hx' n (by rw[htk];exact List.mem_append.2 (.inl hn))
     ·rw [f6]
      split
      ·rfl
      ·rename_i hne
       rw[htk] at hn
       rcases List.mem_append.1 hn with hn|hn
       ·exact f4' n hn
       ·exact absurd (by rw[List.mem_singleton.1 hn]) hne
     ·by_cases hlt:c<h5.size
      ·rw [Ec hlt] at hc;exact kk4 c hc
      ·exact .inr (by have:=(mod4.trans (Ext.mod x5)).size;omega)
     ·exact(v4.ext x5).mod m6 fun c hc e=>by
       have h1:=h74 c hc
       rw[W4.kb c e] at h1;cases h1
     ·have hlt:c<h5.size:=by
       have:=(W4.own c (by rw[h74 c hc];decide)).2
       have:=x5.size;omega
      rw[Ec hlt];exact h74 c hc
   ·have hil:i=st.ts.length:=by
     have: ¬(i:Int)<((q.np.len:Nat):Int):=of_decide_eq_false hq
     omega
    subst hil
    rw[List.take_of_length_le (by simp)] at f4 f4'
    have hgone: ∀n,ff m4 (tfN n)≠none→n=st.next∧ff m2 (tfN n)≠none:=fun n hn=>by
     by_cases hm:n∈st.ts.map (·.1)
     ·exact absurd (f4' n hm) hn
     ·rw [f4 _ fun j hj e=>hm (by rw[H7 e];exact hj),fr3 _ fun j e=>Ld j n e.symm] at hn
      refine⟨?_,hn⟩
      by_cases e:n=st.next
      ·exact e
      ·rw [hff _ fun e'=>e (H7 e')] at hn
       exact absurd (L.clean n hn) hm
    have fl: ∀n,ff m4 (fnB nl n)=ff m (fnB nl n):=fun n=>by
     rw[f4 _ fun j _=>Jc n j,fr3 _ fun j=>R3 n j,hff _ (Jc n _)]
    have dk4:Ar (ff m4) D3:=dk3.tput fun x hx'=>f4 x fun n hn e=>hx' n (by
     rw[ln3]
     intro hm
     rcases hts with⟨rfl,_⟩|⟨rfl,_⟩
     ·simp [ntS] at hm
     ·have:n=st.next:=by simpa [ntS] using hm
      rw[this] at hn
      exact hnotin hn) e
    have tabs4: ∀p∈ts2,D3.T p.1=p.2:=fun p hp=>by
     rw[T3]
     rcases hts with⟨rfl,_⟩|⟨rfl,_⟩
     ·cases hp
     ·rw [List.mem_singleton.1 hp]
    have below4: ∀p∈ts2,p.1<next2:=fun p hp=>by
     rcases hts with⟨rfl,_⟩|⟨rfl,rfl,_⟩
     ·cases hp
     ·rw [List.mem_singleton.1 hp];exact Nat.lt_succ_self _
    have clean4: ∀n,ff m4 (tfN n)≠none→n∈ts2.map (·.1):=fun n hn=>by
     obtain⟨e,h2⟩:=hgone n hn
     rcases hts with⟨rfl,_,_,h3⟩|⟨rfl,_⟩
     ·rw [e] at h2;exact absurd h3 h2
     ·simp [e]
    have L4:Di (ff m4) {st with ts:=ts2,next:=next2,nseg:=st.nseg+1} D3:=
     ⟨dk4,by rw[ln3];rfl,tabs4,by rw[ln3];rfl,by rw[ln3];exact Nat.le_refl _,below4,r3.symm,fun n n1 n9 hne=>by rw[fl];exact L.lout n n1 n9 hne,fun hm=>by rw[fl,L3];exact L.lcur hm,
      fun n n1 n9=>by rw[f4 _ fun j _=>Ld n j];exact out3 n n1 n9,L.lfrm,by show 1≤st.nseg+1;omega,clean4⟩
    have lim4:Pd {st with ts:=ts2,next:=next2,nseg:=st.nseg+1} D3 (age+1) c:=by
     have:=l.lseg
     have:=l.ltop
     have:=l.ntop
     have n4:({st with ts:=ts2,next:=next2}:Db).nseg=st.nseg:=rfl
     rw[n4] at nt3
     refine⟨by show st.lseg≤_;omega,by show st.nseg+1≤_;omega,?_,?_,r2,by rw[lt3];omega,by omega⟩
     ·show next2≤_
      rcases hts with⟨_,rfl,_⟩|⟨_,rfl,_⟩<;>omega
     ·show ts2.length≤_
      rcases hts with⟨rfl,_⟩|⟨rfl,_⟩<;>simp
    refine H1 hx {q2 with Sb:=S4} k4 _ m4 D3 ed eb ⟨W4,st4.up,L4,lim4,hwt3 wt4,hc⟩ st4 rfl ?_ ?_ (fun y hy=>?_) mod4 kk4
    ·rw [← r1];exact L4.map.symm
    ·show ts2.length≤1
     rcases hts with⟨rfl,_⟩|⟨rfl,_⟩<;>simp
    ·rw [f4 y fun n _=>Nv hy n,fr3 y fun n=>ABL hy n,hff y (Nv hy _)]
 refine PIf.intro (fun hq=>?_) (fun hq=>?_)
 ·have hne:Er (tabsS st)≠ []:=fun e=>by
   have h1:=of_decide_eq_true hq
   have h2:=o8.len
   rw[e] at h2
   simp at h2
   omega
  have T8:=AKR (B:=B) W L l hc hne
  have tl:=AHY T8
  refine atI (Aa.mk (AB W10.cell rfl) ?_)
  have o10:View Ak h10 s8 (Er (tabsS st)):=o8.view.mod md10 fun c hc e=>by have:=b8 c hc;have:=W.dlt;have:=(x0h.trans x6).size;have:=x7.size;omega
  have tl2:(Hq (Er (tabsS st))).length≤8400*B.C+1100000:=by omega
  refine AJi (q:= {q with tp:=⟨none,0,0⟩,np:=⟨none,0,0⟩,ps:= []}) (n:=st.next) E W10 hd T8 o10 (fun c hc=>by have:=o8.lt hc;have:=md10.size;omega) (by omega) hfree (by have:=AKj tl2 hw hW8 hBC;exact this) (fun hfu h11 S11 m11 B11 d11 md11 s11 f11 wt11=>⟨_,_,rfl,PIf.yes rfl ?_⟩) fun h11 S11 k11 m11 t lo hi W11 st11 f11 wt11 T11 lo11 hi11 kz11 md11 gr11=>⟨_,_,rfl,PIf.no rfl ?_⟩
  ·refine Hm (q:= {q with tp:=⟨none,0,0⟩,np:=⟨none,0,0⟩,ps:= []}) W10 B11 (md11.weak fun c _ hc=> .inl hc) s11 fun h12 dn12 B12 md12 s12=>⟨_,rfl,?_⟩
   have hf11:Ar (ff m11) D∧ZW (ff m11) (age+1) c (Bp st):=by
    refine L.recT (l.mono (Nat.le_succ _) (Nat.le_refl _)) (fun x hx=>f11 x (hx _ hnotin)) fun n hn=>?_
    by_cases e:n=st.next
    ·omega
    ·rw [f11 _ fun e'=>e (H7 e')] at hn
     have:=L.tlt l hn;omega
   have wtm:wtF m11.files≤wtF m.files+(8400*B.C+1100001):=by omega
   exact H0 h12 m11 ⟨hfu,dn12,⟨S11,B12,fun c hc=>(s12 c hc).imp id fun h=>by have:=mod10.size;omega⟩,d11,mod10.then (md12.weak fun c _ hc=> .inl hc),fun y hy=>f11 y (Nv hy _),B.step2 hw wtm (Nat.le_add_right _ _)⟩ hf11.2
  ·refine New.mk fun h12 _ hb12 x12 s12'=>?_
   have W12:=W11.on x12
   refine atI (Aa.mk (AB W12.cell rfl) (New.mk fun h13 _ hb13 x13 s13=>?_))
   have W13:=W12.on x13
   refine atI (Store.mk1 W13.cell (by simp) fun h14 hb14 m14 s14=>atI (Store.mk1 hb14 (by simp) fun h15 hb15 m15 s15=>?_))
   refine atI (Aa.mk (AB hb15 rfl) (atI (Store.mk1 hb15 (by simp) fun h16 hb16 m16 s16=>?_)))
   have ew:IntKind.wrap .i64 (((st.next:Nat):Int)+(1:Int))=((st.next+1:Nat):Int):=AR (by omega)
   have md16:Mod (· =q.d) h13 h16:=(m14.trans m15).trans m16
   have hb12':h16[h11.size]? =some (.cells #[Aq t] Au (0,0)):=md16.blk (x13.blk hb12 fun h=>h) (by have:=W11.dlt;show ¬_=q.d;have e:(q.d:Nat)<h11.size:=this;omega)
   have hb13':h16[h12.size]? =some (.cells #[.int .i64 (st.next:Int)] BL (0,0)):=md16.blk hb13 (by have:=W12.dlt;have e:(q.d:Nat)<h12.size:=this;show ¬_=q.d;omega)
   have ot:Own PtE Au h16 ⟨some ⟨h11.size,0,none⟩,1,1⟩ [t]:=Own.lit (l:= [t]) hb12' rfl (by simp[maxLen])
   have on:Own Eg BL h16 ⟨some ⟨h12.size,0,none⟩,1,1⟩ (([(st.next,Er (tabsS st))]:List (Nat×List Pr)).map fun p=>(p.1:Int)):=Own.lit (l:= [((st.next:Nat):Int)]) hb13' rfl (by simp[maxLen])
   have sz11:=md11.size
   have kz: ∀c,h11.size≤c→k11 c=0:=fun c hc=>kz11 c (by have:=T11.tlt;omega)
   have W16:=W13.retab (h':=h16) (tp:=⟨some ⟨h11.size,0,none⟩,1,1⟩) (np:=⟨some ⟨h12.size,0,none⟩,1,1⟩) (ps:= [t]) (ts:= [(st.next,Er (tabsS st))]) (next:=st.next+1) (frm:=st.frm) (S:=fun c=>lo≤c∧c<hi)
    (by rw[ew] at hb16;simpa [dbC] using hb16) (md16.weak fun c _ hc=> .inl hc) ot on rfl
    (fun c hc=> .inr (by
     have e:h11.size=c:=by simpa [Sl.blk] using hc
     subst e
     have hg:=W11.ext.size
     refine⟨kz _ (Nat.le_refl _),hg,by simp[Sl.blk];omega,by omega⟩))
    (fun c hc=> .inr (by
     have e:h12.size=c:=by simpa [Sl.blk] using hc
     subst e
     have hg:=W12.ext.size
     refine⟨kz _ (by omega),hg,by simp[Sl.blk];omega,by omega⟩))
    (fun c hc=>⟨by have:=W10.ext.size;omega,by have:=x12.size;have:=x13.size;have:=md16.size;omega⟩)
    (fun i t' p h1 h2=>by
     have hi0:i=0:=by
      have:=(List.getElem?_eq_some_iff.1 h1).1
      simpa using this
     subst hi0
     simp only[List.getElem?_cons_zero,Option.some.injEq] at h1 h2
     subst h1 h2
     refine .inr ⟨lo,hi,(T11.ext (x12.trans x13)).mod md16 (fun c c1 c2 e=>?_),by have:=x12.size;have:=x13.size;have:=md16.size;omega,fun c c1 c2=>⟨⟨c1,c2⟩,kz11 c c1⟩,T8⟩
     have:=W10.dlt
     have e2:(q.d:Nat)<h10.size:=this
     omega)
   have mod16:Mod (fun c=>k c≠0) h h16:=by
    refine(mod10.trans ((md11.weak fun c _ hc=>?_))).trans ((Ext.mod (x12.trans x13)).trans (md16.weak fun c _ hc=>?_))
    ·rw [W.kb c hc];decide
    ·rw [hc,W.kd];decide
   have hlt7: ∀c,q.np.blk=some c→c<h10.size∧k c=7:=fun c hc=>⟨by have:=W.names.lt hc;have:=mod10.size;omega,W.kx c hc⟩
   refine fin h16 _ _ m11 (st.next+1) _ W16 rfl rfl st11 (fun x hx=>by rw[f11,if_neg hx]) (.inr ⟨rfl,rfl,by rw[f11,if_pos rfl],T8⟩) (by omega) mod16 (fun c hc=>?_) ?_ fun c hc=>?_
   ·by_cases hlt:c<h.size
    ·left
     intro h0
     have hlt10:c<h10.size:=by have:=mod10.size;omega
     have e1:k11 c=0:=by rw[gr11 c hlt10];exact h0
     have hlt11:=hlt10
     apply hc
     unfold I6
     rw[if_neg (by simp[e1]),if_neg (by simp[Sl.blk];omega),if_neg (by simp[Sl.blk];have:=x12.size;omega),if_neg (by omega)]
    ·exact .inr (by omega)
   ·refine((v10.mod md11 fun c hc e=>?_).ext (x12.trans x13)).mod md16 fun c hc e=>?_
    ·have:=(hlt7 c hc).2
     rw[W.kb c e] at this;cases this
    ·have:=(hlt7 c hc).2
     rw[e,W.kd] at this;cases this
   ·obtain⟨h1,h2⟩:=hlt7 c hc
    unfold I6
    rw[gr11 c h1,h2];rfl
 ·have he:Er (tabsS st)= []:=by
   have h1:=of_decide_eq_false hq
   have h2:=o8.len
   exact List.eq_nil_of_length_eq_zero (by omega)
  refine fin h10 _ k m st.next [] W10 rfl rfl (Gw.refl hd) (fun x _=>rfl) (.inl ⟨rfl,rfl,he,hfree⟩) (by omega) mod10 (fun c hc=> .inl hc) v10 fun c hc=>W.kx c hc
end
end Go.Lf.G

