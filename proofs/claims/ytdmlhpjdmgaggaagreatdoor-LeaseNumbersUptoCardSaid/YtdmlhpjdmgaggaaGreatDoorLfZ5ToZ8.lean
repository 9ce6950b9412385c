/-
 Contracts: a box that may give out: one operation; a log's segments dropped.
-/
import Derived.Test.YtdmlhpjdmgaggaaGreatDoorLfZ2ToZ4
import Derived.Test.YtdmlhpjdmgaggaaGreatDoorLfM11ToM12
set_option linter.unusedVariables false
set_option linter.unusedSimpArgs false
set_option maxRecDepth 100000
set_option linter.unusedVariables false
set_option linter.unusedSimpArgs false
namespace Go.Lf.G
open Go
structure Gw (m m':Bx):Prop where
 up:m'.down=false
 calm:m.fuel= -1→m'.fuel= -1
theorem Gw.refl {m:Bx}(h:m.down=false):Gw m m:=⟨h,fun h=>h⟩
theorem Gw.trans {m m1 m2:Bx}(a:Gw m m1)(b:Gw m1 m2):Gw m m2:=⟨b.up,fun h=>b.calm (a.calm h)⟩
theorem Vk {m:Bx}(hd:m.down=false)(l:List Fi):Gw m {FX m with files:=l}:=by
 refine⟨(AIs l).trans hd,fun h=>?_⟩
 show(FX m).fuel= -1
 unfold FX;rw[if_neg (by rw[h];decide)];exact h
theorem OY {m:Bx}{k d:ByteArray}(hd:m.down=false)(hk:JP k=false):(m.fuel=0∧Cm m k d=(30,JU m))∨((Cm m k d).1=0∧Gw m (Cm m k d).2∧
  ∀x,ff (Cm m k d).2 x=if x=k then some (((ff m k).getD (bs0,bs0)).1,((ff m k).getD (bs0,bs0)).2++d) else ff m x):=by
 by_cases hf:m.fuel=0
 ·left
  refine⟨hf,?_⟩
  unfold Cm
  rw[if_neg (by simp[hd]),if_neg (by simp[hk]),if_pos hf]
 ·right
  obtain⟨h1,h2⟩:=ABv ⟨hd,hf⟩ (d:=d) hk
  refine⟨h1,?_,h2⟩
  unfold Cm
  rw[if_neg (by simp[hd]),if_neg (by simp[hk]),if_neg hf]
  exact Vk hd _
theorem Ll {m:Bx}{k:ByteArray}{p:ByteArray×ByteArray}(hd:m.down=false)(hk:ff m k=some p):(m.fuel=0∧Eu m k=(30,JU m))∨((Eu m k).1=0∧Gw m (Eu m k).2∧ ∀x,ff (Eu m k).2 x=if x=k then some (p.1++p.2,bs0) else ff m x):=by
 have hn:(BR k m.files).isNone=false:=by
  cases hf:BR k m.files with
  |none=>unfold ff at hk;rw[hf] at hk;cases hk
  |some f=>rfl
 by_cases hf:m.fuel=0
 ·left
  refine⟨hf,?_⟩
  unfold Eu
  rw[if_neg (by simp[hd]),if_neg (by simp[hn]),if_pos hf]
 ·right
  obtain⟨h1,h2⟩:=AG4 ⟨hd,hf⟩ hk
  refine⟨h1,?_,h2⟩
  unfold Eu
  rw[if_neg (by simp[hd]),if_neg (by simp[hn]),if_neg hf]
  exact Vk hd _
theorem Og {m:Bx}{k:ByteArray}(hd:m.down=false)(hk:(ff m k).isSome=true):(m.fuel=0∧FI m k=(30,JU m))∨((FI m k).1=0∧Gw m (FI m k).2∧ ∀x,ff (FI m k).2 x=if x=k then none else ff m x):=by
 have hn:(BR k m.files).isNone=false:=by
  rw[← RD] at hk
  cases hf:BR k m.files with
  |none=>rw[hf] at hk;cases hk
  |some f=>rfl
 by_cases hf:m.fuel=0
 ·left
  refine⟨hf,?_⟩
  unfold FI
  rw[if_neg (by simp[hd]),if_neg (by simp[hn]),if_pos hf]
 ·right
  obtain⟨h1,h2⟩:=AH6 ⟨hd,hf⟩ hk
  refine⟨h1,?_,h2⟩
  unfold FI
  rw[if_neg (by simp[hd]),if_neg (by simp[hn]),if_neg hf]
  exact Vk hd _
theorem ADa(m:Bx)(x:ByteArray):ff (JU m) x=ff m x:=rfl
theorem AGM(m:Bx):wtF (JU m).files=wtF m.files:=rfl
theorem AB3 {A:Amb}{h:Heap}{lg b seg:Nat}{nm:ByteArray}{made:Bool}{S:Nat→Prop}{m:Bx}{upto:Int}{R:Value→Heap→Prop}(E:Evn h)(hE: ∀h',Mod S h h'→Evn h')(L:DI h lg b nm seg made)(B:BU h b S m)(hd:m.down=false)(hS: ¬S lg)(hnm:nm.size≤8)(hw:wtF m.files≤8000000000000)
  (H0:upto≥(seg:Int)→R (.int .i64 1) h)
  (H2:m.fuel≠ -1→ ∀h' S' m',BU h' b S' m'→m'.down=true→Mod S h h'→(∀ c,S' c→S c)→wtF m'.files≤wtF m.files→(∀ x,ff m' x=ff m x∨(ff m' x=none∧ ∃n:Nat,1≤n∧n≤99999999∧(n:Int)≤upto∧x=fnB nm n))→R (.int .i64 30) h')
  (H1:upto<(seg:Int)→ ∀h' S' m',BU h' b S' m'→Gw m m'→Mod S h h'→(∀ c,S' c→S c)→wtF m'.files≤wtF m.files→(∀ n:Nat,1≤n→n≤99999999→(n:Int)≤upto→ff m' (fnB nm n)=none)→
   (∀ x,(∀ n:Nat,1≤n→n≤99999999→(n:Int)≤upto→x≠fnB nm n)→ff m' x=ff m x)→R (.int .i64 0) h'):AA A P FP #[Aq lg,.int .i64 upto] h R:=by
 refine XJ ?_
 unfold MG
 refine Join.mk fun K hK=>PIf.no rfl (atI (Aa.mk (AB L rfl) (hK _ _ ?_)))
 refine PIf.intro (fun q=>H0 (by simpa using q)) (fun q=>?_)
 have hup:upto<(seg:Int):=by simpa using q
 refine atI (AP.mk (AC L rfl) (atI (AL.mk (AB L rfl) ?_)))
 refine WX E B hd (by omega) hw fun h2 s2 l SL v2 x2 f2=>⟨s2,_,rfl,PIf.no rfl ?_⟩
 have hlen:(l.map fun n:Nat=>(n:Int)).length=l.length:=List.length_map ..
 have hr: ∀n∈l,1≤n∧n≤99999999∧(ff m (fnB nm n)).isSome=true:=fun n hn=>by
  have:=(SL.mem n).1 hn
  rw[RD] at this
  exact this
 have hnd:l.Nodup:=List.nodup_iff_pairwise_ne.2 (SL.inc.imp fun h=>Nat.ne_of_lt h)
 have hl9:=AJk SL
 refine Loop.rule (fun mm x hh=> ∃(i:Nat) (Si:Nat→Prop) (mi:Bx),x=((i:Int),())∧BU hh b Si mi∧Gw m mi∧Mod S h hh∧Mod S h2 hh∧(∀ c,Si c→S c)∧wtF mi.files≤wtF m.files∧(∀ n∈l.take i,(n:Int)≤upto→ff mi (fnB nm n)=none)∧(∀ x,(∀ n∈l.take i,(n:Int)≤upto→x≠fnB nm n)→ff mi x=ff m x)∧i≤l.length∧mm=l.length-i) ?_
  ⟨0,S,m,rfl,B.ext x2,Gw.refl hd,Ext.mod x2,Mod.refl,fun _ h=>h,Nat.le_refl _,by simp,fun _ _=>rfl,Nat.zero_le _,rfl⟩
 rintro K1 mm _ hh ⟨i,Si,mi,rfl,Bi,ci,md,md2,hSi,hwi,hi1,hi2,hi,rfl⟩ hK1
 have vh:View Eg hh s2 (l.map fun n:Nat=>(n:Int)):=v2.mod md2 fun c hc hs=>by have:=f2 c hc;have:=B.lt hs;omega
 rw[v2.len,hlen]
 refine PIf.intro (fun hq=>?_) (fun hq=>?_)
 ·have hil:i<l.length:=by simpa using hq
  have hget:l[i]? =some l[i]:=List.getElem?_eq_getElem hil
  obtain⟨n1,n9,hff⟩:=hr l[i] (List.getElem_mem hil)
  have htk:l.take (i+1)=l.take i++ [l[i]]:=by rw[List.take_add_one,hget];rfl
  have hni: ∀n∈l.take i,n<l[i]:=fun n hn=>by
   have:=SL.inc
   rw[← List.take_append_drop (i+1) l,htk] at this
   have h3:=(List.pairwise_append.1 (List.pairwise_append.1 this).1).2.2 n hn l[i] (by simp)
   exact h3
  refine Join.mk fun K2 hK2=>?_
  have fin: ∀S' m' h',BU h' b S' m'→Gw m m'→Mod S h h'→Mod S h2 h'→(∀ c,S' c→S c)→wtF m'.files≤wtF m.files→(∀ n∈l.take (i+1),(n:Int)≤upto→ff m' (fnB nm n)=none)→(∀ x,(∀ n∈l.take (i+1),(n:Int)≤upto→x≠fnB nm n)→ff m' x=ff m x)→K2 () h':=fun S' m' h' B' c' md' md2' hS' hw' f1 f2=>by
   refine hK2 _ _ ?_
   dsimp only
   rw[AR (by omega)]
   exact hK1 (l.length-(i+1)) _ _ (by omega) ⟨i+1,S',m',rfl,B',c',md',md2',hS',hw',f1,f2,hil,rfl⟩
  rw[← hlen,←v2.len]
  refine vh.idx (i:=i) (x:=(l[i]:Int)) (by rw[List.getElem?_map,hget];rfl) fun a _ c=>?_
  refine Aa.mk c.int ?_
  refine PIf.intro (fun q=>?_) (fun q=>?_)
  ·have q:(l[i]:Int)≤upto:=by simpa using q
   have Lh:DI hh lg b nm seg made:=L.mod md hS
   refine atI (AP.mk (AC Lh rfl) (atI (AL.mk (AB Lh rfl) ?_)))
   refine Uc (hE hh md) (by omega) (by omega) fun h5 x5=>⟨_,rfl,⟨AC (Lh.ext x5) rfl,?_⟩⟩
   refine Sq (Bi.ext x5) fun h6 S6 B6 m6 s6=>⟨_,rfl,?_⟩
   have hsome:(ff mi (fnB nm l[i])).isSome=true:=by
    rw[hi2 (fnB nm l[i]) fun n hn _ e=>by have:=hni n hn;have:=GZ e;omega]
    exact hff
   have md6:=(Ext.mod x5).trans (m6.weak fun c _ hc=>hSi c hc)
   rcases Og (k:=fnB nm l[i]) ci.up hsome with⟨df,de⟩|⟨d1,ds,d2⟩
   ·rw [de] at B6 ⊢
    refine PIf.yes rfl (H2 (fun h=>by have:=ci.calm h;rw[df] at this;cases this) h6 S6 _ B6 rfl (md.trans md6) (fun c hc=>hSi c (s6 c hc)) hwi fun x=>?_)
    show ff mi x=_∨(ff mi x=_∧_)
    by_cases hx: ∃n,n∈l.take i∧(n:Int)≤upto∧x=fnB nm n
    ·obtain⟨n,hn,hnu,rfl⟩:=hx
     have hr':=hr n (List.mem_of_mem_take hn)
     exact .inr ⟨hi1 n hn hnu,n,hr'.1,hr'.2.1,hnu,rfl⟩
    ·exact .inl (hi2 x fun n hn hnu e=>hx ⟨n,hn,hnu,e⟩)
   rw[d1]
   refine PIf.no rfl (fin S6 _ h6 B6 (ci.trans ds) (md.trans md6) (md2.trans md6) (fun c hc=>hSi c (s6 c hc)) (Nat.le_trans (Vb _) hwi) ?_ ?_)
   ·intro n hn hnu
    rw[d2]
    split
    ·rfl
    ·rename_i hne
     rw[htk] at hn
     rcases List.mem_append.1 hn with hn|hn
     ·exact hi1 n hn hnu
     ·exact absurd (by rw[List.mem_singleton.1 hn]) hne
   ·intro x hx
    rw[d2,if_neg (hx l[i] (by rw[htk];exact List.mem_append.2 (.inr (List.mem_singleton.2 rfl))) q)]
    exact hi2 x fun n hn=>hx n (by rw[htk];exact List.mem_append.2 (.inl hn))
  ·have q: ¬(l[i]:Int)≤upto:=by simpa using q
   refine fin Si mi hh Bi ci md md2 hSi hwi ?_ ?_
   ·intro n hn hnu
    rw[htk] at hn
    rcases List.mem_append.1 hn with hn|hn
    ·exact hi1 n hn hnu
    ·rw [List.mem_singleton.1 hn] at hnu;exact absurd hnu q
   ·intro x hx
    exact hi2 x fun n hn=>hx n (by rw[htk];exact List.mem_append.2 (.inl hn))
 ·have hil:i=l.length:=by simp at hq;omega
  subst hil
  rw[List.take_length] at hi1 hi2
  refine H1 hup hh Si mi Bi ci md hSi hwi ?_ ?_
  ·intro n n1 n9 hnu
   by_cases hn:n∈l
   ·exact hi1 n hn hnu
   ·rw [hi2 (fnB nm n) fun k hk _ e=>hn (by rw[GZ e];exact hk)]
    have: ¬((ff m (fnB nm n)).isSome=true):=fun h=>hn ((SL.mem n).2 ⟨n1,n9,by rw[RD];exact h⟩)
    cases hf:ff m (fnB nm n) with
    |none=>rfl
    |some p=>rw[hf] at this;exact absurd rfl this
  ·intro x hx
   exact hi2 x fun n hn hnu=>hx n (hr n hn).1 (hr n hn).2.1 hnu
end Go.Lf.G

/-
 Contracts: a table's file laid; a note written (chapter 9).
-/
set_option maxRecDepth 100000
set_option linter.unusedVariables false
set_option linter.unusedSimpArgs false
namespace Go.Lf.G
open Go
theorem ALy {n:Nat}(h:n≤99999999):JP (tfN n)=false:=by
 have h1:(tfN n).size=1+(Lib.decDigits n).length:=by
  have:=Be (tfN n)
  rw[Sz] at this
  rw[← this];simp;omega
 have h2:(Lib.decDigits n).length≤20:=by rw[Lib.decDigits_length];exact Lib.nDigits_le20 n (by omega)
 unfold JP
 rw[Bool.or_eq_false_iff,decide_eq_false_iff_not,decide_eq_false_iff_not]
 refine⟨fun h=>?_,by omega⟩
 rw[h] at h1
 have:bs0.size=0:=rfl
 omega
theorem NY {A:Amb}{h:Heap}{n:Nat}{R:Value→Heap→Prop}(E:Evn h)(hn:n≤1099511627776)(H: ∀h',Ext h h'→R (.string (tfN n)) h'):AA A P Fp #[.int .i64 n] h R:=by
 refine ADj ?_
 unfold TJ
 refine AHi E.tab (by omega) (by omega) fun h1 x1=>⟨_,rfl,?_⟩
 have e1:Lib.itoa (n:Int)=Lib.decDigits n:=Lib.itoa_nonneg n
 rw[e1]
 have h2:(Lib.decDigits n).length≤20:=by rw[Lib.decDigits_length];exact Lib.nDigits_le20 n (by omega)
 have hl:(⟨(Lib.decDigits n).toArray⟩:ByteArray).size=(Lib.decDigits n).length:=by simp[ByteArray.size]
 refine⟨?_,?_⟩
 ·rw [hl,max_i64]
  have:(⟨#[116]⟩:ByteArray).size=1:=rfl
  omega
 ·exact H h1 x1
def Qb(h:Heap)(d:Nat):Prop:= ∃c0 c1 c2 c3 c4 c5 c6 c7,h[d]? =some (.cells #[c0,c1,c2,c3,c4,c5,c6,c7,.bool true] Du (0,0))
theorem Qb.mod {S:Nat→Prop}{h h':Heap}{d:Nat}(D:Qb h d)(x:Mod S h h')(hS: ¬S d):Qb h' d:=by
 obtain⟨c0,c1,c2,c3,c4,c5,c6,c7,hd⟩:=D
 exact⟨c0,c1,c2,c3,c4,c5,c6,c7,x.blk hd hS⟩
theorem AK2 {A:Amb}{h:Heap}{q:Hp}{st:Db}{R:Value→Heap→Prop}(hd:h[q.d]? =some (.cells (dbC q st false) Du (0,0)))(H: ∀h',Qb h' q.d→Mod (· =q.d) h h'→h'.size=h.size→R (.int .i64 30) h'):AA A P Bj #[Aq q.d,.int .i64 30] h R:=by
 refine Zq ?_
 unfold NK
 refine Join.mk fun K hK=>PIf.yes rfl (atI (Store.mk1 hd (by simp) fun h1 hb1 m1 hs1=>hK _ _ (H h1 ?_ m1 hs1)))
 exact⟨_,_,_,_,_,_,_,_,by simpa using hb1⟩
section
variable {A : Amb} {g h : Heap} {q : Hp} {k : Nat → Nat} {st : Db} {m : Bx} {R : Value → Heap → Prop}
theorem DbH.evn(W:DbH g h q k st m)(E:Evn g):Evn h:=E.ext W.ext
def Grow(k k':Nat→Nat)(n:Nat):Prop:= ∀c,c<n→k' c=k c
theorem Grow.refl {k:Nat→Nat}{n:Nat}:Grow k k n:=fun _ _=>rfl
theorem Grow.trans {k k1 k2:Nat→Nat}{n n1:Nat}(a:Grow k k1 n)(b:Grow k1 k2 n1)(h:n≤n1):Grow k k2 n:=fun c hc=>(b c (by omega)).trans (a c hc)
theorem Zt {k:Nat→Nat}{n j:Nat}{S:Nat→Prop}:Grow k (Iu k n S j) n:=fun c hc=>Ec hc
theorem ALn(W:DbH g h q k st m)(hn:st.next≤99999999)(hf:st.frm≤99999999)(hc:st.ts.length≤60000)(hb: ∀p∈st.ts,p.1≤99999999)(H: ∀h',Ext h h'→R (.string (AY (Cv ⟨st.next,st.frm,st.ts.map (·.1)⟩))) h'):AA A P J5 #[Aq q.d] h R:=by
 refine Yk ?_
 unfold NF
 refine atI (Aa.mk (AB W.cell rfl) ?_)
 rw[CU (by omega)]
 refine Fu (by omega) fun h1 x1=>⟨_,rfl,?_⟩
 have c1:=AU x1 W.cell
 refine atI (Aa.mk (AB c1 rfl) ⟨AB W.cell rfl,?_⟩)
 rw[CU (by omega)]
 refine Fu (by omega) fun h2 x2=>⟨_,rfl,?_⟩
 have c2:=AU x2 c1
 have l1:=Af (n:=st.next) (by omega)
 have l2:=Af (n:=st.frm) (by omega)
 have hnl:q.np.len=st.ts.length:=by rw[W.names.len];simp
 refine⟨by rw[AQ,AQ,max_i64];omega,?_⟩
 refine atI (AZ.mk (s:=q.np) (AB c2 rfl) ⟨AB c1 rfl,AB W.cell rfl,?_⟩)
 rw[hnl,CU (by omega),CF]
 refine Fu (by omega) fun h3 x3=>⟨_,rfl,?_⟩
 have c3:=AU x3 c2
 have l3:=Af (n:=st.ts.length) (by omega)
 refine⟨by rw[AQ,AQ,List.length_append,max_i64];omega,?_⟩
 refine atI (AZ.mk (s:=q.np) (AB c3 rfl) ?_)
 rw[CF]
 have x03:=(x1.trans x2).trans x3
 have v3:=(W.names.ext x03).view
 have hle: ∀i,((st.ts.map (·.1)).take i).flatMap CK=((st.ts.map (·.1)).take i).flatMap CK:=fun _=>rfl
 refine Loop.rule (fun mm x hh=> ∃i:Nat,x=(AY (CK st.next++CK st.frm++CK st.ts.length++((st.ts.map (·.1)).take i).flatMap CK),(i:Int),())∧mm=st.ts.length-i∧i≤st.ts.length∧Ext h3 hh) ?_ ⟨0,by simp,rfl,by omega,Mod.refl⟩
 rintro K mm _ hh ⟨i,rfl,rfl,hi,xx⟩ hK
 dsimp only
 refine PIf.intro (fun hq=>?_) (fun hq=>?_)
 ·have hil:i<st.ts.length:=by rw[← hnl];simpa using hq
  have hget:st.ts[i]? =some st.ts[i]:=List.getElem?_eq_getElem hil
  have hbi:=hb st.ts[i] (List.getElem_mem hil)
  refine(v3.ext xx).idx (i:=i) (x:=(st.ts[i].1:Int)) (by rw[nmS,List.getElem?_map,hget];rfl) fun a _ c=>Aa.mk c.int ?_
  rw[CU (by omega)]
  refine Fu (by omega) fun h5 x5=>⟨_,rfl,?_⟩
  have l5:=Af (n:=st.ts[i].1) (by omega)
  have l6:=RH (l:=(st.ts.map (·.1)).take i) fun n hn=>by
   obtain⟨p,hp,rfl⟩:=List.mem_map.1 (List.mem_of_mem_take hn)
   exact hb p hp
  have l7:((st.ts.map (·.1)).take i).length≤60000:=by simp;omega
  refine⟨by rw[AQ,AQ,max_i64];simp only[List.length_append];omega,?_⟩
  rw[CF,AR (by omega)]
  refine hK (st.ts.length-(i+1)) _ _ (by omega) ⟨i+1,?_,rfl,hil,xx.trans x5⟩
  rw[List.take_add_one,List.getElem?_map,hget]
  simp
 ·have hil:i=st.ts.length:=by rw[hnl] at hq;simp at hq;omega
  subst hil
  have:=H hh (x03.trans xx)
  rw[List.take_of_length_le (by simp)]
  simpa [Cv] using this
theorem AJi {n:Nat}{s:Sl}{l:List Pr}(E:Evn g)(W:DbH g h q k st m)(hd:m.down=false)(T:FR l)(hv:View Ak h s l)(hs: ∀c,s.blk=some c→c<h.size)(hn:n≤99999999)(hf:ff m (tfN n)=none)(hw:wtF m.files+(Hq l).length+1≤8796093022208)
  (H0:m.fuel≠ -1→ ∀h' S' m',BU h' q.b S' m'→m'.down=true→Mod q.Sb h h'→(∀ c,S' c→q.Sb c∨h.size≤c)→(∀ x,x≠tfN n→ff m' x=ff m x)→wtF m'.files≤wtF m.files+(Hq l).length+1→R (.tuple #[.pointer none,.int .i64 30]) h')
  (H1: ∀h' S' k' m' t lo hi,DbH g h' {q with Sb:=S'} k' st m'→Gw m m'→(∀ x,ff m' x=if x=tfN n then some (AY (Hq l),bs0) else ff m x)→wtF m'.files≤wtF m.files+(Hq l).length+1→TabAt h' t l (KD l) lo hi→h.size≤lo→hi≤h'.size→(∀ c,lo≤c→k' c=0)→
   Mod q.Sb h h'→Grow k k' h.size→R (.tuple #[Aq t,.int .i64 0]) h'):AA A P JF #[Aq q.d,.int .i64 (n:Int),.slice s.p s.len s.cap] h R:=by
 refine AAI ?_
 unfold PM
 refine AI1 T hv hs fun h1 x1=>⟨_,_,rfl,PIf.no rfl ?_⟩
 have W1:=W.on x1
 refine atI (AP.mk (AC W1.cell rfl) ?_)
 refine NY (W1.evn E) (by omega) fun h2 x2=>⟨_,rfl,⟨AC (W1.on x2).cell rfl,?_⟩⟩
 have W2:=W1.on x2
 have x02:=x1.trans x2
 have sz2:=x02.size
 refine Zz W2.box (by rw[AQ];exact hw) fun h3 S3 B3 m3 s3=>⟨_,rfl,?_⟩
 have wt3:=RA W.box.good (tfN n) (AY (Hq l))
 rw[AQ] at wt3
 have mod3:Mod q.Sb h h3:=(Ext.mod x02).trans m3
 have sub3: ∀c,S3 c→q.Sb c∨h.size≤c:=fun c hc=>(s3 c hc).imp id fun h=>by omega
 rcases OY (k:=tfN n) (d:=AY (Hq l)) hd (ALy hn) with⟨hf0,e3⟩|⟨e3,st3,f3⟩
 ·rw [e3] at B3 ⊢
  refine PIf.yes rfl ?_
  exact H0 (by rw[hf0];decide) h3 S3 _ B3 rfl mod3 sub3 (fun x _=>rfl) (by rw[AGM,Nat.add_assoc];exact Nat.le_add_right _ _)
 rw[e3]
 refine PIf.no rfl ?_
 have W3:=W2.boxed (j:=2) (st':=st) B3 (m3.weak fun c _ hc=> .inl hc) s3 rfl rfl rfl rfl (.inl ⟨by decide,rfl,rfl⟩) (.inl ⟨by decide,rfl⟩)
 generalize (Cm m (tfN n) (AY (Hq l))).2=m3' at*
 have g3:Grow k (Iu k h2.size S3 2) h2.size:=Zt
 refine atI (AP.mk (AC W3.cell rfl) ?_)
 refine NY (W3.evn E) (by omega) fun h4 x4=>⟨_,rfl,⟨AC (W3.on x4).cell rfl,?_⟩⟩
 have W4:=W3.on x4
 rw[hf] at f3
 have f3t:ff m3' (tfN n)=some (bs0,bs0++AY (Hq l)):=by rw[f3,if_pos rfl];rfl
 refine AE9 W4.box fun h5 B5 m5=>⟨_,rfl,?_⟩
 have wt5:=VC W3.box.good (tfN n)
 have mod5:Mod q.Sb h h5:=by
  refine mod3.then ((Ext.mod x4).trans m5 |>.weak fun c _ hc=>?_)
  exact(sub3 c hc)
 rcases Ll st3.up f3t with⟨hf0,e5⟩|⟨e5,st5,f5⟩
 ·rw [e5] at B5 ⊢
  refine PIf.yes rfl ?_
  exact H0 (fun hh=>by have:=st3.calm hh;rw[hf0] at this;cases this) h5 S3 _ B5 rfl mod5 sub3 (fun x hx=>by
   rw[ADa,f3,if_neg hx]) wt3
 rw[e5]
 refine PIf.no rfl ?_
 have W5:=W4.boxed (j:=2) (st':=st) B5 (m5.weak fun c _ hc=> .inl hc) (fun c hc=> .inl hc) rfl rfl rfl rfl (.inl ⟨by decide,rfl,rfl⟩) (.inl ⟨by decide,rfl⟩)
 generalize (Eu m3' (tfN n)).2=m5' at*
 refine atI (AP.mk (AC W5.cell rfl) ?_)
 refine NY (W5.evn E) (by omega) fun h6 x6=>⟨_,rfl,⟨AC (W5.on x6).cell rfl,?_⟩⟩
 have W6:=W5.on x6
 refine YF W6.box ⟨_,_,rfl,?_⟩
 have f5t:ff m5' (tfN n)=some (AY (Hq l),bs0):=by rw[f5,if_pos rfl,OO,OO]
 rw[ACj st5.up,f5t]
 dsimp only
 rw[Od]
 refine PIf.no rfl ?_
 refine AFP T.tabS fun h7 t x7 T7=>⟨_,_,rfl,?_⟩
 have sz4:=x4.size
 have sz3:=m3.size
 have sz5:=m5.size
 have sz6:=x6.size
 have k5: ∀c,h6.size≤c→Iu (Iu k h2.size S3 2) h4.size S3 2 c=0:=fun c hc=>by
  have: ¬S3 c:=fun hs=>by have:=B5.lt hs;omega
  exact RI (by omega) this
 refine H1 h7 S3 _ m5' t h6.size h7.size (W6.on x7) (st3.trans st5) (fun x=>?_) (Nat.le_trans wt5 wt3) T7 (by omega) (Nat.le_refl _) (fun c hc=>k5 c hc) ?_ ?_
 ·rw [f5]
  by_cases hx:x=tfN n
  ·rw [if_pos hx,if_pos hx,OO,OO]
  ·rw [if_neg hx,if_neg hx,f3,if_neg hx]
 ·exact(mod5.trans (Ext.mod x6)).trans (Ext.mod x7)
 ·exact fun c hc=>by
   rw[Ec (by omega),Ec (by omega)]
end
end Go.Lf.G

/-
 Contract: how it is now is told (chapter 9): a note is written, older ones go.
-/
set_option maxRecDepth 100000
set_option linter.unusedVariables false
set_option linter.unusedSimpArgs false
namespace Go.Lf.G
open Go
section
variable {A : Amb} {g h : Heap} {q : Hp} {k : Nat → Nat} {st : Db} {m : Bx} {R : Value → Heap → Prop}
theorem DbH.evnB(W:DbH g h q k st m)(E:Evn g){h':Heap}(x:Mod (fun c=>q.Sb c∨c=q.lg∨c=q.nt) h h'):Evn h':=
 E.ext (W.rest (C:=fun c=>c=2∨c=3∨c=4) (x.weak fun c _ hc=>by
  rcases hc with hc|rfl|rfl
  ·exact .inl (W.kb c hc)
  ·exact .inr (.inl W.kl)
  ·exact .inr (.inr W.kn)) (by decide)).ext
def ntS(st:Db):Nt:=⟨st.next,st.frm,st.ts.map (·.1)⟩
theorem AHt {D:BO}{T:Nat→List Pr}(E:Evn g)(W:DbH g h q k st m)(hd:m.down=false)(hD:Ar (ff m) D)(hx:YG (ntS st))(hT: ∀n∈(ntS st).names,ff m (tfN n)=some (AY (Hq (T n)),bs0)∧FR (T n))(hs:1≤st.nseg∧st.nseg+2≤99999999)
  (hout: ∀n,st.nseg≤n→n≤99999999→ff m (fnB nn n)=none) (hw:wtF m.files+1000000≤8000000000000)
  (H0:m.fuel≠ -1→ ∀h' S' m',BU h' q.b S' m'→m'.down=true→Mod (fun c=>q.Sb c∨c=q.nt) h h'→(∀ c,S' c→q.Sb c∨h.size≤c)→(∀ G,Hd (ff m') G→ ∃D',Ar G D'∧Nxt D st.nseg (ntS st) T D')→(∀ y,(∀ n,y≠fnB nn n)→ff m' y=ff m y)→wtF m'.files≤wtF m.files+700000→R (.int .i64 30) h')
  (H1: ∀h' S' k' m' D',DbH g h' {q with Sb:=S'} k' {st with nseg:=st.nseg+1} m'→Gw m m'→Ar (ff m') D'→Ac D'=ntS st→D'.T=T→D'.L=D.L→D'.ltop=D.ltop→D'.ntop≤max D.ntop (st.nseg+1)→(∀ y,(∀ n,y≠fnB nn n)→ff m' y=ff m y)→
   (∀ n,st.nseg+1≤n→n≤99999999→ff m' (fnB nn n)=none)→wtF m'.files≤wtF m.files+700000→Mod (fun c=>q.Sb c∨c=q.nt) h h'→Grow k k' h.size→R (.int .i64 0) h'):AA A P GI #[Aq q.d] h R:=by
 have hbel: ∀p∈st.ts,p.1≤99999999:=fun p hp=>by
  have h1:=hx.below p.1 (List.mem_map.2 ⟨p,hp,rfl⟩)
  have h2:=hx.next
  simp only[ntS] at h1 h2;omega
 have hcnt:st.ts.length≤60000:=by have:=hx.cnt;simpa [ntS] using this
 have hnl:=AEx hx
 have hnl2:(ntS st).names.length=st.ts.length:=by simp[ntS]
 rw[hnl2] at hnl
 have hnl3:(Cv (ntS st)).length≤1048576:=by omega
 refine ZJ ?_
 unfold Mx
 refine atI (AP.mk (AB W.cell rfl) ?_)
 refine ALn W hx.next hx.frm.2 hcnt hbel fun h1 x1=>⟨_,rfl,⟨AB (W.on x1).cell rfl,?_⟩⟩
 have W1:=W.on x1
 have sz1:=x1.size
 have er:(AY (Cv ⟨st.next,st.frm,st.ts.map (·.1)⟩)).size=(Cv (ntS st)).length:=by rw[AQ];rfl
 refine SI (W1.evn E) W1.nts W1.box W1.nSn (fun h' x=>W1.evnB E (x.weak fun c _ hc=> .inl hc)) (by decide) (by omega) (by rw[er];omega) (by omega) fun h2 S2 B2 L2 m2 s2=>⟨_,rfl,?_⟩
 rw[show bl (AY (Cv ⟨st.next,st.frm,st.ts.map (·.1)⟩))=Cv (ntS st) from IU _] at B2 L2 ⊢
 have wt2:=RA W.box.good (fnB nn st.nseg) (AY (CE (Cv (ntS st))))
 have wl:=(GH hnl3).2
 rw[AQ] at wt2
 have mod2:Mod (fun c=>q.Sb c∨c=q.nt) h h2:=(Ext.mod x1).trans m2
 have sub2: ∀c,S2 c→q.Sb c∨h.size≤c:=fun c hc=>(s2 c hc).imp id fun h=>by omega
 rcases OY (k:=fnB nn st.nseg) (d:=AY (CE (Cv (ntS st)))) hd (ADY (by decide) (by omega)) with⟨hf0,e2⟩|⟨e2,st2,f2⟩
 ·rw [e2] at B2 ⊢
  refine PIf.yes rfl ?_
  exact H0 (by rw[hf0];decide) h2 S2 _ B2 rfl mod2 sub2 (fun G c=>⟨D,hD.crash c,AJd⟩) (fun y _=>rfl) (by rw[AGM];omega)
 rw[e2] at L2 ⊢
 refine PIf.no rfl ?_
 rw[decide_eq_true rfl,Bool.or_true] at L2
 generalize (Cm m (fnB nn st.nseg) (AY (CE (Cv (ntS st))))).2=ma at*
 rw[hout st.nseg (Nat.le_refl _) (by omega)] at f2
 have f2': ∀y,ff ma y=if y=fnB nn st.nseg then some (bs0,AY (CE (Cv (ntS st)))) else ff m y:=fun y=>by
  rw[f2];split<;>simp only[Option.getD_none,OO]
 have nS2: ¬S2 q.nt:=fun hc=>by
  rcases s2 _ hc with h|h
  ·exact W.nSn h
  ·exact h.2 rfl
 have cd2:h2[q.d]? =some (.cells (dbC q st false) Du (0,0)):=mod2.blk W.cell (by rintro(h|h);exact W.nSd h;exact W.dn h)
 refine atI (AP.mk (AB cd2 rfl) ?_)
 have fk:ff ma (fnB nn st.nseg)=some (bs0,AY (CE (Cv (ntS st)))):=by rw[f2',if_pos rfl]
 have ev2:Evn h2:=W.evnB E (mod2.weak fun c _ hc=>hc.imp id .inr)
 refine TS ev2 L2 B2 nS2 (by decide) (by omega) (fun hne h3 B3 L3 m3=>⟨_,_,rfl,?_⟩) fun heq h3 B3 L3 m3=>⟨_,_,rfl,?_⟩
 ·
  have hne':(Eu ma (fnB nn st.nseg)).1≠0:=hne
  rcases Ll st2.up fk with⟨hf0,e3⟩|⟨e3,_,_⟩
  ·have e3':JZ ma (fnB nn st.nseg) true=(30,JU ma):=e3
   rw[e3'] at B3 ⊢
   refine PIf.yes rfl ?_
   have mod3:Mod (fun c=>q.Sb c∨c=q.nt) h h3:=mod2.then (m3.weak fun c _ hc=>(sub2 c hc).imp .inl id)
   exact H0 (fun hh=>by have:=st2.calm hh;rw[hf0] at this;cases this) h3 S2 _ B3 rfl mod3 sub2 (fun G c=>AIr hD ⟨hs.1,by omega⟩ hx hnl3 hout hT (F1:=ff (JU ma)) f2' c) (fun y hy=>by
    rw[ADa,f2',if_neg (hy _)]) (by rw[AGM];omega)
  ·exact absurd e3 hne'
 ·rcases Ll st2.up fk with⟨hf0,e3⟩|⟨e3,st3,f3⟩
  ·have heq':(Eu ma (fnB nn st.nseg)).1=0:=heq
   rw[e3] at heq';cases heq'
  have B3:BU h3 q.b S2 (Eu ma (fnB nn st.nseg)).2:=B3
  have wt3:=VC B2.good (fnB nn st.nseg)
  generalize (Eu ma (fnB nn st.nseg)).2=mb at*
  refine PIf.no rfl ?_
  have f3': ∀y,ff mb y=if y=fnB nn st.nseg then some (AY (CE (Cv (ntS st))),bs0) else ff m y:=fun y=>by
   rw[f3]
   by_cases hy:y=fnB nn st.nseg
   ·rw [if_pos hy,if_pos hy];simp only[OO]
   ·rw [if_neg hy,if_neg hy,f2',if_neg hy]
  obtain⟨hD3,hN⟩:=AIj hD ⟨hs.1,by omega⟩ hx hnl3 hout hT f3'
  have mod3:Mod (fun c=>q.Sb c∨c=q.nt) h h3:=mod2.then (m3.weak fun c _ hc=>by
   rcases hc with hc|rfl
   ·exact(sub2 c hc).imp .inl id
   ·exact .inl (.inr rfl))
  have cd3:h3[q.d]? =some (.cells (dbC q st false) Du (0,0)):=mod3.blk W.cell (by rintro(h|h);exact W.nSd h;exact W.dn h)
  refine atI (AP.mk (AB cd3 rfl) ?_)
  have ew:IntKind.wrap .i64 (((st.nseg:Nat):Int)-(1:Int))=(st.nseg:Int)-1:=wrap_i64 (by omega) (by omega)
  rw[ew]
  have ev3:Evn h3:=W.evnB E (mod3.weak fun c _ hc=>hc.imp id .inr)
  have ev4: ∀h',Mod S2 h3 h'→Evn h':=fun h' x=>W.evnB E ((mod3.then (x.weak fun c _ hc=>(sub2 c hc).imp .inl id)).weak fun c _ hc=>hc.imp id .inr)
  have fz:ff mb (fnB nn st.nseg)≠none:=by rw[f3',if_pos rfl];simp
  refine AB3 ev3 ev4 L3 B3 st3.up nS2 (by decide) (by omega) (fun h=>absurd h (by omega)) (fun hfu h4 S4 m4 B4 dn4 md4 s4 w4 f4=>⟨_,rfl,?_⟩) fun _ h4 S4 m4 B4 st4 md4 s4 w4 f4 f4'=>⟨_,rfl,?_⟩
  ·have mod4:Mod (fun c=>q.Sb c∨c=q.nt) h h4:=mod3.then (md4.weak fun c _ hc=>(sub2 c hc).imp .inl id)
   obtain⟨D',d1,d2,d3,d4,d5,d6⟩:=AFB (G:=ff m4) hD3 hN fz fun y=>by
    rcases f4 y with h1|⟨h1,n,n1,n9,nu,h2⟩
    ·exact .inl h1
    ·exact .inr ⟨h1,n,by omega,n9,h2⟩
   refine H0 (fun hh=>hfu (st3.calm (st2.calm hh))) h4 S4 m4 B4 dn4 mod4 (fun c hc=>sub2 c (s4 c hc)) (fun G c=>⟨D',d1.crash c,d4,d5,by omega,.inr ⟨d2,d3⟩⟩) (fun y hy=>?_) (by omega)
   rcases f4 y with h1|⟨_,n,_,_,_,h2⟩
   ·rw [h1,f3',if_neg (hy _)]
   ·exact absurd h2 (hy n)
  ·have mod4:Mod (fun c=>q.Sb c∨c=q.nt) h h4:=mod3.then (md4.weak fun c _ hc=>(sub2 c hc).imp .inl id)
   obtain⟨D',d1,d2,d3,d4,d5,d6⟩:=AFB (G:=ff m4) hD3 hN fz fun y=>by
    by_cases hy: ∃n:Nat,1≤n∧n≤99999999∧(n:Int)≤(st.nseg:Int)-1∧y=fnB nn n
    ·obtain⟨n,n1,n9,nu,rfl⟩:=hy
     exact .inr ⟨f4 n n1 n9 nu,n,by omega,n9,rfl⟩
    ·exact .inl (f4' y fun n n1 n9 nu e=>hy ⟨n,n1,n9,nu,e⟩)
   have hfr: ∀y,(∀ n,y≠fnB nn n)→ff m4 y=ff m y:=fun y hy=>by
    rw[f4' y fun n _ _ _=>hy n,f3',if_neg (hy _)]
   have L4:DI h4 q.nt q.b nn (st.nseg+1) false:=L3.mod md4 nS2
   have W4:=W.boxed (j:=4) (st':= {st with nseg:=st.nseg+1}) B4 (mod4.weak fun c _ hc=>hc.imp id fun h=> .inr ⟨rfl,h⟩) (fun c hc=>sub2 c (s4 c hc)) rfl rfl rfl rfl (.inl ⟨by decide,rfl,rfl⟩) (.inr L4)
   refine H1 h4 S4 _ m4 D' W4 ((st2.trans st3).trans st4) d1 d2 d3 d4 d5 (by omega) hfr (fun n n1 n9=>?_) (by omega) mod4 Zt
   rw[f4' (fnB nn n) fun k _ _ ku e=>by have:=GZ e;omega,f3',if_neg fun e=>by have:=GZ e;omega]
   exact hout n (by omega) n9
end
end Go.Lf.G

/-
 Contracts: slices.Values, merge.Some, pairs compared by the document (from the statements of chapters 5 and 8).
-/
set_option maxRecDepth 100000
set_option linter.unusedVariables false
set_option linter.unusedSimpArgs false
namespace Go.Lf.G.M
open Go Go.Lf Go.Lf.G
theorem AHg {A:Amb}{h:Heap}{a b:Sl}{la lb:List Pr}{R:Value→Heap→Prop}(va:View Ak h a la)(vb:View Ak h b lb)(hl:la.length≤1099511627776)
  (H:R (.bool (decide (la=lb))) h):AA A P EW #[.slice a.p a.len a.cap,.slice b.p b.len b.cap] h R:=by
 refine Ru ?_
 unfold Ii
 rw[va.len,vb.len]
 refine PIf.intro (fun hc=>?_) (fun hc=>?_)
 ·have:la≠lb:=by rintro rfl;simp at hc
  simpa [this] using H
 ·have hlen:la.length=lb.length:=by simp at hc;omega
  refine Loop.rule (fun m x h1=> ∃i:Nat,x=((i:Int),())∧h1=h∧m=la.length-i∧i≤la.length∧la.take i=lb.take i) ?_ ⟨0,rfl,rfl,rfl,by omega,by simp⟩
  rintro K m _ _ ⟨i,rfl,rfl,rfl,hi,he⟩ hK
  refine PIf.intro (fun hc=>?_) (fun hc=>?_)
  ·have hi':i<la.length:=by simpa using hc
   rw[← va.len]
   refine va.idx (List.getElem?_eq_getElem hi') fun a1 _ c1=>?_
   refine AL.mk (c1.pair.1) (AL.mk c1.pair.2.1 (Ab.mk c1.pair.2.2 ?_))
   rw[← vb.len]
   refine vb.idx (List.getElem?_eq_getElem (by omega)) fun a2 _ c2=>?_
   refine AL.mk (c2.pair.1) (AL.mk c2.pair.2.1 (Ab.mk c2.pair.2.2 ?_))
   refine AK1 ⟨_,rfl,?_⟩
   refine PIf.intro (fun hq=>?_) (fun hq=>?_)
   ·have:la≠lb:=by rintro rfl;simp at hq
    simpa [this] using H
   ·simp at hq
    refine hK _ _ _ ?_ ⟨i+1,by rw[AR (by omega)],rfl,rfl,by omega,?_⟩
    ·omega
    ·rw [List.take_add_one,List.take_add_one,he,List.getElem?_eq_getElem hi',List.getElem?_eq_getElem (by omega),hq]
  ·have hi':i=la.length:=by simp at hc;omega
   subst hi'
   rw[List.take_length,hlen,List.take_length] at he
   simpa [he] using H
theorem AJE {A:Amb}{h:Heap}{x:Pr}{R:Value→Heap→Prop}(H: ∀h',Ext h h'→h.size≤h'.size→R (.int .i64 (Ap x)) h'):
  AA A P FJ #[.agg #[.string x.key,.string x.val,.bool x.gone]] h R:=by
 refine Pv ?_
 unfold IP
 refine New.mk fun h1 _ hb hx hsz=>?_
 have H1:=H h1 hx (by omega)
 unfold Ap at H1
 refine Join.mk fun K hK=>?_
 have hbad:(decide (x.key=⟨#[]⟩)||(x.gone&& !decide (x.val=⟨#[]⟩)))=true→K (true,()) h1:=fun hc=>hK _ _ (PIf.yes rfl (by rw[if_pos hc] at H1;exact H1))
 have hgood:(decide (x.key=⟨#[]⟩)||(x.gone&& !decide (x.val=⟨#[]⟩)))=false→K (false,()) h1:=fun hc=>hK _ _ (PIf.no rfl (by
  rw[if_neg (by simp[hc])] at H1
  refine Join.mk fun K1 hK1=>?_
  refine AL.mk (AC hb rfl) ?_
  refine PIf.intro (fun hq=>?_) (fun hq=>?_)
  ·refine hK1 _ _ (PIf.yes rfl ?_)
   rw[if_pos (by simp at hq;simp;omega)] at H1
   exact H1
  ·refine AL.mk (AB hb rfl) (hK1 _ _ ?_)
   simp at hq
   refine PIf.intro (fun hq2=>?_) (fun hq2=>?_)
   ·rw [if_pos (by simp at hq2;simp;omega)] at H1
    exact H1
   ·rw [if_neg (by simp at hq2;simp;omega)] at H1
    exact H1))
 refine AL.mk (AC hb rfl) ?_
 rw[BZ]
 refine PIf.intro (fun hq=>?_) (fun hq=>?_)
 ·exact hbad (by simp at hq;simp[hq])
 ·refine Ab.mk (AB hb rfl) ?_
  simp at hq
  refine PIf.intro (fun hg=>?_) (fun hg=>?_)
  ·refine AL.mk (AB hb rfl) ?_
   rw[BZ]
   cases hv:(!decide (x.val=⟨#[]⟩))
   ·exact hgood (by simp[hq,hg,hv])
   ·exact hbad (by simp[hq,hg,hv])
  ·exact hgood (by simp[hq,hg])
theorem AGc {A:Amb}{h0:Heap}{b:Nat}{T:TypeId}{fr:Nat×Nat}{s:Sl}{l:List Pr}(hb:h0[b]? =some (.cells #[.slice s.p s.len s.cap] T fr))(v:View Ak h0 s l)(hl:l.length≤1099511627776):
  DF A P (.func (.func Bd) #[] #[.pointer (some ⟨b,0,none⟩)]) (fun c=>c<h0.size∧(c=b∨s.blk=some c)) h0 l:=by
 refine⟨fun c hc=>hc.1,_,_,rfl,fun yv=>by kernel_rfl,fun h hS yv J O hy hd hB hY hJ=>?_⟩
 rw[AML]
 refine F5 ?_
 unfold CW
 have hbl:=Ah hb
 have hbS: ∀hh,Mod O h hh→hh[b]? =some (.cells #[.slice s.p s.len s.cap] T fr):=fun hh m=>by
  have e:=hS b ⟨hbl,.inl rfl⟩
  exact m.blk (e.trans hb) (hd b ⟨hbl,.inl rfl⟩)
 have hvS: ∀i x,l[i]? =some x→ ∃a,s.p=some a∧ ∀hh,Mod O h hh→Cells hh (a.add (i*3)) (Ak.enc x):=fun i x hi=>by
  obtain⟨a,ha,hc⟩:=v.cells i x hi
  refine⟨a,ha,fun hh m j u hj=>?_⟩
  have h1:=hc j u hj
  have hlt:=UU h1
  rw[add_block,add_block] at hlt
  have hSa:a.block<h0.size∧(a.block=b∨s.blk=some a.block):=⟨hlt,.inr (by simp[Sl.blk,ha])⟩
  have e:=hS _ hSa
  refine m.hget ((MC ?_).trans h1) ?_
  ·rw [add_block,add_block];exact e
  ·rw [add_block,add_block];exact hd _ hSa
 refine AZ.mk (AC (hbS h Mod.refl) rfl) ?_
 refine Loop.rule (fun m x hh=> ∃(i:Nat) (O1:Nat→Prop),x=((i:Int),())∧m=l.length-i∧i≤l.length∧Mod O h hh∧(∀ b,O1 b→O b∨h.size≤b)∧J i true O1 hh) ?_ ⟨0,O,rfl,rfl,by omega,Mod.refl,fun b hb=> .inl hb,hJ⟩
 rintro K m _ hh ⟨i,O1,rfl,rfl,hi,md,hsub,hj⟩ hK
 refine PIf.intro (fun hq=>?_) (fun hq=>?_)
 ·have hi':i<l.length:=by simp[v.len] at hq;omega
  obtain⟨a,ha,hc⟩:=hvS i _ (List.getElem?_eq_getElem hi')
  have c1:=hc hh md
  refine Idx.mk ha (by rw[v.len];exact hi') ?_
  refine AL.mk (c1.pair.1) (AL.mk c1.pair.2.1 (Ab.mk c1.pair.2.2 ?_))
  refine New.pair fun b1 h5 eb hb1 x5 hs5=>?_
  refine AL.mk (AC hb1 rfl) (AL.mk (AB hb1 rfl) (Ab.mk (AB hb1 rfl) ?_))
  have hj5:=hB.stable _ _ _ _ _ hj (x5.weak (S':=fun b=>¬O1 b∧h.size≤b) fun _ _ h=>h.elim)
  refine FE.mono (hY i _ O1 h5 (List.getElem?_eq_getElem hi') hj5) ?_
  rintro _ h6 ⟨g,O2,rfl,hsub2,m6,hj6⟩
  have hsub3: ∀b,O2 b→O b∨h.size≤b:=fun b hb=>(hsub2 b hb).elim (hsub b) fun hle=> .inr (by have:=md.size;have:=x5.size;omega)
  have md6:Mod O h h6:=(md.trans x5.mod).then (m6.weak fun b _ hb=>(hsub b hb))
  refine⟨g,rfl,?_⟩
  refine PIf.intro (fun hq=>?_) (fun hq=>?_)
  ·refine⟨rfl,i+1,g,O2,md6,hsub3,hj6,fun hg=>?_,by omega⟩
   subst hg;cases hq
  ·have hg:g=true:=by simpa using hq
   subst hg
   exact hK _ _ _ (by omega) ⟨i+1,O2,by rw[AR (by omega)],rfl,by omega,md6,hsub3,hj6⟩
 ·have hi':i=l.length:=by simp[v.len] at hq;omega
  exact⟨rfl,i,true,O1,md,hsub,hj,fun _=>hi',by omega⟩
theorem ABk {A:Amb}{h:Heap}{s:Sl}{l:List Pr}{R:Value→Heap→Prop}(v:View Ak h s l)(hl:l.length≤1099511627776)
  (H: ∀fv h',DF A P fv (fun c=>c<h'.size∧(c=h.size∨s.blk=some c)) h' l→Ext h h'→h'.size=h.size+1→R fv h'):AA A P BM #[.slice s.p s.len s.cap] h R:=by
 refine Gm ?_
 unfold Ce
 refine New.mk fun h1 _ hb1 hx hsz=>?_
 exact H _ h1 (AGc hb1 (v.ext hx) hl) hx hsz
theorem ACr {A:Amb}{h:Heap}{fv:Value}{S:Nat→Prop}{l:List Pr}{vto:ByteArray}{most:Int}{R:Value→Heap→Prop}(it:(fv= .nilFunc∧l= [])∨DF A P fv S h l)(hl:l.length≤1099511627776)
  (H: ∀s' h',Own Ak AO h' s' (Me vto most l)→(∀ c,s'.blk=some c→h.size≤c)→Ext h h'→R (.slice s'.p s'.len s'.cap) h'):AA A P Ha #[fv,.string vto,.int .i64 most] h R:=by
 refine AA2 ?_
 unfold PD
 refine New.mk fun h1 _ hb1 hx1 hsz1=>New.mk fun h2 _ hb2 hx2 hsz2=>New.mk fun h3 _ hb3 hx3 hsz3=>?_
 have hx:Ext h h3:=(hx1.trans hx2).trans hx3
 have hbv:h3[h.size]? =some (.cells #[.string vto] Ad (0,0)):=hx3.blk (hx2.blk hb1 (by simp)) (by simp)
 have hbm:h3[h1.size]? =some (.cells #[.int .i64 most] BL (0,0)):=hx3.blk hb2 (by simp)
 refine Join.mk fun K hK=>?_
 have hnil:Me vto most l= []→K (true,()) h3:=fun e=>hK _ _ (PIf.yes rfl (H ⟨none,0,0⟩ h3 (e▸Own.nil) (fun c hc=>by simp[Sl.blk] at hc) hx))
 rcases it with⟨rfl,rfl⟩|it
 ·exact⟨trivial,PIf.yes rfl (hnil (by simp[Me]))⟩
 refine⟨it.one.2.1,PIf.no it.one.2.2 ?_⟩
 refine Aa.mk (AC hbm rfl) ?_
 cases hmost:decide (most≤0)
 ·refine hK _ _ (PIf.no rfl ?_)
  have hmost:0<most:=by simpa using hmost
  have hmd: ∀h':Heap,Mod (fun c=>c=h2.size) h3 h'→Ext h h':=fun h' m=>hx.then (m.weak fun c _ hc=> .inr (by omega))
  have htl:=(List.takeWhile_sublist (l:=l) (NP vto)).length_le
  refine Sg it (fun b hb=>hx.get b (it.1 b hb) (by simp))
   (fun i c O hh=>hh[h.size]? =some (.cells #[.string vto] Ad (0,0))∧hh[h1.size]? =some (.cells #[.int .i64 most] BL (0,0))∧ ∃(s:Sl) (acc:List Pr),hh[h2.size]? =some (.cells #[.slice s.p s.len s.cap] AV (0,0))∧Own Ak AO hh s acc∧(∀ b,O b↔(b=h2.size∨s.blk=some b))∧(∀ b,s.blk=some b→b<hh.size∧h2.size<b)∧match c with
    |none=>acc=l.take i∧i≤(l.takeWhile (NP vto)).length∧(i:Int)<most
    |some j=>j=some 0∧acc=Me vto most l)
   (fun b=>b=h2.size) (fun b hb e=>by have:=it.1 b hb;omega) ?_ ?_ ?_ ?_ ?_ ?_
  ·rintro i c O hh ⟨_,_,s,acc,h2,o,hO,hlt,_⟩ b hb
   rcases(hO b).1 hb with rfl|h3
   ·exact Ah h2
   ·exact(hlt b h3).1
  ·rintro i c O hh h' ⟨e1,e2,s,acc,hk2,o,hO,hlt,hm⟩ m
   refine⟨m.blk e1 (fun h=>by omega),m.blk e2 (fun h=>by omega),s,acc,m.blk hk2 (fun hn=>hn.1 ((hO _).2 (.inl rfl))),o.mod m (fun c hc hn=>hn.1 ((hO _).2 (.inr hc))),hO,fun b hb=>⟨?_,(hlt b hb).2⟩,hm⟩
   have:=m.size;have:=(hlt b hb).1;omega
  ·exact⟨hbv,hbm,⟨none,0,0⟩,[],hb3,Own.nil,fun b=>by simp[Sl.blk],fun b hb=>by simp[Sl.blk] at hb,by simp,by omega,by simpa using hmost⟩
  ·rintro i x O1 hh rec kn' kj' hi ⟨e1,e2,s,acc,hk2,o,hO,hlt,rfl,htw,him⟩ nO hsz1 hrec hst hkn hkj
   have hil:=(List.getElem?_eq_some_iff.1 hi).1
   have hst2:=MJ (p:=NP vto) (l:=l) htw
   refine New.pair fun b1 h7 eb hb7 x7 hs7=>?_
   refine⟨rec,x7.blk hrec (by simp),hst,?_⟩
   generalize hg:h7.setIfInBounds (h3.size+1) (.loop {rec with state:= .busy})=h8
   have m8:Mod (fun b=>b=h3.size+1) h7 h8:=hg▸Mod.setObj rfl
   have hl8:h8[h3.size+1]? =some (.loop {rec with state:= .busy}):=by rw[← hg];exact Bt (by omega)
   have hb8:=m8.blk hb7 (by omega)
   have e18:=m8.blk (x7.blk e1 (by simp)) (by omega)
   have e28:=m8.blk (x7.blk e2 (by simp)) (by omega)
   have m08:Mod (fun b=>b=h3.size+1) hh h8:=(Ext.mod x7).trans m8
   have hk28:=m8.blk (x7.blk hk2 (by simp)) (by omega)
   have hlt1:=Ah hk2
   have o8:=(o.ext x7).mod m8 (fun c hc e=>nO ((hO _).2 (.inr (e▸hc))))
   have hs8:=m8.size
   have hlen:(l.take i).length=i:=by simp;omega
   refine Join.mk fun K1 hK1=>?_
   have hstop:NP vto x=false→K1 (true,()) h8:=fun hp=>hK1 _ _ (PIf.yes rfl (hkj _ _ (by
    refine⟨O1,fun b hb=> .inl hb,m08.weak fun b _ hb=> .inr hb,hl8,e18,e28,s,l.take i,hk28,o8,hO,fun b hb=>⟨?_,(hlt b hb).2⟩,rfl,?_⟩
    ·have:=(hlt b hb).1;omega
    ·have:=hst2.2.1 _ hi hp
     have e1:(l.takeWhile (NP vto)).take i=l.takeWhile (NP vto):=List.take_of_length_le (by omega)
     have e2:(l.takeWhile (NP vto)).take most.toNat=l.takeWhile (NP vto):=List.take_of_length_le (by omega)
     unfold Me
     rw[e2,←Xb htw,e1])))
   have hgo:NP vto x=true→K1 (false,()) h8:=fun hp=>hK1 _ _ (PIf.no rfl (by
    have hlt2:=hst2.1 _ hi hp
    refine AZ.mk (AC hk28 rfl) (AL.mk (AC hb8 rfl) (AL.mk (AB hb8 rfl) (Ab.mk (AB hb8 rfl) ?_)))
    refine New.append1 (E:=Ak) (x:=x) rfl JE o8 (by rw[hlen];omega) (by rw[hlen];simp[maxLen];omega) fun s4 h9 o9 m9 bl9 _=>?_
    have hbl:s.blk≠some h2.size:=fun e=>by have:=hlt _ e;omega
    refine Store.mk (m9.blk hk28 hbl) (by simp) fun h10 hb10 m10 hs10=>?_
    have hsz9:=m9.size
    have hb10':h10[h2.size]? =some (.cells #[.slice s4.p s4.len s4.cap] AV (0,0)):=by simpa using hb10
    have o10:=o9.mod m10 (fun c hc e=>by
     rcases bl9 c hc with h3|h3
     ·have:=hlt _ h3;omega
     ·omega)
    have e110:=m10.blk (m9.blk e18 (fun e=>by have:=hlt _ e;omega)) (by omega)
    have e210:=m10.blk (m9.blk e28 (fun e=>by have:=hlt _ e;omega)) (by omega)
    have hacc:l.take i++ [x]=l.take (i+1):=by rw[List.take_add_one,hi];rfl
    rw[hacc] at o10
    have r1: ∀b,(b=h2.size∨s4.blk=some b)→O1 b∨hh.size≤b:=by
     rintro b (rfl|hb)
     ·exact .inl ((hO _).2 (.inl rfl))
     ·rcases bl9 b hb with h3|h3
      ·exact .inl ((hO _).2 (.inr h3))
      ·exact .inr (by omega)
    have r2:Mod (fun b=>O1 b∨b=h3.size+1) hh h10:=
     ((m08.weak fun b _ hb=> .inr hb).trans (m9.weak fun b _ hb=> .inl ((hO _).2 (.inr hb)))).trans (m10.weak fun b _ hb=> .inl ((hO _).2 (.inl hb)))
    have r3:=m10.blk (m9.blk hl8 (fun e=>nO ((hO _).2 (.inr e)))) (by omega)
    have r4: ∀b,s4.blk=some b→b<h10.size∧h2.size<b:=by
     intro b hb
     have hbs:b<h9.size:=by
      rcases o9.row with⟨rfl,_⟩|⟨g,cur,hp,hgg,_⟩
      ·simp [Sl.blk] at hb
      ·simp [Sl.blk,hp] at hb;subst hb;exact Ah hgg
     refine⟨by omega,?_⟩
     rcases bl9 b hb with h3|h3
     ·exact(hlt _ h3).2
     ·omega
    refine AZ.mk (AC hb10' rfl) (Aa.mk (AC e210 rfl) ?_)
    have hs4:s4.len=i+1:=by rw[o10.len];simp;omega
    refine PIf.intro (fun hq=>hkj _ _ ?_) (fun hq=>hkn _ ?_)
    ·refine⟨_,r1,r2,r3,e110,e210,s4,_,hb10',o10,fun _=>Iff.rfl,r4,rfl,?_⟩
     have hq:((i+1:Nat):Int)=most:=by rw[hs4] at hq;simpa using hq
     unfold Me
     rw[← hq,Int.toNat_natCast,Xb (by omega)]
    ·refine⟨_,r1,r2,r3,e110,e210,s4,_,hb10',o10,fun _=>Iff.rfl,r4,rfl,by omega,?_⟩
     have hq:((i+1:Nat):Int)≠most:=by rw[hs4] at hq;simpa using hq
     omega))
   refine AL.mk (AC e18 rfl) ?_
   rw[BZ]
   refine PIf.intro (fun he=>?_) (fun he=>?_)
   ·refine AL.mk (AC hb8 rfl) (AL.mk (AC e18 rfl) ?_)
    show K1 (!sLt x.key vto,()) h8
    cases hs:sLt x.key vto
    ·exact hstop (by simp at he;simp[NP,he,hs])
    ·exact hgo (by simp[NP,hs])
   ·exact hgo (by simp at he;simp[NP,he])
  ·rintro O' h' ⟨_,_,s,acc,hk2,o,hO,hlt,rfl,htw,him⟩ md n1 hsub hdf
   have hsz':=md.size
   refine AZ.mk (AC hk2 rfl) ⟨hdf,?_⟩
   have:Me vto most l=l.take l.length:=by
    unfold Me
    rw[List.take_of_length_le (by omega),←Xb htw,List.take_of_length_le (by omega)]
   rw[← this] at o
   refine H s _ (o.mod (Mod.setObj (S:=fun c=>c=h3.size) rfl) fun c hc e=>n1 ((hO _).2 (.inr (e▸hc)))) (fun c hc=>by have:=hlt _ hc;omega) ?_
   exact(hmd h' md).then (Mod.setObj (.inr (by omega)))
  ·rintro i j O' h' ⟨_,_,s,acc,hk2,o,hO,hlt,rfl,rfl⟩ hi md n1 hsub hdf
   have hsz':=md.size
   refine AZ.mk (AC hk2 rfl) ⟨hdf,?_⟩
   refine H s _ (o.mod (Mod.setObj (S:=fun c=>c=h3.size) rfl) fun c hc e=>n1 ((hO _).2 (.inr (e▸hc)))) (fun c hc=>by have:=hlt _ hc;omega) ?_
   exact(hmd h' md).then (Mod.setObj (.inr (by omega)))
 ·refine hnil ?_
  have:most.toNat=0:=by simp at hmost;omega
  simp[Me,this]
end Go.Lf.G.M

/-
 Contracts: a store is read: Get, Scan, Shape (chapter 9).
-/
set_option maxRecDepth 100000
set_option linter.unusedVariables false
set_option linter.unusedSimpArgs false
namespace Go.Lf.G
open Go
open M (Sorted Ag DR BJ Ai BD CV Ap OkL Ba atK Me NP)
def ADP(f t k:ByteArray):Bool:= !sLt k f&&(decide (t=⟨#[]⟩)||sLt k t)
def NH(f t:ByteArray)(l:List Pr):List Pr:=l.filter fun x=>ADP f t x.key
def Zn(m:List Pr)(f t:ByteArray)(most:Int):List Pr:=(NH f t m).take most.toNat
theorem WW {p:Pr→Bool}{r:ByteArray→Bool}(hp: ∀x,p x=r x.key)(k:ByteArray): ∀l:List Pr,Ag k (l.filter p)=if r k then Ag k l else none
 | []=>by split<;>rfl
 |x::l=>by
  have ih:=WW hp k l
  rw[List.filter_cons,M.Ay]
  by_cases h:x.key=k
  ·rw [if_pos h]
   cases hr:r k with
   |true=>rw[if_pos (by rw[hp,h];exact hr),M.Ay,if_pos h];rfl
   |false=>
    rw[if_neg (by rw[hp,h,hr];decide),ih,hr];rfl
  ·rw [if_neg h]
   split
   ·rw [M.Ay,if_neg h];exact ih
   ·exact ih
theorem drop_at(k:ByteArray): ∀ {l:List Pr},Sorted l→l.drop (atK k l)=l.filter fun x=> !sLt x.key k
 | [],_=>by simp
 |x::l,s=>by
  have s':=List.pairwise_cons.1 s
  rw[QE,List.filter_cons]
  by_cases h:sLt x.key k=true
  ·rw [if_pos h,if_neg (by simp[h]),List.drop_succ_cons];exact drop_at k s'.2
  ·have hall: ∀y∈l,(!sLt y.key k)=true:=fun y hy=>by
    have h1:=s'.1 y hy
    cases h2:sLt y.key k with
    |false=>rfl
    |true=>exact absurd (M.CZ h1 h2) h
   rw[if_neg h,if_pos (by simp[h]),List.drop_zero,List.filter_eq_self.2 hall]
theorem AFo(t:ByteArray): ∀ {l:List Pr},Sorted l→l.takeWhile (NP t)=l.filter (NP t)
 | [],_=>rfl
 |x::l,s=>by
  have s':=List.pairwise_cons.1 s
  rw[List.takeWhile_cons,List.filter_cons]
  by_cases h:NP t x=true
  ·rw [if_pos h,if_pos h,AFo t s'.2]
  ·rw [if_neg h,if_neg h]
   refine(List.filter_eq_nil_iff.2 fun y hy hy2=>h ?_).symm
   have h1:=s'.1 y hy
   unfold M.NP at hy2 ⊢
   rw[Bool.or_eq_true] at hy2 ⊢
   rcases hy2 with h2|h2
   ·exact .inl h2
   ·exact .inr (M.CZ h1 h2)
theorem AEG {f t:ByteArray}{l:List Pr}(s:Sorted l)(hl:l.length≤1099511627776):Me t 1099511627776 (l.drop (atK f l))=NH f t l:=by
 unfold M.Me
 have s2:Sorted (l.drop (atK f l)):=s.sublist (List.drop_sublist _ _)
 rw[AFo t s2,drop_at f s,List.filter_filter,List.take_of_length_le]
 ·unfold NH
  exact List.filter_congr fun x _=>by unfold ADP M.NP;rw[Bool.and_comm]
 ·have h1:=List.length_filter_le (fun a=>NP t a&& !sLt a.key f) l
  have:(1099511627776:Int).toNat=1099511627776:=rfl
  omega
theorem Ta {f t:ByteArray}{l:List Pr}(s:Sorted l):Sorted (NH f t l):=s.sublist List.filter_sublist
theorem ADn(k f t:ByteArray)(l:List Pr):Ag k (NH f t l)=if ADP f t k then Ag k l else none:=WW (fun _=>rfl) k l
theorem ABg(k f t:ByteArray): ∀ls:List (List Pr),BD k (ls.map (NH f t))=if ADP f t k then BD k ls else none
 | []=>by split<;>rfl
 |l::ls=>by
  rw[List.map_cons,M.Cw,M.Cw,ABg k f t ls,ADn]
  split<;>rfl
theorem AJg {f t:ByteArray}{ls:List (List Pr)}(o:OkL ls):OkL (ls.map (NH f t)):=⟨fun l hl=>by
  obtain⟨x,hx,rfl⟩:=List.mem_map.1 hl
  exact Ta (o.sorted x hx),fun l hl=>by
  obtain⟨x,hx,rfl⟩:=List.mem_map.1 hl
  exact fun y hy=>o.good x hx y (List.mem_filter.1 hy).1⟩
theorem AHs {f t:ByteArray}{ls:List (List Pr)}(o:OkL ls):Ai (ls.map (NH f t))=NH f t (Ai ls):=
 (M.Cs _).ext (Ta (M.Cs _)) fun k=>by rw[M.Hr k (AJg o),ABg,ADn,M.Hr k o]
theorem AKx {f t:ByteArray}{ls:List (List Pr)}(o:OkL ls)(most:Int):Me t most (Ba (Ai (ls.map (NH f t))))=Zn (Ba (Ai ls)) f t most:=by
 rw[AHs o]
 have e:Ba (NH f t (Ai ls))=NH f t (Ba (Ai ls)):=by
  unfold M.Ba NH
  rw[List.filter_filter,List.filter_filter]
  exact List.filter_congr fun x _=>Bool.and_comm ..
 rw[e]
 unfold M.Me Zn
 have h: ∀x∈NH f t (Ba (Ai ls)),NP t x=true:=fun x hx=>by
  have:=(List.mem_filter.1 hx).2
  unfold ADP at this
  rw[Bool.and_eq_true] at this
  exact this.2
 rw[AFo t (Ta (Qi (M.Cs _))),List.filter_eq_self.2 h]
def Ph(A:Amb)(h:Heap)(s:Sl)(ls:List (List Pr)):Prop:=
 ∃vs,Own AGZ BN h s vs∧vs.length=ls.length∧ ∀(i:Nat) (v:AAZ) (l:List Pr),vs[i]? =some v→ls[i]? =some l→(∃ S,DF A P v.v S h l∧ ∀c,S c→s.blk≠some c)∧l.length≤1099511627776
theorem DF.at {A:Amb}{fv:Value}{S T:Nat→Prop}{h h':Heap}{l:List Pr}(it:DF A P fv S h l)(x:Mod T h h')(hT: ∀c,S c→ ¬T c):DF A P fv S h' l:=
 DF.weak it (fun _ h=>h) (fun c hc=>by have:=it.1 c hc;have:=x.size;omega) fun c hc=>x.get c (it.1 c hc) (hT c hc)
theorem Ph.ext {A:Amb}{h h':Heap}{s:Sl}{ls:List (List Pr)}(q:Ph A h s ls)(x:Ext h h'):Ph A h' s ls:=by
 obtain⟨vs,o,hl,hi⟩:=q
 refine⟨vs,o.ext x,hl,fun i v l h1 h2=>?_⟩
 obtain⟨⟨S,it,hS⟩,hn⟩:=hi i v l h1 h2
 exact⟨⟨S,DF.at it x (fun _ _ h=>h),hS⟩,hn⟩
theorem Ph.nil {A:Amb}{h:Heap}:Ph A h ⟨none,0,0⟩ []:=⟨[],Own.nil,rfl,fun i v l h=>by simp at h⟩
theorem Ph.seqs {A:Amb}{h:Heap}{s:Sl}{ls:List (List Pr)}(q:Ph A h s ls):M.ANh A (fun _=>False) h s ls:=by
 obtain⟨vs,o,hl,hi⟩:=q
 refine⟨vs,o.view,fun c hc=>⟨o.lt hc,fun h=>h⟩,hl,fun i v l h1 h2=> .inr ?_⟩
 obtain⟨⟨S,it,hS⟩,hn⟩:=hi i v l h1 h2
 exact⟨it.weak (fun c hc=>⟨it.1 c hc,fun h=>h⟩) (fun c hc=>hc.1) (fun _ _=>rfl),hn⟩
theorem Ph.one {A:Amb}{h h1:Heap}{fv:Value}{l:List Pr}{S:Nat→Prop}{b:Nat}(it:DF A P fv S h l)(hl:l.length≤1099511627776)(hb:h1[b]? =some (.cells #[fv] BN (0,0)))(x:Ext h h1)(hn:h.size≤b):Ph A h1 ⟨some ⟨b,0,none⟩,1,1⟩ [l]:=by
 refine⟨[⟨fv,it.one.1⟩],Own.lit (l:= [(⟨fv,it.one.1⟩:AAZ)]) hb rfl (by simp[maxLen]),rfl,fun i v l' h1 h2=>?_⟩
 have hi:i=0:=by
  have:=(List.getElem?_eq_some_iff.1 h1).1
  simpa using this
 subst hi
 simp only[List.getElem?_cons_zero,Option.some.injEq] at h1 h2
 subst h1 h2
 exact⟨⟨S,DF.at it x (fun _ _ h=>h),fun c hc e=>by have:=it.1 c hc;simp[Sl.blk] at e;omega⟩,hl⟩
theorem Ph.add {A:Amb}{h:Heap}{s:Sl}{ls:List (List Pr)}{fv:Value}{l:List Pr}{S:Nat→Prop}{K:Sl→Heap→Prop}{ty:TypeId}(q:Ph A h s ls)(it:DF A P fv S h l)(hS: ∀c,S c→s.blk≠some c)(hl:l.length≤1099511627776)(hls:ls.length≤1000000)
  (H: ∀s' h',Ph A h' s' (ls++ [l])→Mod (fun b=>s.blk=some b) h h'→(∀ b,s'.blk=some b→s.blk=some b∨h.size≤b)→K s' h'):
  New h (.cells #[fv] BN) fun b h1=>BK A P (Builtin.append_ #[Am,Am] ty #[.slice s.p s.len s.cap,.slice (some ⟨b,0,none⟩) 1 1]) h1 fun v h'=> ∃s':Sl,v= .slice s'.p s'.len s'.cap∧K s' h':=by
 obtain⟨vs,o,hvl,hi⟩:=q
 refine New.append1 (E:=AGZ) (x:=⟨fv,it.one.1⟩) (s:=s) (l:=vs) rfl M.AL1 o (by omega) (by simp[maxLen];omega) fun s' h' o' m' b' _=>?_
 have hfresh: ∀ {T:Nat→Prop} {w:Value} {l':List Pr},DF A P w T h l'→(∀ c,T c→s.blk≠some c)→ ∃S,DF A P w S h' l'∧ ∀c,S c→s'.blk≠some c:=fun {T} w l' it hT=>⟨T,DF.at it m' (fun c hc=>hT c hc),fun c hc e=>by
  rcases b' c e with h1|h1
  ·exact hT c hc h1
  ·have:=it.1 c hc;omega⟩
 refine H s' h' ⟨vs++ [⟨fv,it.one.1⟩],o',by simp[hvl],fun i v l' h1 h2=>?_⟩ m' b'
 by_cases hlt:i<vs.length
 ·rw [List.getElem?_append_left hlt] at h1
  rw[List.getElem?_append_left (by omega)] at h2
  obtain⟨⟨T,it',hT⟩,hn⟩:=hi i v l' h1 h2
  exact⟨hfresh it' hT,hn⟩
 ·have hi:i=vs.length:=by
   have:=(List.getElem?_eq_some_iff.1 h1).1
   simp at this;omega
  subst hi
  rw[List.getElem?_append_right (Nat.le_refl _)] at h1
  rw[List.getElem?_append_right (by omega)] at h2
  simp at h1
  rw[hvl] at h2
  simp at h2
  subst h1 h2
  exact⟨hfresh it hS,hl⟩
section
variable {A : Amb} {g h : Heap} {q : Hp} {k : Nat → Nat} {st : Db} {m : Bx} {R : Value → Heap → Prop}
def tabsS(st:Db):List (List Pr):=st.ts.map (·.2)
def Bp(st:Db):List Pr:=Jt st.fr (tabsS st)
theorem DbH.tabok(W:DbH g h q k st m): ∀p∈st.ts,FR p.2:=fun p hp=>by
 obtain⟨i,hi,rfl⟩:=List.getElem_of_mem hp
 have hip:i<q.ps.length:=by rw[W.tlen];exact hi
 obtain⟨lo,hi',_,_,_,t⟩:=W.tab i q.ps[i] st.ts[i] (List.getElem?_eq_getElem hip) (List.getElem?_eq_getElem hi)
 exact t
theorem DbH.okL(W:DbH g h q k st m):OkL (st.fr::tabsS st):=by
 refine⟨fun l hl=>?_,fun l hl=>?_⟩<;>rcases List.mem_cons.1 hl with rfl|hl
 ·exact W.fresh.sorted
 ·obtain⟨p,hp,rfl⟩:=List.mem_map.1 hl
  exact(W.tabok p hp).good.1
 ·exact W.fresh.good
 ·obtain⟨p,hp,rfl⟩:=List.mem_map.1 hl
  exact(W.tabok p hp).good.2
theorem ADW(f t:ByteArray)(l:List Pr):(NH f t l).length≤l.length:=List.length_filter_le ..
theorem AMa {f t:ByteArray}(W:DbH g h q k st m)(hf:st.fr.length≤1000000)(hts:st.ts.length≤100000)
  (H: ∀fv h',DF A P fv (fun c=>c<h'.size) h' (Ai ((st.fr::tabsS st).map (NH f t)))→Ext h h'→R fv h'):AA A P Kw #[Aq q.d,.string f,.string t] h R:=by
 refine AAl ?_
 unfold PG
 refine atI (AP.mk (AB W.cell rfl) ?_)
 refine M.AFR W.fresh fun fv h1 it1 x1 s1=>⟨_,rfl,?_⟩
 refine M.ACr (.inr it1) (by rw[List.length_drop];omega) fun sl h2 o2 b2 x2=>⟨_,rfl,?_⟩
 rw[AEG W.fresh.sorted (by omega)] at o2
 have l0:=ADW f t st.fr
 refine M.ABk o2.view (by omega) fun fv3 h3 it3 x3 s3=>⟨_,rfl,T9.mk it3.one.1 (New.mk fun h4 _ hb4 x4 s4=>?_)⟩
 have q4:=Ph.one it3 (by omega) hb4 x4 (Nat.le_refl _)
 have x04:=((x1.trans x2).trans x3).trans x4
 have W4:=W.on x04
 refine atI (AZ.mk (s:=q.tp) (AB W4.cell rfl) ?_)
 have hpl:=W.tlen
 have htl:=W.tabs.len
 refine Loop.rule (fun mm x hh=> ∃(i:Nat) (sl:Sl),x=(sl,(i:Int),())∧mm=q.ps.length-i∧i≤q.ps.length∧Ext h hh∧(∀ c,sl.blk=some c→h.size≤c)∧Ph A hh sl ((st.fr::(tabsS st).take i).map (NH f t))) ?_ ⟨0,⟨some ⟨h3.size,0,none⟩,1,1⟩,rfl,rfl,by omega,x04,fun c hc=>by
  simp[Sl.blk] at hc
  have:=((x1.trans x2).trans x3).size;omega,by simpa using q4⟩
 rintro K mm _ hh ⟨i,sl,rfl,rfl,hi,x0h,hbl,qq⟩ hK
 dsimp only
 refine PIf.intro (fun hq=>?_) (fun hq=>?_)
 ·have hil:i<q.ps.length:=by rw[← htl];simpa using hq
  have his:i<st.ts.length:=by omega
  have g1:q.ps[i]? =some q.ps[i]:=List.getElem?_eq_getElem hil
  have g2:st.ts[i]? =some st.ts[i]:=List.getElem?_eq_getElem his
  have g3:(tabsS st)[i]? =some st.ts[i].2:=by unfold tabsS;rw[List.getElem?_map,g2];rfl
  have Wh:=W.on x0h
  refine Wh.tabs.view.idx g1 fun a _ c=>AP.mk (Cells.pt c) ?_
  obtain⟨lo,hi',T1,t1,t2,t3⟩:=Wh.tab i _ _ g1 g2
  refine AD0 T1 t1 t3.tabS fun fv5 h5 it5 x5 s5=>⟨_,rfl,?_⟩
  have hm:=t3.many
  refine M.ACr (.inr it5) (by rw[List.length_drop];omega) fun sl6 h6 o6 b6 x6=>⟨_,rfl,?_⟩
  rw[AEG t3.good.1 (by omega)] at o6
  have l1:=ADW f t st.ts[i].2
  refine M.ABk o6.view (by omega) fun fv7 h7 it7 x7 s7=>⟨_,rfl,T9.mk it7.one.1 ?_⟩
  have x57:=(x5.trans x6).trans x7
  refine Ph.add (qq.ext x57) it7 (fun c hc e=>?_) (by omega) (by simp[tabsS];omega) fun s' h' q' m' b'=>?_
  ·obtain⟨vs,ov,_,_⟩:=qq
   have hlt:=ov.lt e
   rcases hc.2 with h1|h1
   ·have:=(x5.trans x6).size;omega
   ·have:=b6 c h1;have:=x5.size;omega
  ·rw [AR (by omega)]
   refine hK (q.ps.length-(i+1)) _ _ (by omega) ⟨i+1,s',rfl,rfl,hil,?_,fun c hc=>?_,?_⟩
   ·exact(x0h.trans x57).then (m'.weak fun c _ hc=> .inr (hbl c hc))
   ·rcases b' c hc with h1|h1
    ·exact hbl c h1
    ·have:=x0h.size;have:=x57.size;omega
   ·rw [List.take_add_one,g3]
    simpa using q'
 ·have hil:i=q.ps.length:=by
   have: ¬i<q.tp.len:=by simpa using hq
   omega
  subst hil
  rw[List.take_of_length_le (by simp[tabsS];omega)] at qq
  refine M.AKh qq.seqs (fun c h=>h.elim) (by simp[tabsS];omega) (AJg W.okL) fun fv h' it x _=>⟨_,rfl,H fv h' (it.weak (fun c hc=>hc.1) (fun c hc=>hc) (fun _ _=>rfl)) (x0h.trans x)⟩
theorem UW(W:DbH g h q k st m){K:Bool×Unit→Heap→Prop}(H:K (false,()) h):PIf ((some (⟨q.d,0,none⟩:Addr)).isNone) (K (true,()) h) (At (some (⟨q.d,0,none⟩:Addr)) fun a=>Ab h (a.add 8) fun t=>K (t,()) h):=
 PIf.no rfl (atI (Ab.mk (AB W.cell rfl) H))
theorem ALm {f t:ByteArray}{most:Int}(W:DbH g h q k st m)(hf:st.fr.length≤1000000)(hts:st.ts.length≤100000)(hmap:(Ai (st.fr::tabsS st)).length≤1099511627776)
  (H: ∀s h',Own Ak AO h' s (Zn (Bp st) f t most)→(∀ c,s.blk=some c→h.size≤c)→Ext h h'→R (.tuple #[.slice s.p s.len s.cap,.int .i64 0]) h'):AA A P Jy #[Aq q.d,.string f,.string t,.int .i64 most] h R:=by
 refine ZV ?_
 unfold Mv
 refine Join.mk fun K hK=>UW W (hK _ _ (PIf.no rfl ?_))
 refine AMa W hf hts fun fv h1 it x1=>⟨_,rfl,?_⟩
 refine M.AHp (.inr it) fun fv2 h2 it2 x2 s2=>⟨_,rfl,?_⟩
 have hl:(Ba (Ai ((st.fr::tabsS st).map (NH f t)))).length≤1099511627776:=by
  rw[AHs W.okL]
  have h1:=U0 (NH f t (Ai (st.fr::tabsS st)))
  have h2:=ADW f t (Ai (st.fr::tabsS st))
  omega
 refine M.ACr (.inr it2) hl fun s3 h3 o3 b3 x3=>⟨s3,rfl,?_⟩
 rw[AKx W.okL] at o3
 exact H s3 h3 o3 (fun c hc=>by have:=b3 c hc;have:=(x1.trans x2).size;omega) ((x1.trans x2).trans x3)
theorem ABc(key:ByteArray): ∀ {l:List Pr},Sorted l→M.Kb key l=Rl key l
 | [],_=>rfl
 |x::l,s=>by
  have s':=List.pairwise_cons.1 s
  have ih:=ABc key s'.2
  unfold M.Kb Rl at ih ⊢
  rw[QE,M.Ay]
  by_cases h:sLt x.key key=true
  ·rw [if_pos h,if_neg (M.Ko h),List.getElem?_cons_succ];exact ih
  ·rw [if_neg h,List.getElem?_cons_zero]
   by_cases hk:x.key=key
   ·simp [hk]
   ·have hn:Ag key l=none:=M.Fg fun y hy e=>h (by
     have:=s'.1 y hy
     rwa [e] at this)
    simp[hk,hn]
def G6(m:List Pr)(key:ByteArray):ByteArray×Bool:=match Ag key m with|some p=>(p.val,true)|none=>(⟨#[]⟩,false)
theorem AFz {key:ByteArray}(W:DbH g h q k st m)(hts:st.ts.length≤100000)(hk:key.size≤1099511627776)
  (H: ∀h',Ext h h'→R (.tuple #[.string (G6 (Bp st) key).1,.bool (G6 (Bp st) key).2,.int .i64 0]) h'):AA A P Hg #[Aq q.d,.string key] h R:=by
 refine R8 ?_
 unfold Ku
 refine Join.mk fun K hK=>UW W (hK _ _ (PIf.no rfl ?_))
 refine atI (AP.mk (AB W.cell rfl) ?_)
 have hg: ∀p,(Ag key st.fr).or (BD key (tabsS st))=some p→G6 (Bp st) key=(p.val, !p.gone):=fun p hp=>by
  have e:Ag key (Bp st)=alive (some p):=by unfold Bp;rw[Ey key W.okL,hp]
  unfold G6
  rw[e,Ib]
  cases hgo:p.gone with
  |false=>rfl
  |true=>
   have hw:Ap p=0:=by
    cases hf:Ag key st.fr with
    |some x=>
     rw[hf] at hp
     simp only[Option.some_or,Option.some.injEq] at hp
     subst hp
     exact W.fresh.good x (M.NV hf).2
    |none=>
     rw[hf,Option.none_or] at hp
     unfold M.BD at hp
     obtain⟨l,hl,hx⟩:=List.exists_of_findSome?_eq_some hp
     exact W.okL.good l (List.mem_cons_of_mem _ hl) p (M.NV hx).2
   have hv:=(AHL hw).gone hgo
   show((⟨#[]⟩:ByteArray),false)=(p.val, !true)
   rw[Vw hv];rfl
 have hg0:(Ag key st.fr).or (BD key (tabsS st))=none→G6 (Bp st) key=(⟨#[]⟩,false):=fun hp=>by
  have e:Ag key (Bp st)=alive none:=by unfold Bp;rw[Ey key W.okL,hp]
  unfold G6
  rw[e];rfl
 refine M.ALY W.fresh fun h1 x1=>⟨_,_,_,_,rfl,?_⟩
 rw[ABc key W.fresh.sorted]
 refine New.pair fun b h2 _ hb2 x2 s2=>?_
 have x02:=x1.trans x2
 cases hf:Ag key st.fr with
 |some p=>
  have e:Rl key st.fr=(p,true):=by unfold Rl;rw[hf]
  rw[e] at hb2 ⊢
  refine PIf.yes rfl (AL.mk (AB hb2 rfl) (Ab.mk (AB hb2 rfl) ?_))
  have:=H h2 x02
  rw[hg p (by rw[hf];rfl)] at this
  exact this
 |none=>
  have e:Rl key st.fr=(M.Qh,false):=by unfold Rl;rw[hf]
  rw[e] at hb2 ⊢
  refine PIf.no rfl ?_
  have W2:=W.on x02
  refine atI (AZ.mk (s:=q.tp) (AB W2.cell rfl) ?_)
  have hpl:=W.tlen
  have htl:=W.tabs.len
  refine Loop.rule (fun mm x hh=> ∃i:Nat,x=((i:Int),())∧mm=q.ps.length-i∧i≤q.ps.length∧Ext h hh∧BD key ((tabsS st).take i)=none) ?_ ⟨0,rfl,rfl,by omega,x02,rfl⟩
  rintro K2 mm _ hh ⟨i,rfl,rfl,hi,xx,hno⟩ hK2
  dsimp only
  refine PIf.intro (fun hq=>?_) (fun hq=>?_)
  ·have hil:i<q.ps.length:=by rw[← htl];simpa using hq
   have his:i<st.ts.length:=by omega
   have g1:q.ps[i]? =some q.ps[i]:=List.getElem?_eq_getElem hil
   have g2:st.ts[i]? =some st.ts[i]:=List.getElem?_eq_getElem his
   have g3:(tabsS st)[i]? =some st.ts[i].2:=by unfold tabsS;rw[List.getElem?_map,g2];rfl
   have Wh:=W.on xx
   refine Wh.tabs.view.idx g1 fun a _ c=>AP.mk (Cells.pt c) ?_
   obtain⟨lo,hi',T1,t1,t2,t3⟩:=Wh.tab i _ _ g1 g2
   refine AKy T1 t3.tabS hk fun h5 x5=>⟨_,_,_,_,rfl,?_⟩
   refine New.pair fun b6 h6 _ hb6 x6 s6=>?_
   have x06:=(xx.trans x5).trans x6
   have htk:(tabsS st).take (i+1)=(tabsS st).take i++ [st.ts[i].2]:=by rw[List.take_add_one,g3];rfl
   have hall:BD key (tabsS st)=(Ag key st.ts[i].2).or (BD key ((tabsS st).drop (i+1))):=by
    conv=>lhs;rw[← List.take_append_drop (i+1) (tabsS st),htk]
    rw[M.Mt,M.Mt,hno,M.Cw]
    have:BD key ([]:List (List Pr))=none:=rfl
    rw[this,Option.or_none,Option.none_or]
   cases hf2:Ag key st.ts[i].2 with
   |some p=>
    have e:Rl key st.ts[i].2=(p,true):=by unfold Rl;rw[hf2]
    rw[e] at hb6 ⊢
    refine PIf.yes rfl (AL.mk (AB hb6 rfl) (Ab.mk (AB hb6 rfl) ?_))
    have:=H h6 x06
    rw[hg p (by rw[hf,hall,hf2];rfl)] at this
    exact this
   |none=>
    have e:Rl key st.ts[i].2=(M.Qh,false):=by unfold Rl;rw[hf2]
    rw[e] at hb6 ⊢
    refine PIf.no rfl ?_
    rw[AR (by omega)]
    refine hK2 (q.ps.length-(i+1)) _ _ (by omega) ⟨i+1,rfl,rfl,hil,x06,?_⟩
    rw[htk,M.Mt,hno,M.Cw,hf2]
    rfl
  ·have hil:i=q.ps.length:=by
    have: ¬i<q.tp.len:=by simpa using hq
    omega
   subst hil
   rw[List.take_of_length_le (by simp[tabsS];omega)] at hno
   have:=H hh xx
   rw[hg0 (by rw[hf,hno];rfl)] at this
   exact this
theorem Xe {d:Nat}(D:Qb h d){K:Bool×Unit→Heap→Prop}(H:K (true,()) h):PIf ((some (⟨d,0,none⟩:Addr)).isNone) (K (true,()) h) (At (some (⟨d,0,none⟩:Addr)) fun a=>Ab h (a.add 8) fun t=>K (t,()) h):=by
 obtain⟨c0,c1,c2,c3,c4,c5,c6,c7,hd⟩:=D
 exact PIf.no rfl (atI (Ab.mk (AB hd rfl) H))
end
end Go.Lf.G

