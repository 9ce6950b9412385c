/-
 Contracts: the document's map (chapter 9).
-/
import Derived.Test.YtdmlhpjdmgaggaaGreatDoorLfZ14ToZ16
import Derived.Test.YtdmlhpjdmgaggaaGreatDoorLfS1aToU20
import Derived.Test.YtdmlhpjdmgaggaaGreatDoorCards
import Derived.Test.YtdmlhpjdmgaggaaGreatDoorTie
import Derived.Deep.DeepHandedRow
import Derived.Lib.LaidTab
import Derived.Stop.LaidErr
import Derived.Test.YtdmlhpjdmgaggaaGreatDoorLfM4ToM10
import Derived.Test.YtdmlhpjdmgaggaaGreatDoorRows
import Derived.WalkKit
import Derived.ProofKit
import Derived.OpenShut
import Derived.JoinedCond
import Derived.Deep.Slices
import Derived.Carry
import Derived.Test.YtdmlhpjdmgaggaaGreatDoorLfU1ToU4
import Derived.Test.YtdmlhpjdmgaggaaGreatDoorLfZ5ToZ8
set_option linter.unusedVariables false
set_option linter.unusedSimpArgs false
set_option maxRecDepth 100000
set_option linter.unusedVariables false
set_option linter.unusedSimpArgs false
namespace Go.Lf.G
open Go
open M (Sorted Ag DR BJ Ai BD CV Ap OkL Ba atK Bc)
theorem AIn {A:Amb}{h:Heap}{s:Sl}{l:List Pr}{R:Value→Heap→Prop}(v:View Ak h s l)(H: ∀h',Ext h h'→R (.int .i64 (CQ l)) h'):AA A P FK #[.slice s.p s.len s.cap] h R:=by
 refine QB ?_
 unfold II
 rw[v.len]
 refine PIf.intro (fun hq=>?_) (fun hq=>?_)
 ·have h0:l.length=0:=by have:((l.length:Nat):Int)=0:=(by simpa using hq);omega
  have:=H h Mod.refl
  unfold CQ at this
  rwa [if_pos h0] at this
 have h0:l.length≠0:=fun e=>by rw[e] at hq;cases hq
 refine PIf.intro (fun hq=>?_) (fun hq=>?_)
 ·have h1:l.length>64:=by have:=of_decide_eq_true hq;omega
  have:=H h Mod.refl
  unfold CQ at this
  rwa [if_neg h0,if_pos h1] at this
 have h1: ¬l.length>64:=by have:=of_decide_eq_false hq;omega
 have hck:CQ l=EZ l:=by unfold CQ;rw[if_neg h0,if_neg h1]
 rw[hck] at H
 refine Loop.rule (fun mm x hh=> ∃i:Nat,x=((i:Int),())∧mm=l.length-i∧i≤l.length∧Ext h hh∧EZ (l.take i)=0) ?_ ⟨0,rfl,rfl,by omega,Mod.refl,rfl⟩
 rintro K mm _ hh ⟨i,rfl,rfl,hi,xx,hw⟩ hK
 dsimp only
 refine PIf.intro (fun hq=>?_) (fun hq=>?_)
 ·have hil:i<l.length:=by have:=of_decide_eq_true hq;omega
  have hget:l[i]? =some l[i]:=List.getElem?_eq_getElem hil
  rw[← v.len]
  refine(v.ext xx).idx hget fun a _ c=>?_
  obtain⟨c0,c1,c2⟩:=c.pair
  refine AL.mk c0 (AL.mk c1 (Ab.mk c2 ?_))
  refine M.AJE (x:=l[i]) fun h2 x2 _=>⟨_,rfl,?_⟩
  have hsp:=UR hget hw
  refine PIf.intro (fun q=>?_) (fun q=>?_)
  ·have hne:Ap l[i]≠0:=by simpa using q
   have:=H h2 (xx.trans x2)
   rw[hsp,if_pos hne] at this
   exact this
  ·have he:Ap l[i]=0:=by simpa using q
   rw[AR (by omega)]
   refine hK (l.length-(i+1)) _ _ (by omega) ⟨i+1,rfl,rfl,hil,xx.trans x2,?_⟩
   rw[List.take_add_one,hget]
   exact P5 hw he
 ·have hil:i=l.length:=by have:=of_decide_eq_false hq;omega
  subst hil
  rw[List.take_length] at hw
  have:=H hh xx
  rwa [hw] at this
theorem AKK {A:Amb}{h:Heap}{s:Sl}{l:List Pr}{key:ByteArray}{R:Value→Heap→Prop}(v:View Ak h s l)(hl:l.length≤1099511627776)(H: ∀h',Ext h h'→R (.tuple #[.int .i64 (atK key l:Int),.bool (Bc key l)]) h'):AA A P Dp #[.agg #[.slice s.p s.len s.cap],.string key] h R:=by
 refine Pj ?_
 unfold Gu
 refine New.mk fun h1 _ hb1 x1 s1=>?_
 have v1:=v.ext x1
 refine Loop.rule (fun mm x hh=> ∃i:Nat,x=((i:Int),())∧mm=l.length-i∧i≤atK key l∧hh=h1) ?_ ⟨0,rfl,rfl,Nat.zero_le _,rfl⟩
 rintro K mm _ hh ⟨i,rfl,rfl,hi,eh⟩ hK
 obtain rfl:h1=hh:=eh.symm
 have hle:=M.Tj key l
 obtain⟨t1,t2,t3⟩:=M.MJ (p:=fun q=>sLt q.key key) (l:=l) (i:=i) (show i≤(l.takeWhile fun q=>sLt q.key key).length from hi)
 refine Join.mk fun K1 hK1=>?_
 have fin:(i=atK key l)→K1 (false,()) h1:=fun e=>hK1 _ _ (PIf.no rfl (by
  refine AZ.mk (s:=s) (AC hb1 rfl) ?_
  rw[v1.len]
  have:=H h1 x1
  refine PIf.intro (fun q=>?_) (fun q=>?_)
  ·have hil:i<l.length:=by have:=of_decide_eq_true q;omega
   have hget:l[i]? =some l[i]:=List.getElem?_eq_getElem hil
   refine AZ.mk (s:=s) (AC hb1 rfl) (v1.idx hget fun a _ c=>?_)
   obtain⟨c0,_,_⟩:=c.pair
   refine AL.mk c0 ?_
   unfold M.Bc at this
   rw[← e,hget] at this
   rw[BZ]
   exact this
  ·have hil: ¬i<l.length:=by have:=of_decide_eq_false q;omega
   have hnone:l[i]? =none:=by simp;omega
   unfold M.Bc at this
   rw[← e,hnone] at this
   exact this))
 refine AZ.mk (s:=s) (AC hb1 rfl) ?_
 rw[v1.len]
 refine PIf.intro (fun q=>?_) (fun q=>?_)
 ·have hil:i<l.length:=by have:=of_decide_eq_true q;omega
  have hget:l[i]? =some l[i]:=List.getElem?_eq_getElem hil
  refine AZ.mk (s:=s) (AC hb1 rfl) (v1.idx hget fun a _ c=>?_)
  obtain⟨c0,_,_⟩:=c.pair
  refine AL.mk c0 ?_
  cases hb:sLt l[i].key key with
  |true=>
   refine hK1 _ _ (PIf.yes rfl ?_)
   rw[AR (by omega)]
   have:=t1 _ hget hb
   exact hK (l.length-(i+1)) _ _ (by omega) ⟨i+1,rfl,rfl,this,rfl⟩
  |false=>exact fin (t2 _ hget hb)
 ·have hil: ¬i<l.length:=by have:=of_decide_eq_false q;omega
  exact fin (t3 (by simp;omega))
theorem ALa(m:List Pr)(p:Pr):(wr1 m p).length≤m.length+1:=by
 unfold wr1
 have:=M.Tj p.key m
 simp only[List.length_append,List.length_take,List.length_drop]
 split<;>split<;>simp<;>omega
theorem AG5: ∀(b m:List Pr),(wrL m b).length≤m.length+b.length
 | [],m=>by simp[wrL]
 |p::b,m=>by
  have h1:=ALa m p
  have h2:=AG5 b (wr1 m p)
  show(wrL (wr1 m p) b).length≤_
  simp only[List.length_cons];omega
theorem AJA {m b:List Pr}{i:Nat}{x:Pr}(h:b[i]? =some x):wrL m (b.take (i+1))=wr1 (wrL m (b.take i)) x:=by
 rw[List.take_add_one,h]
 show wrL m (b.take i++ [x])=_
 unfold wrL
 rw[List.foldl_append];rfl
theorem AH7 {A:Amb}{h:Heap}{s sb:Sl}{m b:List Pr}{R:Value→Heap→Prop}(v:View Ak h s m)(vb:View Ak h sb b)(hm:m.length+b.length≤1000000)
  (H: ∀s' h',View Ak h' s' (wrL m b)→(∀ c,s'.blk=some c→s.blk=some c∨(h.size≤c∧c<h'.size))→Ext h h'→R (.agg #[.slice s'.p s'.len s'.cap]) h'):AA A P Dw #[.agg #[.slice s.p s.len s.cap],.slice sb.p sb.len sb.cap] h R:=by
 refine NQ ?_
 unfold FY
 refine New.mk fun h1 _ hb1 x1 s1=>New.mk fun h2 _ hb2 x2 s2=>?_
 have x02:=x1.trans x2
 refine Loop.rule (fun mm x hh=> ∃(i:Nat) (si:Sl),x=((i:Int),())∧mm=b.length-i∧i≤b.length∧Mod (fun c=>h.size≤c) h2 hh∧hh[h.size]? =some (.cells #[.slice si.p si.len si.cap] Co (0,0))∧hh[h1.size]? =some (.cells #[.slice none 0 0] Co (0,0))∧View Ak hh si (wrL m (b.take i))∧((si=s∧wrL m (b.take i)=m)∨ ∀c,si.blk=some c→h1.size<c∧c<hh.size)) ?_
  ⟨0,s,rfl,rfl,Nat.zero_le _,Mod.refl,AU x2 hb1,hb2,v.ext x02,.inl ⟨rfl,rfl⟩⟩
 rintro K mm _ hh ⟨i,si,rfl,rfl,hi,mdi,ci,c2,vi,bi⟩ hK
 have szi:=mdi.size
 have xi:Ext h hh:=x02.then (mdi.weak fun c _ hc=> .inr hc)
 have vbi:=vb.ext xi
 dsimp only
 rw[vb.len]
 refine PIf.intro (fun hq=>?_) (fun hq=>?_)
 ·have hil:i<b.length:=by have:=of_decide_eq_true hq;omega
  have hget:b[i]? =some b[i]:=List.getElem?_eq_getElem hil
  have hml:=AG5 (b.take i) m
  rw[List.length_take] at hml
  have htk:=AJA (m:=m) hget
  rw[← vb.len]
  refine AZ.mk (s:=si) (AC ci rfl) (vbi.idx hget fun a _ ca=>?_)
  obtain⟨k0,k1,k2⟩:=ca.pair
  refine AL.mk k0 ?_
  generalize b[i]=p at*
  generalize wrL m (b.take i)=w at*
  refine AKK vi (by omega) fun h4 x4=>⟨_,_,rfl,?_⟩
  have hle:=M.Tj p.key w
  have c4:=AU x4 ci
  have v4:=vi.ext x4
  refine AZ.mk (s:=si) (AC c4 rfl) ⟨⟨by omega,by have:=v4.cap;have:=v4.len;omega⟩,?_⟩
  have hcat:(((atK p.key w:Nat):Int)).toNat=atK p.key w:=by omega
  rw[hcat]
  refine Gx (E:=Ak) (s:=⟨none,0,0⟩) (l:= []) (src:=⟨Ao si.p si.cap 0 3,atK p.key w-0,si.cap-0⟩) JE Own.nil (v4.sub (lo:=0) (hi:=atK p.key w) (by omega) hle) (by simp;omega) (by simp[maxLen];omega) fun s5 h5 o5 m5 b5 _=>?_
  rw[List.drop_zero,List.nil_append] at o5
  have x5:Ext h4 h5:=m5.weak (by simp[Sl.blk])
  have x45:=x4.trans x5
  have b5': ∀c,s5.blk=some c→hh.size≤c:=fun c hc=>by
   rcases b5 c hc with h|h
   ·simp [Sl.blk] at h
   ·have:=x4.size;omega
  refine Join.mk fun K1 hK1=>?_
  have rest: ∀(s6:Sl) (h6:Heap),Own Ak AO h6 s6 (w.take (atK p.key w)++if p.gone then [] else [p])→(∀ c,s6.blk=some c→hh.size≤c)→Mod (fun c=>hh.size≤c) hh h6→K1 (s6,()) h6:=fun s6 h6 o6 b6 m6=>hK1 _ _ (by
   refine Join.mk fun K2 hK2=>?_
   have sz6:=m6.size
   have hb1lt:h.size<hh.size:=Ah ci
   have c6:=m6.blk ci (by omega)
   have v6:View Ak h6 si w:=View.modn vi m6 fun c hc hlt hge=>by omega
   have go: ∀j:Nat,j=(if Bc p.key w then atK p.key w+1 else atK p.key w)→j≤w.length→K2 ((j:Int),()) h6:=fun j ej hj=>hK2 _ _ (by
    refine AZ.mk (s:=si) (AC c6 rfl) ⟨⟨by omega,by have:=v6.len;omega⟩,?_⟩
    have hcat2:(((j:Nat):Int)).toNat=j:=by omega
    rw[hcat2]
    have hlen:=v6.len
    have vs:=v6.sub (lo:=j) (hi:=w.length) hj (Nat.le_refl _)
    rw[← hlen] at vs
    have ltk:(w.take (atK p.key w)++if p.gone then [] else [p]).length≤atK p.key w+1:=by
     simp only[List.length_append,List.length_take];split<;>simp<;>omega
    refine Gx (E:=Ak) (s:=s6) (src:=⟨Ao si.p si.cap j 3,si.len-j,si.cap-j⟩) JE o6 vs (by rw[hlen];simp only[List.length_drop,List.length_take];omega) (by rw[hlen];simp only[List.length_drop,List.length_take,maxLen];omega) fun s7 h7 o7 m7 b7 _=>?_
    have b7': ∀c,s7.blk=some c→hh.size≤c:=fun c hc=>by
     rcases b7 c hc with h|h
     ·exact b6 c h
     ·omega
    have m67:Mod (fun c=>hh.size≤c) hh h7:=m6.trans (m7.weak fun c _ hc=>b6 c hc)
    have c7:=m67.blk ci (by omega)
    refine Store.mk (hb:=c7) (j:=0) (by simp) fun h8 hb8 m8 s8=>?_
    rw[AR (by omega)]
    have hb2lt:h1.size<hh.size:=Ah c2
    refine hK (b.length-(i+1)) _ _ (by omega) ⟨i+1,s7,rfl,rfl,hil,(mdi.trans (m67.weak fun c _ hc=>by omega)).trans (m8.weak fun c _ hc=>by omega),by simpa using hb8,m8.blk (m67.blk c2 (by omega)) (by omega),?_,.inr fun c hc=>by have:=b7' c hc;have:=o7.lt hc;omega⟩
    rw[htk]
    have:=(o7.mod m8 fun c hc e=>by have:=b7' c hc;omega).view
    rw[hlen,List.take_length,ej] at this
    unfold wr1
    exact this)
   refine PIf.intro (fun q=>?_) (fun q=>?_)
   ·rw [AR (by omega)]
    have hlt:=M.AKp q
    exact go _ (by rw[if_pos q]) hlt
   ·exact go _ (by rw[if_neg (by rw[q];decide)]) hle)
  have vb5:=vbi.ext x45
  refine vb5.idx hget fun a1 _ ca1=>?_
  obtain⟨j0,j1,j2⟩:=ca1.pair
  refine Ab.mk j2 ?_
  refine PIf.intro (fun q=>?_) (fun q=>?_)
  ·have hg:p.gone=false:=by simpa using q
   refine vb5.idx hget fun a2 _ ca2=>?_
   obtain⟨i0,i1,i2⟩:=ca2.pair
   refine AL.mk i0 (AL.mk i1 (Ab.mk i2 ?_))
   refine New.append1 (E:=Ak) (x:=p) (s:=s5) (l:=w.take (atK p.key w)) rfl JE o5 (by simp;omega) (by simp[maxLen];omega) fun s6 h6 o6 m6 b6 _=>?_
   refine rest s6 h6 (by rw[hg];exact o6) (fun c hc=>?_) ((Ext.mod x45).trans (m6.weak fun c _ hc=>b5' c hc))
   rcases b6 c hc with h|h
   ·exact b5' c h
   ·have:=x45.size;omega
  ·have hg:p.gone=true:=by simpa using q
   exact rest s5 h5 (by rw[hg];simpa using o5) b5' (Ext.mod x45)
 ·have hil:i=b.length:=by have:=of_decide_eq_false hq;omega
  subst hil
  rw[List.take_length] at vi bi
  refine AZ.mk (s:=si) (AC ci rfl) (Store.mk (hb:=c2) (j:=0) (by simp) fun h8 hb8 m8 s8=>?_)
  have hb8:h8[h1.size]? =some (.cells #[.slice si.p si.len si.cap] Co (0,0)):=by simpa using hb8
  refine AZ.mk (s:=si) (AC hb8 rfl) ?_
  have x8:Ext h h8:=xi.then (m8.weak fun c _ hc=> .inr (by omega))
  rcases bi with⟨e1,e2⟩|bi
  ·rw [e2] at H
   subst e1
   exact H si h8 (v.ext x8) (fun c hc=> .inl hc) x8
  ·exact H si h8 (View.modn vi m8 fun c hc hlt e=>by have:=bi c hc;omega) (fun c hc=> .inr (by have:=bi c hc;have:=m8.size;omega)) x8
end Go.Lf.G

/-
 Contracts: the document's map is read; a store held against it; a store that is awake (chapter 9).
-/
set_option maxRecDepth 100000
set_option linter.unusedVariables false
set_option linter.unusedSimpArgs false
namespace Go.Lf.G
open Go
open M (Sorted Ag DR BJ Ai BD CV Ap OkL Ba atK Bc)
theorem AHN(key:ByteArray): ∀ {l:List Pr},Sorted l→(Bc key l=true→ ∃p,l[atK key l]? =some p∧Ag key l=some p)∧(Bc key l=false→Ag key l=none)
 | [],_=>⟨(fun h=>by cases h),fun _=>rfl⟩
 |x::l,s=>by
  have s':=List.pairwise_cons.1 s
  have ih:=AHN key s'.2
  rw[Yl,QE,M.Ay]
  by_cases h:sLt x.key key=true
  ·rw [if_pos h,if_pos h,if_neg (M.Ko h)]
   exact⟨fun ht=>by obtain⟨p,h1,h2⟩:=ih.1 ht;exact⟨p,by simpa using h1,h2⟩,ih.2⟩
  ·rw [if_neg h,if_neg h]
   by_cases hk:x.key=key
   ·rw [if_pos hk]
    exact⟨fun _=>⟨x,rfl,rfl⟩,fun hf=>by simp[hk] at hf⟩
   ·rw [if_neg hk]
    refine⟨fun ht=>by simp[hk] at ht,fun _=>M.Fg fun y hy e=>h ?_⟩
    have:=s'.1 y hy
    rwa [e] at this
theorem ALz {A:Amb}{h:Heap}{s:Sl}{m:List Pr}{key:ByteArray}{R:Value→Heap→Prop}(v:View Ak h s m)(hs:Sorted m)(hl:m.length≤1099511627776)(H: ∀h',Ext h h'→R (.tuple #[.string (G6 m key).1,.bool (G6 m key).2]) h'):AA A P Ee #[.agg #[.slice s.p s.len s.cap],.string key] h R:=by
 refine O7 ?_
 unfold GM
 refine New.mk fun h1 _ hb1 x1 s1=>AZ.mk (s:=s) (AC hb1 rfl) ?_
 refine AKK (v.ext x1) hl fun h2 x2=>⟨_,_,rfl,?_⟩
 have x02:=x1.trans x2
 have:=H h2 x02
 unfold G6 at this
 obtain⟨f1,f2⟩:=AHN key hs
 cases ht:Bc key m with
 |false=>
  rw[f2 ht] at this
  exact PIf.yes rfl this
 |true=>
  obtain⟨p,hp,hf⟩:=f1 ht
  rw[hf] at this
  refine PIf.no rfl (AZ.mk (s:=s) (AC (AU x2 hb1) rfl) ?_)
  refine(v.ext x02).idx hp fun a _ c=>?_
  obtain⟨c0,c1,c2⟩:=c.pair
  have en:((atK key m:Nat):Int).toNat=atK key m:=by omega
  refine AL.mk ?_ this
  rw[en];exact c1
theorem ALC(k:ByteArray):ADP ⟨#[]⟩ ⟨#[]⟩ k=true:=by
 have h:sLt k (⟨#[]⟩:ByteArray)=false:=by
  unfold sLt
  rw[ByteArray.toList_eq,ByteArray.toList_eq]
  cases k.data.toList<;>rfl
 unfold ADP
 rw[h];rfl
theorem AJG {m:List Pr}{most:Nat}(h:m.length≤most):Zn m ⟨#[]⟩ ⟨#[]⟩ (most:Int)=m:=by
 unfold Zn NH
 rw[List.filter_eq_self.2 fun x _=>ALC x.key,List.take_of_length_le (by omega)]
section
variable {A : Amb} {B : Bud} {g h : Heap} {q : Hp} {k : Nat → Nat} {st : Db} {m : Bx} {D : BO} {age c : Nat} {R : Value → Heap → Prop}
theorem BC.frlen(S:BC B g h q k st m D age c):st.fr.length≤1000000∧st.ts.length≤100000∧(Ai (st.fr::tabsS st)).length≤1099511627776∧(Bp st).length≤100000:=by
 have h1:=S.disk.frlen S.lim
 have h2:=S.disk.alllen S.lim
 have h3:=S.hc
 have h4:=B.hC
 have h5:=S.disk.ntok.cnt
 rw[S.disk.nmle] at h5
 have h6:(Bp st).length≤(Ai (st.fr::tabsS st)).length:=U0 _
 omega
theorem BC.sorted(S:BC B g h q k st m D age c):Sorted (Bp st):=Dm _ _
end
end Go.Lf.G

/-
 A store that is awake (chapter 9).
-/
set_option maxRecDepth 100000
set_option linter.unusedVariables false
set_option linter.unusedSimpArgs false
namespace Go.Lf.G
open Go
open M (Sorted Ag DR BJ Ai BD CV Ap OkL Ba atK Bc)
def D0:BO:=⟨fun _=> [],fun _=> [],fun _=> [],1,1⟩
theorem ANO:Ac D0=⟨1,1,[]⟩:=rfl
theorem ANX {F:Fls}(hl: ∀n,F (fnB nl n)=none)(hn: ∀n,F (fnB nn n)=none)(ht: ∀x,F x≠none→(bl x).head? ≠some 116):Ar F D0∧AEU F D0 0 0∧mapD D0= []:=by
 refine⟨⟨⟨fun n p _ _ h=>?_,fun _ _ _ _=>rfl,fun n _ _=>hl n,fun _ _=>rfl⟩,⟨fun n p _ _ h=>?_,fun _ _ _ _=>rfl,fun n _ _=>hn n,fun _ _=>rfl⟩,fun n hn=>?_,fun n b hb=>?_,fun n x hx=>?_,fun x hx hd=>absurd hd (ht x hx),by decide⟩,⟨by decide,by decide,by decide,by decide,by decide,by decide,fun n hn=>?_⟩,rfl⟩
 ·rw [hl n] at h;cases h
 ·rw [hn n] at h;cases h
 ·rw [ANO] at hn;cases hn
 ·cases hb
 ·cases hx
 ·exact absurd (Zi n) (ht _ hn)
section
variable {A : Amb} {B : Bud} {g h : Heap} {q : Hp} {k : Nat → Nat} {st : Db} {m : Bx} {D : BO} {age c : Nat} {R : Value → Heap → Prop}
theorem BC.on {h':Heap}(S:BC B g h q k st m D age c)(x:Ext h h'):BC B g h' q k st m D age c:=⟨S.mem.on x,S.up,S.disk,S.lim,S.wt,S.hc⟩
theorem BC.beside {h':Heap}{X:Nat→Prop}(S:BC B g h q k st m D age c)(x:Mod X h h')(hX: ∀c,X c→k c=0∧g.size≤c):BC B g h' q k st m D age c:=⟨S.mem.beside x hX,S.up,S.disk,S.lim,S.wt,S.hc⟩
theorem BC.more {c':Nat}(S:BC B g h q k st m D age c)(h1:c≤c')(h2:c'≤B.C):BC B g h q k st m D age c':=⟨S.mem,S.up,S.disk,S.lim.mono (Nat.le_refl _) h1,S.wt,h2⟩
theorem BC.free(S:BC B g h q k st m D age c){x:Nat}(hx:h.size≤x):k x=0:=Decidable.byContradiction fun hk=>by
 have:=(S.mem.own x hk).2;omega
theorem BC.base(S:BC B g h q k st m D age c){x:Nat}(hx:x<g.size):k x=0:=Decidable.byContradiction fun hk=>by
 have:=(S.mem.own x hk).1;omega
theorem AJJ {b:Nat}{Sb:Nat→Prop}(E:Evn g)(Bx0:BU h b Sb m)(hx:Ext g h)(hSb: ∀c,Sb c→g.size≤c)(hd:m.down=false)(hfu:m.fuel= -1)(hl: ∀n,ff m (fnB nl n)=none)(hn: ∀n,ff m (fnB nn n)=none)(ht: ∀x,ff m x≠none→(bl x).head? ≠some 116)(hA:1≤B.A)(hw:wtF m.files≤B.W0)
  (H1: ∀h' q' k' st' m' D',q'.b=b→BC B g h' q' k' st' m' D' 1 0→m'.fuel= -1→Bp st'= []→(∀ y,¬Mine y→ff m' y=ff m y)→Mod Sb h h'→(∀ c,k' c≠0→Sb c∨h.size≤c)→R (.tuple #[Aq q'.d,.int .i64 0]) h'):AA A P Jw #[Aq b] h R:=by
 obtain⟨d1,d2,d3⟩:=ANX hl hn ht
 refine AFK (B:=B) E Bx0 hx hSb hd d1 d2 (Nat.zero_le _) hA (by omega) (fun hf=>absurd hfu hf) fun h' q' k' st' m' D' e S sty mp oth md kk=>?_
 exact H1 h' q' k' st' m' D' e S (sty.calm hfu) (mp.trans d3) oth md kk
theorem AIT {b:Nat}{Sb:Nat→Prop}{mp:List Pr}(E:Evn g)(Bx0:BU h b Sb m)(hx:Ext g h)(hSb: ∀c,Sb c→g.size≤c)(hd:m.down=false)(hr:Rec (ff m) age c mp)(hc:c≤B.C)(hA:age+1≤B.A)(hw:wtF m.files≤B.W0+age*B.K)
  (H0:m.fuel≠ -1→ ∀h' d S' m',BU h' b S' m'→m'.down=true→Mod Sb h h'→(∀ c,S' c→Sb c∨h.size≤c)→ZW (ff m') (age+1) c mp→(∀ y,¬Mine y→ff m' y=ff m y)→wtF m'.files≤B.W0+(age+1)*B.K→R (.tuple #[Aq d,.int .i64 30]) h')
  (H1: ∀h' q' k' st' m' D',q'.b=b→BC B g h' q' k' st' m' D' (age+1) c→Gw m m'→Bp st'=mp→(∀ y,¬Mine y→ff m' y=ff m y)→Mod Sb h h'→(∀ c,k' c≠0→Sb c∨h.size≤c)→R (.tuple #[Aq q'.d,.int .i64 0]) h'):AA A P Jw #[Aq b] h R:=by
 obtain⟨D,d1,d2,rfl⟩:=hr
 exact AFK (B:=B) E Bx0 hx hSb hd d1 d2 hc hA hw H0 H1
end
abbrev ka:ByteArray:=⟨#[97]⟩
abbrev kb:ByteArray:=⟨#[98]⟩
abbrev v1:ByteArray:=⟨#[49]⟩
abbrev v2:ByteArray:=⟨#[50]⟩
def AMJ:Bud:=⟨1000,0,100,by decide,by decide,by decide⟩
def pA1:Pr:=⟨ka,v1,false⟩
end Go.Lf.G

/-
 What the rows list: the table that the numerals are read from, two errors; a world that holds what is listed; arguments opened.
-/
set_option maxRecDepth 100000
set_option linter.unusedVariables false
set_option linter.unusedSimpArgs false
namespace Go.Lf.G
open Go Go.ChangeShapes Go.WideShapes Go.ChangeAt Go.RowKit Go.Proofs.YtdmlhpjdmgaggaaGreatDoor
def listed:List (String×DataW Unit):=Rows.casWinnerRow.laid
theorem AIK: ∃(x y a b:String×DataW Unit),listed= [x,y,(Xc,Lib.tabData .u64 Lib.pow10Tab),a,b]:=⟨_,_,_,_,rfl⟩
theorem ANR:P.globalNamed Xc=some 2:=by kernel_rfl
theorem AMv:(P.globals[2]?).map (·.type)=some Pw:=by kernel_rfl
theorem ANb:P.underlying Pw=some (.array 20 Nw):=by kernel_rfl
theorem AM2:P.underlying Nw=some (.int .u64):=by kernel_rfl
theorem ANB:P.cellsOf Nw=1:=by kernel_rfl
theorem ANc:P.cellsOf Pw=20:=by kernel_rfl
theorem AFs:listed.filter (fun x=>x.2.handleName?.isSome)= []:=by kernel_rfl
theorem AFk {W:World}(h:laidMetH P listed W):laidMet P listed W:=by
 unfold laidMetH at h
 rw[AFs] at h
 exact h
theorem ALV {W:World}(h:laidMetH P listed W):Lib.TabIs P W Xc .u64 Lib.pow10Tab:=by
 have h1:=AFk h
 obtain⟨x,y,a,b,e⟩:=AIK
 rw[e] at h1
 exact Lib.tabIs_of_head (rest:= [a,b]) ANR AMv ANb AM2 ANB ANc (laidMet.tail (laidMet.tail h1))
theorem AK4 {W:World}(h:laidMetH P listed W):Tab W.heap:=fun A n=>by
 have h1:=ALV h
 unfold Lib.TabIs World.var? at h1 ⊢
 exact h1
def ACd : String := String.ofList [Char.ofNat 42] ++ "errors.errorString"
def AHV:String:=Rows.casWinnerRow.named.getD 1 (String.ofList [])
def AHW:String:=Rows.casWinnerRow.named.getD 0 (String.ofList [])
theorem AMH: ∃(x y z w:String×DataW Unit) (text:List UInt8),listed= [x,y,z,(AHV,.iface ACd (.ptr (.agg [.lit (.string text)]))),w]:=⟨_,_,_,_,_,rfl⟩
theorem AM4: ∃(x y z w:String×DataW Unit) (text:List UInt8),listed= [x,y,z,w,(AHW,.iface ACd (.ptr (.agg [.lit (.string text)])))]:=⟨_,_,_,_,_,rfl⟩
theorem ANg:P.globalNamed AHV=some 1:=by kernel_rfl
theorem ANT:P.globalNamed AHW=some 0:=by kernel_rfl
theorem AM3:(P.globals[1]?).map (·.type)=some Xd:=by kernel_rfl
theorem AMd:(P.globals[0]?).map (·.type)=some Xd:=by kernel_rfl
theorem AM9: ∃ms,P.underlying Xd=some (.interface ms):=⟨_,Proofs.Tryz.underlying183⟩
theorem AMQ(u:TypeId)(h:P.typeName? 3 u=some ACd):u=DJ:=
 typeName_ptr_named (nm := "errors.errorString") (by kernel_rfl) (by kernel_rfl) (by decide) u h
theorem ANJ:P.underlying DJ=some (.pointer Dv):=by kernel_rfl
theorem ANk: ∃f:Field,P.underlying Dv=some (.struct #[f])∧f.type=Ad∧f.offset=0:=⟨_,Proofs.Tryz.underlying280,rfl,rfl⟩
theorem ANl:P.cellsOf Dv=1:=by kernel_rfl
theorem AJR {n:String}{text:List UInt8}{r:List (String×DataW Unit)}{W:World}{g:Nat}(h:laidMet P ((n,.iface ACd (.ptr (.agg [.lit (.string text)])))::r) W)(hg:P.globalNamed n=some g)(ht:(P.globals[g]?).map (·.type)=some Xd):AA8 W.heap g:=by
 obtain⟨ms,hi⟩:=AM9
 obtain⟨f,hf,hft,hfo⟩:=ANk
 obtain⟨a0,s0,hv0,_,_,_⟩:=laid_sentinel h hg ht hi AMQ ANJ hf hft hfo Yr ANl ALM
 have h0:W.cell? ⟨g,0,none⟩=some (.iface DJ (.pointer (some a0))):=by simpa using World.var?_cell hg hv0 0
 refine⟨.iface DJ (.pointer (some a0)),?_,.inr ⟨_,_,rfl⟩⟩
 unfold hget
 unfold World.cell? at h0
 exact h0
theorem ACm {W:World}(h:laidMetH P listed W):Evn W.heap:=by
 refine⟨AK4 h,?_,?_⟩
 ·have h1:=AFk h
  obtain⟨x,y,z,w,t,e⟩:=AM4
  rw[e] at h1
  exact AJR (laidMet.tail (laidMet.tail (laidMet.tail (laidMet.tail h1)))) ANT AMd
 ·have h1:=AFk h
  obtain⟨x,y,z,w,t,e⟩:=AMH
  rw[e] at h1
  exact AJR (laidMet.tail (laidMet.tail (laidMet.tail h1))) ANg AM3
def AEs:DataW Unit→Array Value
 | .agg ds=>(ds.map fun| .lit (.int k z)=>Value.int k z|_=> .bool false).toArray
 |_=> #[]
def fill(d:DataW Unit):Obj→Obj
 | .cells _ t frozen=> .cells (AEs d) t frozen
 |o=>o
def point(b:Nat):Obj→Obj
 | .cells _ t frozen=> .cells #[.iface DJ (.pointer (some ⟨b,0,none⟩))] t frozen
 |o=>o
abbrev AK7:ByteArray:=⟨#[118,97,108,117,101,32,111,117,116,32,111,102,32,114,97,110,103,101]⟩
abbrev ALs:ByteArray:=⟨#[105,110,118,97,108,105,100,32,115,121,110,116,97,120]⟩
noncomputable def low:Nat:=(World.holding P default ⟨#[],#[],[]⟩).heap.size
noncomputable def Hz (os:Os):World:=
 let w0:=World.holding P os ⟨#[.cells #[.string AK7] Dv,.cells #[.string ALs] Dv],#[],[]⟩
 {w0 with heap:=((((w0.heap.modify 2 (fill Rows.laid_internal_strconv_uint64pow10)).modify 4 (fill Rows.laid_math_bits_deBruijn32tab)).modify 5 (fill Rows.laid_math_bits_deBruijn64tab)).modify 1 (point low)).modify 0 (point (low+1))}
theorem Md(os:Os)(args:Array Value):laidMet P listed ((Hz os).forCall (fun _ _=>0) ⟨#[],args,[]⟩).memory:=
 laidMet_of_run' 8 (by kernel_rfl) (by kernel_rfl)
end Go.Lf.G

/-
 Rows: arguments opened, what is asked behind the call.
-/
set_option maxRecDepth 100000
namespace Go.Lf.G.M
open Go Go.ChangeShapes Go.WideShapes Go.ChangeAt Go.RowKit Go.Proofs.YtdmlhpjdmgaggaaGreatDoor
theorem YX {H:Type}(d:DataW H):1≤Rows.uptoBulk d:=by
 cases d with
 |lit l=>cases l<;>simp[Rows.uptoBulk]
 |nil=>simp[Rows.uptoBulk]
 |ptr d=>simp[Rows.uptoBulk]
 |slice elems spare=>simp[Rows.uptoBulk]
 |agg parts=>simp[Rows.uptoBulk]
 |iface t d=>simp[Rows.uptoBulk]
 |map entries=>simp[Rows.uptoBulk]
 |held h=>simp[Rows.uptoBulk]
theorem ADs {H:Type}(l:List (DataW H)):l.length≤Rows.uptoBulkAll l:=by
 induction l with
 |nil=>simp[Rows.uptoBulkAll]
 |cons x r ih=>have:=YX x;simp only[Rows.uptoBulkAll,List.length_cons];omega
theorem OD {H:Type}{enc:TypeId×Value→H}{P:Program}(hl:laidOutB P=true){W W':World}{sp:Nat→Bool}: ∀ {ts:List TypeId} {vs:List Value} {ds:List (DataW H)} {ps:List MemPlace},
  (ts.all fun t=>P.readableRec t&&decide (t<P.types.size))=true→DataW.TrodAll enc P W 0 (fun _=>true) true ts vs ds ps→(∀ p∈ps,W.sameAt W' p)→(∀ p∈ps,sp p.block=true)→DataW.TrodAll enc P W' 0 sp true ts vs ds ps
 | [],[],[],_,_,h,_,_=>h
 |t::ts,v::vs,d::ds,_,hr,⟨p,q,h1,h2,e⟩,hs,hsp=>by
  simp only[List.all_cons,Bool.and_eq_true,decide_eq_true_eq] at hr
  subst e
  exact⟨p,q,WideElems.Trod_stays hl hr.1.1 hr.1.2 h1 (fun x hx=>hs x (List.mem_append_left _ hx)) (fun x hx=>hsp x (List.mem_append_left _ hx)),
   OD hl (by simpa using hr.2) h2 (fun x hx=>hs x (List.mem_append_right _ hx)) (fun x hx=>hsp x (List.mem_append_right _ hx)),rfl⟩
def QZ(W:World):Amb:=⟨W.tape,W.os,W.output⟩
theorem QO {H:Type}{enc:TypeId×Value→H}{P:Program}{f:Func}{s:ChangeSpec}{W:World}{args:Array Value}{ds gs:List (DataW H)}{before:List MemPlace}{tb:TypeId}{h':Heap}{n':Nat}
  (hW:DataW.Whole enc P f.params.toList s.vars false W args.toList ds gs before) (hvars:s.vars= []) (hres:(s.fn H (ds++gs)).results= [.lit (.bool true)]) (hargs:(s.fn H (ds++gs)).args=ds) (hvs:(s.fn H (ds++gs)).vars= [])
  (hl:laidOutB P=true) (hp:(f.params.toList.all fun t=>P.readableRec t&&decide (t<P.types.size))=true) (hr:f.resultTypes= #[tb]) (hb:P.underlying tb=some .bool) (x:Ext W.heap h'):
  s.post enc P f false true false false W args (.bool true) ((QZ W).at h' n'):=by
 have hlt:=fun p (hp:p∈before)=>hW.lt p hp
 have hsame: ∀p∈before,W.sameAt ((QZ W).at h' n') p:=fun p hp=>by
  have hb2:h'[p.block]? =W.heap[p.block]? :=x.get _ (hlt p hp) (fun h=>h)
  cases p with
  |cell b off=>
   show hget h' ⟨b,off,none⟩=hget W.heap ⟨b,off,none⟩
   exact MC hb2
  |map b=>exact hb2
 obtain⟨p,q,hA,hV,rfl,hz,hn⟩:=id hW
 rw[hvars] at hV
 have hgs:gs= []∧q= []:=by
  cases gs with
  |nil=>exact⟨rfl,hV⟩
  |cons _ _=>exact hV.elim
 obtain⟨rfl,rfl⟩:=hgs
 refine⟨ds,[],p++ [],[],p,[],hW,?_,?_,?_,?_,fun h=>by cases h⟩
 ·rw [hres,hr]
  exact⟨[],[],⟨1,by simp[DataW.trod,Value.cells,hb]⟩,rfl,rfl⟩
 ·rw [hargs]
  exact OD hl hp hA (fun y hy=>hsame y (List.mem_append_left _ hy)) (fun y hy=>by simpa using hlt y (List.mem_append_left _ hy))
 ·rw [hvars,hvs];rfl
 ·refine⟨rfl,rfl,fun i hi=>?_⟩
  have e:((QZ W).at h' n').heap[i]? =W.heap[i]? :=x.get i hi (fun h=>h)
  rw[e]
  cases h1:W.heap[i]? with
  |none=>trivial
  |some o=>
   cases o with
   |cells c t fr=>exact⟨rfl,rfl,rfl,fun _ _=>rfl⟩
   |map es clock=>exact .inr ⟨rfl,rfl⟩
   |_=>rfl
section
variable {H : Type} {enc : TypeId × Value → H} {w : World} {base : Nat} {spare : Nat → Bool} {held : Bool}
instance:Inhabited Pr:=⟨⟨⟨#[]⟩,⟨#[]⟩,false⟩⟩
instance:Inhabited Sl:=⟨⟨none,0,0⟩⟩
theorem AA9:P.underlying BL=some (.int .i64):=by kernel_rfl
theorem AKD:P.underlying AV=some (.slice AO):=by kernel_rfl
theorem ALM:P.cellsOf Ad=1:=by kernel_rfl
theorem AMn:P.cellsOf Je=1:=by kernel_rfl
end
theorem laid:laidOutB P=true:=by kernel_rfl
end Go.Lf.G.M

/-
 Calls, maps beside a store (chapter 9): what the laws share.
-/
set_option maxRecDepth 100000
set_option linter.unusedVariables false
set_option linter.unusedSimpArgs false
namespace Go.Lf.G
open Go
open M (Sorted Ag DR BJ Ai BD CV Ap OkL Ba atK Bc)
structure ANe where
 kind:Int
 bs:Sl
 key:ByteArray
 til:ByteArray
 most:Int
 ks:Sl
structure ANn (N:Nat) (h:Heap) (x:ANe) (l:List Pr) (ks:List Int):Prop where
 bs:View Ak h x.bs l
 ks:View Eg h x.ks ks
 key:x.key.size≤N
theorem AHx {α:Type}{E:Enc α}{h:Heap}{s:Sl}{l:List α}(v:View E h s l)(hl:l≠ []){b:Nat}(hb:s.blk=some b):b<h.size:=by
 cases l with
 |nil=>exact absurd rfl hl
 |cons x l=>
  obtain⟨a,ha,hc⟩:=v.cells 0 x rfl
  have hp:=E.pos
  have hle:=E.len x
  obtain⟨u,hu⟩: ∃u,(E.enc x)[0]? =some u:=⟨_,List.getElem?_eq_getElem (by omega)⟩
  have:=UU (hc 0 u hu)
  rw[add_block,add_block] at this
  have e:a.block=b:=by simpa [Sl.blk,ha] using hb
  omega
section
variable {A : Amb} {B : Bud} {g h : Heap} {q : Hp} {k : Nat → Nat} {st : Db} {m : Bx} {D : BO} {age c : Nat} {R : Value → Heap → Prop}
theorem BC.put {age' c':Nat}(S:BC B g h q k st m D age c)(h1:age≤age')(h2:c≤c')(h3:c'≤B.C):BC B g h q k st m D age' c':=(S.age h1).more h2 h3
theorem BC.args(S:BC B g h q k st m D age c){s:Sl}{l:List Pr}(v:View Ak g s l):l≠ []→ ∀b,s.blk=some b→b<h.size∧k b=0:=fun hl b hb=>by
 have h1:=AHx v hl hb
 have:=S.mem.ext.size
 exact⟨by omega,S.base h1⟩
structure MapAt (h:Heap) (k:Nat→Nat) (bm:Nat) (sm:Sl) (mp:List Pr):Prop where
 cell:h[bm]? =some (.cells #[.slice sm.p sm.len sm.cap] Co (0,0))
 kz:k bm=0
 view:View Ak h sm mp
 blk: ∀c,sm.blk=some c→k c=0∧c<h.size∧c≠bm
theorem MapAt.lt {bm:Nat}{sm:Sl}{mp:List Pr}(M:MapAt h k bm sm mp):bm<h.size:=(Array.getElem?_eq_some_iff.1 M.cell).1
theorem MapAt.step {h':Heap}{k':Nat→Nat}{bm:Nat}{sm:Sl}{mp:List Pr}{S:Nat→Prop}(M:MapAt h k bm sm mp)(md:Mod S h h')(hS: ∀c,S c→k c≠0∨h.size≤c)(hk: ∀c,k' c≠0→k c≠0∨h.size≤c):MapAt h' k' bm sm mp:=by
 have hl:=M.lt
 have sz:=md.size
 have nk: ∀c,k c=0→c<h.size→k' c=0:=fun c h1 h2=>Decidable.byContradiction fun h3=>by
  rcases hk c h3 with h4|h4
  ·exact h4 h1
  ·omega
 have ns: ∀c,k c=0→c<h.size→ ¬S c:=fun c h1 h2 h3=>by
  rcases hS c h3 with h4|h4
  ·exact h4 h1
  ·omega
 exact⟨md.blk M.cell (ns _ M.kz hl),nk _ M.kz hl,M.view.mod md fun c hc=>ns _ (M.blk c hc).1 (M.blk c hc).2.1,fun c hc=>⟨nk _ (M.blk c hc).1 (M.blk c hc).2.1,by have:=(M.blk c hc).2.1;omega,(M.blk c hc).2.2⟩⟩
theorem MapAt.ext {h':Heap}{bm:Nat}{sm:Sl}{mp:List Pr}(M:MapAt h k bm sm mp)(x:Ext h h'):MapAt h' k bm sm mp:=M.step x (fun _ h=>h.elim) (fun _ h=> .inl h)
end
theorem AGw {A:Amb}{B:Bud}{g h:Heap}{q:Hp}{k:Nat→Nat}{st:Db}{m:Bx}{D:BO}{age c:Nat}{R:Value→Heap→Prop}{s:Sl}{l:List Pr}(E:Evn g)(S:BC B g h q k st m D age c)(fu:m.fuel= -1)(hA:age+3≤B.A)(hv:View Ak h s l)(hs:l≠ []→ ∀b,s.blk=some b→b<h.size∧k b=0)(hC:c+64≤B.C)
  (H: ∀h' q' k' st' m' D',q'.d=q.d→q'.b=q.b→BC B g h' q' k' st' m' D' (age+3) (c+64)→m'.fuel= -1→Bp st'=(if CQ l=0 then wrL (Bp st) l else Bp st)→(∀ y,¬Mine y→ff m' y=ff m y)→Mod (fun c=>k c≠0) h h'→(∀ c,k' c≠0→k c≠0∨h.size≤c)→R (.int .i64 (CQ l)) h'):
  AA A P FO #[Aq q.d,.slice s.p s.len s.cap] h R:=by
 by_cases hck:CQ l=0
 ·have hl:=(RN hck).1.len
  refine Yu (B:=B) (s:=s) E S hA hv hs (fun _=>by omega) (fun hne=>absurd hck hne) (fun _ h' m' fe=>absurd fu fe.fuel) (fun _ h' m' fe=>absurd fu fe.fuel) fun _ h7 q7 k7 st7 m7 D7 ed7 eb7 S7 sty7 wr7 ot7 md7 kk7=>?_
  have:=H h7 q7 k7 st7 m7 D7 ed7 eb7 (S7.put (Nat.le_refl _) (by omega) hC) (sty7.calm fu) (by rw[if_pos hck];exact wr7.map) ot7 md7 kk7
  rwa [hck] at this
 ·refine Yu (B:=B) (s:=s) E S hA hv hs (fun hz=>absurd hz hck) (fun hne h7 x7=>?_) (fun hz=>absurd hz hck) (fun hz=>absurd hz hck) (fun hz=>absurd hz hck)
  exact H h7 q k st m D rfl rfl ((S.on x7).put (by omega) (by omega) hC) fu (by rw[if_neg hck]) (fun _ _=>rfl) (x7.weak fun c _ hc=>hc.elim) fun c hc=> .inl hc
end Go.Lf.G

/-
 Arguments of the store's statements, opened.
-/
set_option maxRecDepth 100000
set_option linter.unusedVariables false
set_option linter.unusedSimpArgs false
namespace Go.Lf.G
open Go Go.ChangeShapes Go.WideShapes Go.ChangeAt Go.RowKit Go.Proofs.YtdmlhpjdmgaggaaGreatDoor
theorem Zj {H:Type}{d:DataW H}: ∀ {ds:List (DataW H)},d∈ds→Rows.uptoBulk d≤Rows.uptoBulkAll ds
 | [],h=>by cases h
 |x::l,h=>by
  unfold Rows.uptoBulkAll
  rcases List.mem_cons.1 h with rfl|h
  ·omega
  ·have:=Zj h;omega
theorem AMe:P.cellsOf AV=1:=by kernel_rfl
section
variable {H : Type} {enc : TypeId × Value → H} {w : World} {base : Nat} {spare : Nat → Bool} {held : Bool}
theorem AB4 {tS t:TypeId}{n:Nat}{cs:List Value}{x:DataW H×List MemPlace}(hT:P.underlying tS=some (.slice t))(h:DataW.trod enc P w base spare held n tS cs=some x): ∃s:Sl,cs= [.slice s.p s.len s.cap]:=by
 rcases Deep.open_slice hT h with⟨rfl,_⟩|⟨a,len',cap',m,n',D,Pl,rfl,_⟩
 ·exact⟨⟨none,0,0⟩,rfl⟩
 ·exact⟨⟨some a,len',cap'⟩,rfl⟩
end
def fieldsOf(P:Program)(t:TypeId):Option (List (TypeId×Nat)):=match P.underlying t with
 |some (.struct fs)=>some (fs.toList.map fun f=>(f.type,f.offset))
 |_=>none
section
variable {H : Type} {enc : TypeId × Value → H} {w : World} {base : Nat} {spare : Nat → Bool} {held : Bool}
theorem WU {t:TypeId}{fts:List (TypeId×Nat)}{n:Nat}{cs:List Value}{x:DataW H×List MemPlace}(ht:fieldsOf P t=some fts)(h:DataW.trod enc P w base spare held n t cs=some x):
  ∃(xs:List (DataW H×List MemPlace)) (m:Nat),x=(.agg (xs.map (·.1)),xs.flatMap (·.2))∧cs.length=P.cellsOf t∧xs.length=fts.length∧
   ∀(i:Nat) (f:TypeId×Nat),fts[i]? =some f→DataW.trod enc P w base spare held m f.1 ((cs.drop f.2).take (P.cellsOf f.1))=xs[i]? :=by
 unfold fieldsOf at ht
 split at ht
 ·rename_i fs hfs
  simp at ht
  subst ht
  obtain⟨xs,m,_,rfl,h1,h2,h3⟩:=DataW.trod_struct hfs h
  refine⟨xs,m,rfl,h1,by simpa using h2,fun i f hf=>?_⟩
  simp only[List.getElem?_map,Option.map_eq_some_iff,Array.getElem?_toList] at hf
  obtain⟨g,hg,rfl⟩:=hf
  exact h3 i g hg
 ·cases ht
end
end Go.Lf.G

/-
 Plain law, no program in sight: the keys that begin with a prefix lie between it and what is above it (chapter 10).
-/
set_option maxRecDepth 100000
set_option linter.unusedVariables false
set_option linter.unusedSimpArgs false
namespace Go.Lf
open Go
def abL:List UInt8→Option (List UInt8)
 | []=>none
 |a::p=>match abL p with
  |some q=>some (a::q)
  |none=>if a<255 then some [a+1] else none
theorem AHv {a b:UInt8}(h:a<255):b<a+1↔ ¬a<b:=by
 have h1:a.toNat<255:=UInt8.lt_iff_toNat_lt.1 h
 have e:(a+1).toNat=a.toNat+1:=by rw[UInt8.toNat_add];show(a.toNat+1) % 256=_;omega
 rw[UInt8.lt_iff_toNat_lt,UInt8.lt_iff_toNat_lt,e];omega
theorem AM1 {a b:UInt8}(h: ¬a<255): ¬a<b:=fun h2=>by
 rw[UInt8.lt_iff_toNat_lt] at h h2
 have:b.toNat<256:=b.toNat_lt
 have e:(255:UInt8).toNat=255:=rfl
 omega
theorem AHj: ∀(p k:List UInt8),(¬ k<p∧(∀ q,abL p=some q→k<q))↔p <+: k
 | [],k=>by simp[abL]
 |a::p,[]=>by
  constructor
  ·rintro⟨h,_⟩;exact absurd (List.nil_lt_cons a p) h
  ·intro h;exact absurd (List.prefix_nil.1 h) (by simp)
 |a::p,b::k=>by
  have ih:=AHj p k
  have hlt: ∀ {x y:UInt8} {l m:List UInt8},x::l<y::m↔x<y∨x=y∧l<m:=List.cons_lt_cons_iff
  rw[List.cons_prefix_cons,←ih]
  constructor
  ·rintro⟨h1,h2⟩
   have hba: ¬b<a:=fun h=>h1 (hlt.2 (.inl h))
   have hab: ¬a<b:=fun h=>by
    unfold abL at h2
    cases hp:abL p with
    |some q=>
     rw[hp] at h2
     rcases hlt.1 (h2 _ rfl) with h3|⟨h3,_⟩
     ·exact hba h3
     ·subst h3;exact UInt8.lt_irrefl _ h
    |none=>
     rw[hp] at h2
     by_cases ha:a<255
     ·have:=h2 [a+1] (by simp[ha])
      rcases hlt.1 this with h3|⟨_,h3⟩
      ·exact(AHv ha).1 h3 h
      ·exact absurd h3 (by simp)
     ·exact AM1 ha h
   have e:a=b:=by
    by_cases e:a=b
    ·exact e
    ·rcases UInt8.lt_or_lt_of_ne e with h|h
     ·exact absurd h hab
     ·exact absurd h hba
   subst e
   refine⟨rfl,fun h=>h1 (hlt.2 (.inr ⟨rfl,h⟩)),fun q hq=>?_⟩
   have:=h2 (a::q) (by unfold abL;rw[hq])
   rcases hlt.1 this with h3|⟨_,h3⟩
   ·exact absurd h3 (UInt8.lt_irrefl _)
   ·exact h3
  ·rintro⟨rfl,h1,h2⟩
   refine⟨fun h=>?_,fun q hq=>?_⟩
   ·rcases hlt.1 h with h3|⟨_,h3⟩
    ·exact absurd h3 (UInt8.lt_irrefl _)
    ·exact h1 h3
   ·unfold abL at hq
    cases hp:abL p with
    |some q'=>
     rw[hp] at hq
     obtain rfl:=Option.some.inj hq
     exact hlt.2 (.inr ⟨rfl,h2 q' hp⟩)
    |none=>
     rw[hp] at hq
     by_cases ha:a<255
     ·have e:q= [a+1]:=by simpa [ha] using hq.symm
      subst e
      exact hlt.2 (.inl ((AHv ha).2 (UInt8.lt_irrefl _)))
     ·simp [ha] at hq
theorem ACg: ∀ {p:List UInt8},(∀ x∈p,¬x<255)→abL p=none
 | [],_=>rfl
 |a::p,h=>by
  unfold abL
  rw[ACg fun x hx=>h x (List.mem_cons_of_mem _ hx)]
  simp[h a List.mem_cons_self]
theorem AL6: ∀ {p:List UInt8} {i:Nat} {a:UInt8},p[i]? =some a→a<255→(∀ x∈p.drop (i+1),¬x<255)→abL p=some (p.take i++ [a+1])
 | [],i,a,h,_,_=>by simp at h
 |b::p,0,a,h,ha,hd=>by
  simp at h
  subst h
  unfold abL
  rw[ACg (by simpa using hd)]
  simp[ha]
 |b::p,i+1,a,h,ha,hd=>by
  unfold abL
  rw[AL6 (p:=p) (i:=i) (a:=a) (by simpa using h) ha (by simpa using hd)]
  simp
def ALv(p k:ByteArray):Bool:=(p.data.toList).isPrefixOf k.data.toList
theorem AJP(p k:ByteArray):ALv p k=true↔p.data.toList <+: k.data.toList:=by unfold ALv;rw[List.isPrefixOf_iff_prefix]
end Go.Lf

/-
 Plain law: what a prefix tells (chapter 10).
-/
set_option maxRecDepth 100000
set_option linter.unusedVariables false
set_option linter.unusedSimpArgs false
namespace Go.Lf.G
open Go
def maxS(p f:ByteArray):ByteArray:=if sLt p f then f else p
theorem AMR(p f k:ByteArray):sLt k (maxS p f)=false↔sLt k p=false∧sLt k f=false:=by
 unfold maxS
 split
 ·rename_i h
  refine⟨fun h2=>⟨?_,h2⟩,fun h2=>h2.2⟩
  cases h3:sLt k p
  ·rfl
  ·rw [CZ h3 h] at h2;cases h2
 ·rename_i h
  refine⟨fun h2=>⟨h2,?_⟩,fun h2=>h2.1⟩
  exact VO (by simpa using h) h2
def L9(p:ByteArray):ByteArray:=⟨((abL p.data.toList).getD []).toArray⟩
theorem ANf: ∀ {p q:List UInt8},abL p=some q→q≠ []
 | [],q,h=>by cases h
 |a::p,q,h=>by
  unfold abL at h
  split at h
  ·obtain rfl:=Option.some.inj h;simp
  ·split at h
   ·obtain rfl:=Option.some.inj h;simp
   ·cases h
theorem AJv(p k:ByteArray):(decide (L9 p=⟨#[]⟩)||sLt k (L9 p))=true↔ ∀q,abL p.data.toList=some q→k.data.toList<q:=by
 unfold L9
 cases h:abL p.data.toList with
 |none=>simp
 |some q=>
  have hq:=ANf h
  have e:decide ((⟨(Option.getD (some q) []).toArray⟩:ByteArray)=⟨#[]⟩)=false:=decide_eq_false fun e=>hq (by
   have:=congrArg (fun b:ByteArray=>b.data.toList) e
   simpa using this)
  rw[e,Bool.false_or,Xa]
  simp
theorem ALi(p f k:ByteArray):ADP (maxS p f) (L9 p) k=(ALv p k&& !sLt k f):=by
 rw[Bool.eq_iff_iff]
 unfold ADP
 rw[Bool.and_eq_true,Bool.and_eq_true,AJv,Bool.not_eq_true',AMR,AJP,←AHj,Bool.not_eq_true']
 rw[show(sLt k p=false↔ ¬k.data.toList<p.data.toList) from by rw[Xa];simp]
 constructor
 ·rintro⟨⟨h1,h2⟩,h3⟩;exact⟨⟨h1,h3⟩,h2⟩
 ·rintro⟨⟨h1,h3⟩,h2⟩;exact⟨⟨h1,h2⟩,h3⟩
def AKu(m:List Pr)(p f:ByteArray)(most:Int):List Pr:=(m.filter fun x=>ALv p x.key&& !sLt x.key f).take most.toNat
theorem AE5(m:List Pr)(p f:ByteArray)(most:Int):Zn m (maxS p f) (L9 p) most=AKu m p f most:=by
 unfold Zn NH AKu
 rw[List.filter_congr fun x _=>ALi p f x.key]
def CL(m:List Pr)(c:Pr):Bool:=if c.gone then !(G6 m c.key).2 else(G6 m c.key).2&&decide ((G6 m c.key).1=c.val)
end Go.Lf.G

/-
 Contracts: a store of conditions over a calm box (chapter 10).
-/
set_option maxRecDepth 100000
set_option linter.unusedVariables false
set_option linter.unusedSimpArgs false
namespace Go.Lf.G
open Go
open M (Sorted Ag DR BJ Ai BD CV Ap OkL Ba atK Bc)
structure D6 (B:Bud) (g h:Heap) (s:Nat) (q:Hp) (k:Nat→Nat) (st:Db) (m:Bx) (D:BO) (age c n:Nat):Prop where
 db:BC B g h q k st m D age c
 cell:h[s]? =some (.cells #[Aq q.d,.int .i64 (n:Int)] Qu (0,0))
 kz:k s=0
 base:g.size≤s
 fuel:m.fuel= -1
 cnt:n≤1000000
def doC(m cl l:List Pr):Int:=if cl.length>64 then 2 else if CQ l≠0 then CQ l else if cl.all (CL m) then 0 else 100
theorem QI {m:List Pr}{c:Pr}:CL m c= !(((G6 m c.key).2==c.gone)||((G6 m c.key).2&& !sEq (G6 m c.key).1 c.val)):=by
 unfold CL
 rw[BZ]
 cases c.gone<;>cases (G6 m c.key).2<;>simp
section
variable {A : Amb} {B : Bud} {g h : Heap} {s : Nat} {q : Hp} {k : Nat → Nat} {st : Db} {m : Bx} {D : BO} {age c n : Nat} {R : Value → Heap → Prop}
theorem D6.on {h':Heap}(C:D6 B g h s q k st m D age c n)(x:Ext h h'):D6 B g h' s q k st m D age c n:=⟨C.db.on x,AU x C.cell,C.kz,C.base,C.fuel,C.cnt⟩
theorem D6.beside {h':Heap}{X:Nat→Prop}(C:D6 B g h s q k st m D age c n)(x:Mod X h h')(hX: ∀c,X c→k c=0∧g.size≤c)(hs: ¬X s):D6 B g h' s q k st m D age c n:=⟨C.db.beside x hX,x.blk C.cell hs,C.kz,C.base,C.fuel,C.cnt⟩
theorem D6.put {age' c':Nat}(C:D6 B g h s q k st m D age c n)(h1:age≤age')(h2:c≤c')(h3:c'≤B.C):D6 B g h s q k st m D age' c' n:=⟨C.db.put h1 h2 h3,C.cell,C.kz,C.base,C.fuel,C.cnt⟩
theorem D6.lt(C:D6 B g h s q k st m D age c n):s<h.size:=Ah C.cell
theorem D6.step {h':Heap}{q':Hp}{k':Nat→Nat}{st':Db}{m':Bx}{D':BO}{age' c':Nat}(C:D6 B g h s q k st m D age c n)(S:BC B g h' q' k' st' m' D' age' c')(hd:q'.d=q.d)(hf:m'.fuel= -1)(md:Mod (fun c=>k c≠0) h h')(kk: ∀c,k' c≠0→k c≠0∨h.size≤c):D6 B g h' s q' k' st' m' D' age' c' n:=by
 refine⟨S,by rw[hd];exact md.blk C.cell (by rw[C.kz];simp),Decidable.byContradiction fun h3=>?_,C.base,hf,C.cnt⟩
 have:=C.lt
 rcases kk s h3 with h4|h4
 ·exact h4 C.kz
 ·omega
theorem AIi(C:D6 B g h s q k st m D age c n)(H:R (.int .i64 (n:Int)) h):AA A P Gj #[Aq s] h R:=by
 refine SQ ?_
 unfold JS
 exact PIf.no rfl (atI (Aa.mk (AB C.cell rfl) H))
theorem AHa {key:ByteArray}(C:D6 B g h s q k st m D age c n)(hk:key.size≤1099511627776)(H: ∀h',Ext h h'→R (.tuple #[.string (G6 (Bp st) key).1,.bool (G6 (Bp st) key).2,.int .i64 0]) h'):AA A P F4 #[Aq s,.string key] h R:=by
 refine VX ?_
 unfold KZ
 refine PIf.no rfl (atI (AP.mk (AC C.cell rfl) ?_))
 obtain⟨l1,l2,l3,l4⟩:=C.db.frlen
 exact AFz C.db.mem l2 hk fun h' x=>⟨_,_,_,rfl,H h' x⟩
theorem AJQ {p:ByteArray}(hp:p.size≤1099511627776)(H: ∀h',Ext h h'→R (.string (L9 p)) h'):AA A P Mc #[.string p] h R:=by
 refine ACh ?_
 unfold QN
 have e0:IntKind.wrap .i64 ((p.size:Int)-(1:Int))=(p.size:Int)-1:=wrap_i64 (by omega) (by omega)
 rw[e0]
 have hsz:p.data.toList.length=p.size:=by rw[Array.length_toList];rfl
 refine Loop.rule (fun mm x hh=> ∃j:Nat,x=((j:Int)-1,())∧mm=j∧hh=h∧j≤p.size∧ ∀x∈p.data.toList.drop j,¬x<255) ?_ ⟨p.size,rfl,rfl,rfl,Nat.le_refl _,fun x hx=>by rw[List.drop_of_length_le (by omega)] at hx;cases hx⟩
 rintro K mm _ hh ⟨j,rfl,hmm,rfl,hj,hall⟩ hK
 dsimp only
 refine PIf.intro (fun hq=>?_) (fun hq=>?_)
 ·have hj1:1≤j:=by have:=of_decide_eq_true hq;omega
  obtain⟨i,rfl⟩: ∃i,j=i+1:=⟨j-1,by omega⟩
  have ei:((i+1:Nat):Int)-1=(i:Int):=by omega
  rw[ei]
  refine⟨by omega,?_⟩
  have hget:p.data.toList[i]? =some (p.data.toList[i]'(by omega)):=List.getElem?_eq_getElem _
  generalize hb:p.data.toList[i]'(by omega)=a at*
  have hat:sAt p (i:Int)=(a.toNat:Int):=by
   unfold sAt
   have:p[i]? =some a:=by
    rw[show p[i]? =p.data[i]? from rfl,←Array.getElem?_toList];exact hget
   rw[show((i:Int).toNat)=i from rfl,this];rfl
  rw[hat]
  have hdrop:p.data.toList.drop i=a::p.data.toList.drop (i+1):=by
   rw[List.drop_eq_getElem_cons (by omega),hb]
  refine PIf.intro (fun ha=>?_) (fun ha=>?_)
  ·have ha:a<255:=by rw[UInt8.lt_iff_toNat_lt];have:=of_decide_eq_true ha;show a.toNat<255;omega
   have ha2:a.toNat<255:=UInt8.lt_iff_toNat_lt.1 ha
   refine⟨by omega,⟨by omega,?_⟩⟩
   have ew:IntKind.wrap .u8 ((a.toNat:Int)+(1:Int))=((a+1).toNat:Int):=by
    rw[show(a.toNat:Int)+1=((a.toNat+1:Nat):Int) from by omega,wrap_u8]
    have e:(a+1).toNat=a.toNat+1:=by rw[UInt8.toNat_add];show(a.toNat+1) % 256=_;omega
    rw[e];omega
   rw[ew]
   refine New.mk fun h2 _ hb2 x2 s2=>?_
   have v2:View Gc h2 ⟨some ⟨hh.size,0,none⟩,1,1⟩ [a+1]:=(Own.lit (E:=Gc) (l:= [a+1]) hb2 rfl (by simp[maxLen])).view
   refine Jf (s:=⟨some ⟨hh.size,0,none⟩,1,1⟩) Ve AIG JY v2 ⟨_,rfl,?_⟩
   have e1:(AY [a+1]).size=1:=AQ _
   have e2:(p.extract 0 i).size≤p.size:=by rw[ByteArray.size_extract];omega
   refine⟨by rw[show(i:Int).toNat=i from rfl,e1];show(((p.extract 0 i).size+1:Nat):Int)≤9223372036854775807;omega,?_⟩
   have:=H h2 x2
   have eq:L9 p=p.extract 0 i++AY [a+1]:=by
    unfold L9
    rw[AL6 hget ha hall]
    apply ByteArray.ext
    rw[ByteArray.data_append,ByteArray.data_extract]
    apply Array.ext'
    rw[Array.toList_append,Array.toList_extract]
    show p.data.toList.take i++ [a+1]=_++(AY [a+1]).data.toList
    rw[show(AY [a+1]).data.toList= [a+1] from Cz _]
    simp
   rw[eq] at this
   exact this
  ·have ha: ¬a<255:=fun h=>by
    have:=UInt8.lt_iff_toNat_lt.1 h
    have e:(255:UInt8).toNat=255:=rfl
    have:=of_decide_eq_false ha
    omega
   rw[show IntKind.wrap .i64 ((i:Int)-(1:Int))=(i:Int)-1 from wrap_i64 (by omega) (by omega)]
   refine hK i _ _ (by omega) ⟨i,rfl,rfl,rfl,by omega,fun x hx=>?_⟩
   rw[hdrop] at hx
   rcases List.mem_cons.1 hx with rfl|hx
   ·exact ha
   ·exact hall x hx
 ·have hj0:j=0:=by have:=of_decide_eq_false hq;omega
  subst hj0
  have:=H hh Mod.refl
  have e:L9 p=⟨#[]⟩:=by unfold L9;rw[ACg (by simpa using hall)];rfl
  rw[e] at this
  exact this
theorem AKO {p f:ByteArray}{most:Int}(C:D6 B g h s q k st m D age c n)(hp:p.size≤1099511627776)(H: ∀sl h',Own Ak AO h' sl (AKu (Bp st) p f most)→(∀ c,sl.blk=some c→h.size≤c)→Ext h h'→R (.tuple #[.slice sl.p sl.len sl.cap,.int .i64 0]) h'):AA A P Ht #[Aq s,.string p,.string f,.int .i64 most] h R:=by
 refine Ue ?_
 unfold Jp
 refine PIf.no rfl (atI (AP.mk (AC C.cell rfl) ?_))
 refine AJQ hp fun h1 x1=>⟨_,rfl,⟨x1.hget (AC C.cell rfl),?_⟩⟩
 have C1:=C.on x1
 obtain⟨l1,l2,l3,l4⟩:=C1.db.frlen
 have e:(if(!sLt p f)=true then p else f)=maxS p f:=by unfold maxS;cases sLt p f<;>rfl
 rw[e]
 refine ALm C1.db.mem l1 l2 l3 fun sl h2 o2 b2 x2=>⟨sl,_,rfl,?_⟩
 rw[AE5] at o2
 exact H sl h2 o2 (fun c hc=>by have:=b2 c hc;have:=x1.size;omega) (x1.trans x2)
theorem AC5 {conds sl:Sl}{cl l:List Pr}(E:Evn g)(C:D6 B g h s q k st m D age c n)(hA:age+3≤B.A)(hC:c+64≤B.C)(hn:n+1≤1000000)(vc:View Ak h conds cl)(v:View Ak h sl l)(hs:l≠ []→ ∀b,sl.blk=some b→b<h.size∧k b=0)(hk: ∀x∈cl,x.key.size≤1099511627776)
  (He:doC (Bp st) cl l≠0→ ∀h',Ext h h'→R (.int .i64 (doC (Bp st) cl l)) h')
  (H1:doC (Bp st) cl l=0→ ∀h' q' k' st' m' D',q'.d=q.d→q'.b=q.b→D6 B g h' s q' k' st' m' D' (age+3) (c+64) (n+1)→Bp st'=wrL (Bp st) l→Mod (fun c=>k c≠0∨h.size≤c∨c=s) h h'→(∀ c,k' c≠0→k c≠0∨h.size≤c)→R (.int .i64 0) h'):
  AA A P CP #[Aq s,.slice conds.p conds.len conds.cap,.slice sl.p sl.len sl.cap] h R:=by
 refine PV ?_
 unfold I1
 refine PIf.no rfl ?_
 rw[vc.len]
 refine PIf.intro (fun hq=>?_) (fun hq=>?_)
 ·have h64:cl.length>64:=by have:=of_decide_eq_true hq;omega
  have e:doC (Bp st) cl l=2:=by unfold doC;rw[if_pos h64]
  have:=He (by rw[e];decide) h Mod.refl
  rwa [e] at this
 have h64: ¬cl.length>64:=by have:=of_decide_eq_false hq;omega
 refine ZY (s:=sl) v fun h1 x1=>⟨_,rfl,?_⟩
 refine PIf.intro (fun hz=>?_) (fun hz=>?_)
 ·have hck:CQ l≠0:=by simpa using hz
  have e:doC (Bp st) cl l=CQ l:=by unfold doC;rw[if_neg h64,if_pos hck]
  have:=He (by rw[e];exact hck) h1 x1
  rwa [e] at this
 have hck:CQ l=0:=by simpa using hz
 have e:doC (Bp st) cl l=if cl.all (CL (Bp st)) then 0 else 100:=by unfold doC;rw[if_neg h64,if_neg (by rw[hck];simp)]
 rw[e] at He H1
 refine Loop.rule (fun mm x hh=> ∃i:Nat,x=((i:Int),())∧mm=cl.length-i∧i≤cl.length∧Ext h hh∧(cl.take i).all (CL (Bp st))=true) ?_ ⟨0,rfl,rfl,Nat.zero_le _,x1,rfl⟩
 rintro K mm _ hh ⟨i,rfl,rfl,hi,xx,hall⟩ hK
 have Ch:=C.on xx
 dsimp only
 refine PIf.intro (fun hq=>?_) (fun hq=>?_)
 ·have hil:i<cl.length:=by have:=of_decide_eq_true hq;omega
  have hget:cl[i]? =some cl[i]:=List.getElem?_eq_getElem hil
  have hkc:=hk cl[i] (List.getElem_mem hil)
  have hmem:cl[i]∈cl:=List.getElem_mem hil
  have htk:cl.take (i+1)=cl.take i++ [cl[i]]:=by rw[List.take_add_one,hget];rfl
  generalize cl[i]=x at*
  rw[← vc.len]
  refine(vc.ext xx).idx hget fun a _ c0=>?_
  obtain⟨c0,c1,c2⟩:=c0.pair
  refine AL.mk c0 (AL.mk c1 (Ab.mk c2 (New.pair fun b h3 eb3 hb3 x3 s3=>?_)))
  have C3:=Ch.on x3
  refine atI (AP.mk (AC C3.cell rfl) (AL.mk (AC hb3 rfl) ?_))
  obtain⟨l1,l2,l3,l4⟩:=C3.db.frlen
  refine AFz C3.db.mem l2 hkc fun h7 x7=>⟨_,_,_,rfl,PIf.no rfl ?_⟩
  have hb7:=AU x7 hb3
  have xh7:=(xx.trans x3).trans x7
  refine Join.mk fun K1 hK1=>?_
  have hh:=QI (m:=Bp st) (c:=x)
  have bad:CL (Bp st) x=false→K1 (true,()) h7:=fun hf=>hK1 _ _ (PIf.yes rfl (by
   have hne: ¬cl.all (CL (Bp st))=true:=fun h=>by
    have:=List.all_eq_true.1 h x hmem
    rw[hf] at this;cases this
   rw[if_neg hne] at He
   exact He (by decide) h7 xh7))
  have good:CL (Bp st) x=true→K1 (false,()) h7:=fun hf=>hK1 _ _ (PIf.no rfl (by
   rw[AR (by omega)]
   refine hK (cl.length-(i+1)) _ _ (by omega) ⟨i+1,rfl,rfl,hil,xh7,?_⟩
   rw[htk,List.all_append,hall]
   simp[hf]))
  refine Ab.mk (AB hb7 rfl) (PIf.intro (fun h1=>?_) (fun h1=>?_))
  ·exact bad (by rw[hh,h1];rfl)
  ·refine PIf.intro (fun h2=>?_) (fun h2=>?_)
   ·refine AL.mk (AB hb7 rfl) ?_
    cases h3:sEq (G6 (Bp st) x.key).1 x.val with
    |true=>exact good (by rw[hh,h1,h2,h3];rfl)
    |false=>exact bad (by rw[hh,h1,h2,h3];rfl)
   ·exact good (by rw[hh,h1,h2];rfl)
 ·have hil:i=cl.length:=by have:=of_decide_eq_false hq;omega
  subst hil
  rw[List.take_length] at hall
  rw[if_pos hall] at H1
  have szh:=xx.size
  refine atI (AP.mk (AC Ch.cell rfl) ?_)
  refine AGw (B:=B) (s:=sl) E Ch.db C.fuel hA (v.ext xx) (fun hne b hb=>by have:=hs hne b hb;exact⟨by omega,this.2⟩) hC fun h9 q9 k9 st9 m9 D9 ed9 eb9 S9 fu9 mp9 ot9 md9 kk9=>⟨_,rfl,?_⟩
  rw[if_pos hck] at mp9
  have C9:=Ch.step S9 ed9 fu9 md9 kk9
  rw[hck]
  refine PIf.no rfl (atI (Aa.mk (AB C9.cell rfl) (atI ?_)))
  rw[AR (by have:=C.cnt;omega)]
  simp only[Bg,Nat.zero_add]
  refine Store.mk C9.cell (by simp) fun h10 hb10 md10 s10=>?_
  have C10:D6 B g h10 s q9 k9 st9 m9 D9 (age+3) (c+64) (n+1):=⟨S9.beside md10 (fun c hc=>by subst hc;exact⟨C9.kz,C.base⟩),by simpa using hb10,C9.kz,C.base,fu9,hn⟩
  have hb:=C.base
  refine H1 rfl h10 q9 k9 st9 m9 D9 ed9 eb9 C10 mp9 (((xx.weak fun c _ hc=>hc.elim).trans (md9.weak fun c _ hc=> .inl hc)).trans (md10.weak fun c _ hc=> .inr (.inr hc))) fun c hc=>?_
  rcases kk9 c hc with h|h
  ·exact .inl h
  ·exact .inr (by omega)
end
end Go.Lf.G

/-
 Contracts: the document's store of conditions (chapter 10).
-/
set_option maxRecDepth 100000
set_option linter.unusedVariables false
set_option linter.unusedSimpArgs false
namespace Go.Lf.G
open Go
open M (Sorted Ag DR BJ Ai BD CV Ap OkL Ba atK Bc)
section
variable {A : Amb} {h : Heap} {R : Value → Heap → Prop}
theorem AIf {s:Sl}{m:List Pr}{n:Int}{x:Pr}(v:View Ak h s m)(hs:Sorted m)(hl:m.length≤1099511627776)(H: ∀h',Ext h h'→R (.bool (CL m x)) h'):AA A P DX #[.agg #[.slice s.p s.len s.cap,.int .i64 n],.agg #[.string x.key,.string x.val,.bool x.gone]] h R:=by
 refine Lr ?_
 unfold Em
 refine New.mk fun h1 _ hb1 x1 s1=>New.mk fun h2 _ hb2 x2 s2=>?_
 have x02:=x1.trans x2
 refine AZ.mk (s:=s) (AC (AU x2 hb1) rfl) (AL.mk (AC hb2 rfl) ?_)
 refine ALz (s:=s) (v.ext x02) hs hl fun h3 x3=>⟨_,_,rfl,?_⟩
 have hb3:=AU x3 hb2
 have x03:=x02.trans x3
 have hH:=H h3 x03
 have hh:=QI (m:=m) (c:=x)
 refine Ab.mk (AB hb3 rfl) (PIf.intro (fun q1=>?_) (fun q1=>?_))
 ·have e:CL m x= !(G6 m x.key).2:=by unfold CL;rw[if_pos q1]
  rwa [e] at hH
 ·refine PIf.intro (fun q2=>?_) (fun q2=>?_)
  ·refine AL.mk (AB hb3 rfl) ?_
   have e:CL m x=sEq (G6 m x.key).1 x.val:=by unfold CL;rw[if_neg (by rw[q1];decide),q2,BZ];rfl
   rwa [e] at hH
  ·have e:CL m x=false:=by unfold CL;rw[if_neg (by rw[q1];decide),q2];rfl
   rwa [e] at hH
def doM(m cl l:List Pr):List Pr:=if doC m cl l=0 then wrL m l else m
def doN(m cl l:List Pr)(n:Nat):Nat:=if doC m cl l=0 then n+1 else n
theorem AMS {s conds sl:Sl}{m cl l:List Pr}{n:Nat}(v:View Ak h s m)(hb: ∀c,s.blk=some c→c<h.size)(vc:View Ak h conds cl)(vl:View Ak h sl l)(hs:Sorted m)(hm:m.length≤900000)(hn:n≤1000000)
  (H: ∀s' h',View Ak h' s' (doM m cl l)→(∀ c,s'.blk=some c→s.blk=some c∨(h.size≤c∧c<h'.size))→Ext h h'→R (.tuple #[.agg #[.slice s'.p s'.len s'.cap,.int .i64 (doN m cl l n:Int)],.int .i64 (doC m cl l)]) h'):
  AA A P EN #[.agg #[.slice s.p s.len s.cap,.int .i64 (n:Int)],.slice conds.p conds.len conds.cap,.slice sl.p sl.len sl.cap] h R:=by
 refine NU ?_
 unfold Fj
 refine New.mk fun h1 _ hb1 x1 s1=>New.mk fun h2 _ hb2 x2 s2=>?_
 have x02:=x1.trans x2
 have c1:=AU x2 hb1
 have sz1:=x1.size
 have sz2:=x2.size
 have lay: ∀hh (s':Sl) (n' code:Int),Ext h2 hh→(∀ h',Mod (fun c=>c=h1.size) hh h'→R (.tuple #[.agg #[.slice s'.p s'.len s'.cap,.int .i64 n'],.int .i64 code]) h')→
   Store hh (⟨h1.size,0,none⟩:Addr) (.slice s'.p s'.len s'.cap) fun h3=>Store h3 ((⟨h1.size,0,none⟩:Addr).add 1) (.int .i64 n') fun h4=>AZ h4 (⟨h1.size,0,none⟩:Addr) fun res_0=>Aa .i64 h4 ((⟨h1.size,0,none⟩:Addr).add 1) fun res_1=>R (.tuple #[.agg #[.slice res_0.p res_0.len res_0.cap,.int .i64 res_1],.int .i64 code]) h4:=by
  intro hh s' n' code xx HR
  have cb:=AU xx hb2
  simp only[Bg,Nat.zero_add]
  refine Store.mk cb (by simp) fun h3 hb3 m3 s3=>Store.mk hb3 (by simp) fun h4 hb4 m4 s4=>?_
  have hb4:h4[h1.size]? =some (.cells #[.slice s'.p s'.len s'.cap,.int .i64 n'] BG (0,0)):=by simpa using hb4
  refine AZ.mk (s:=s') (AC hb4 rfl) (Aa.mk (AC hb4 rfl) ?_)
  exact HR h4 (m3.trans m4)
 have stay:doC m cl l≠0→ ∀hh,Ext h2 hh→ ∀h',Mod (fun c=>c=h1.size) hh h'→R (.tuple #[.agg #[.slice s.p s.len s.cap,.int .i64 (n:Int)],.int .i64 (doC m cl l)]) h':=by
  intro hne hh xx h' md
  have sz:=md.size
  have szx:=xx.size
  have e1:doM m cl l=m:=if_neg hne
  have e2:doN m cl l n=n:=if_neg hne
  have:=H s h' (by rw[e1];exact((v.ext x02).ext xx).mod md fun c hc e=>by have:=hb c hc;omega) (fun c hc=> .inl hc) ((x02.trans xx).then (md.weak fun c _ hc=> .inr (by omega)))
  rwa [e2] at this
 rw[vc.len]
 refine PIf.intro (fun hq=>?_) (fun hq=>?_)
 ·have h64:cl.length>64:=by have:=of_decide_eq_true hq;omega
  have e:doC m cl l=2:=by unfold doC;rw[if_pos h64]
  refine AZ.mk (s:=s) (AC c1 rfl) (Aa.mk (AB c1 rfl) (lay h2 s (n:Int) 2 Mod.refl fun h' md=>?_))
  have:=stay (by rw[e];decide) h2 Mod.refl h' md
  rwa [e] at this
 have h64: ¬cl.length>64:=by have:=of_decide_eq_false hq;omega
 refine AIn (s:=sl) (vl.ext x02) fun h5 x5=>⟨_,rfl,?_⟩
 have c5:=AU x5 c1
 refine PIf.intro (fun hz=>?_) (fun hz=>?_)
 ·have hck:CQ l≠0:=by simpa using hz
  have e:doC m cl l=CQ l:=by unfold doC;rw[if_neg h64,if_pos hck]
  refine AZ.mk (s:=s) (AC c5 rfl) (Aa.mk (AB c5 rfl) (lay h5 s (n:Int) (CQ l) x5 fun h' md=>?_))
  have:=stay (by rw[e];exact hck) h5 x5 h' md
  rwa [e] at this
 have hck:CQ l=0:=by simpa using hz
 have hl64:=(RN hck).1.len
 have e:doC m cl l=if cl.all (CL m) then 0 else 100:=by unfold doC;rw[if_neg h64,if_neg (by rw[hck];simp)]
 refine Loop.rule (fun mm x hh=> ∃i:Nat,x=((i:Int),())∧mm=cl.length-i∧i≤cl.length∧Ext h2 hh∧(cl.take i).all (CL m)=true) ?_ ⟨0,rfl,rfl,Nat.zero_le _,x5,rfl⟩
 rintro K mm _ hh ⟨i,rfl,rfl,hi,xx,hall⟩ hK
 have ch:=AU xx c1
 have xh:=x02.trans xx
 dsimp only
 refine PIf.intro (fun hq=>?_) (fun hq=>?_)
 ·have hil:i<cl.length:=by have:=of_decide_eq_true hq;omega
  have hget:cl[i]? =some cl[i]:=List.getElem?_eq_getElem hil
  have hmem:cl[i]∈cl:=List.getElem_mem hil
  have htk:cl.take (i+1)=cl.take i++ [cl[i]]:=by rw[List.take_add_one,hget];rfl
  generalize cl[i]=x at*
  rw[← vc.len]
  refine AZ.mk (s:=s) (AC ch rfl) (Aa.mk (AB ch rfl) ((vc.ext xh).idx hget fun a _ c0=>?_))
  obtain⟨p0,p1,p2⟩:=c0.pair
  refine AL.mk p0 (AL.mk p1 (Ab.mk p2 ?_))
  refine AIf (s:=s) (x:=x) (v.ext xh) hs (by omega) fun h9 x9=>⟨_,rfl,?_⟩
  have x29:=xx.trans x9
  have c9:=AU x9 ch
  refine PIf.intro (fun hf=>?_) (fun ht=>?_)
  ·have hf:CL m x=false:=by simpa using hf
   have e1:doC m cl l=100:=by
    rw[e,if_neg fun h=>by
     have:=List.all_eq_true.1 h x hmem
     rw[hf] at this;cases this]
   refine AZ.mk (s:=s) (AC c9 rfl) (Aa.mk (AB c9 rfl) (lay h9 s (n:Int) 100 x29 fun h' md=>?_))
   have:=stay (by rw[e1];decide) h9 x29 h' md
   rwa [e1] at this
  ·have ht:CL m x=true:=by simpa using ht
   rw[AR (by omega)]
   refine hK (cl.length-(i+1)) _ _ (by omega) ⟨i+1,rfl,rfl,hil,x29,?_⟩
   rw[htk,List.all_append,hall]
   simp[ht]
 ·have hil:i=cl.length:=by have:=of_decide_eq_false hq;omega
  subst hil
  rw[List.take_length] at hall
  rw[if_pos hall] at e
  refine AZ.mk (s:=s) (AC ch rfl) ?_
  refine AH7 (s:=s) (sb:=sl) (v.ext xh) (vl.ext xh) (by omega) fun s' h12 v12 b12 x12=>⟨s',rfl,?_⟩
  have szx:=xx.size
  have sz12:=x12.size
  refine Aa.mk (AB (AU x12 ch) rfl) ⟨AB ch rfl,?_⟩
  rw[AR (by omega)]
  refine lay h12 s' ((n+1:Nat):Int) 0 (xx.trans x12) fun h' md=>?_
  have szm:=md.size
  have:=H s' h' (by
   rw[show doM m cl l=wrL m l from if_pos e]
   exact v12.mod md fun c hc e=>by
    rcases b12 c hc with h|h
    ·have:=hb c h;omega
    ·omega) (fun c hc=>by
   rcases b12 c hc with h|h
   ·exact .inl h
   ·exact .inr ⟨by omega,by omega⟩) ((xh.trans x12).then (md.weak fun c _ hc=> .inr (by omega)))
  rw[e,show doN m cl l n=n+1 from if_pos e] at this
  exact this
end
end Go.Lf.G

