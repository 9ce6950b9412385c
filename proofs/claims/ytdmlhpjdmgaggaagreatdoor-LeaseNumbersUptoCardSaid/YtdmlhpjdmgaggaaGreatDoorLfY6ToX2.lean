/-
 Contract: a table is built.
-/
import Derived.Test.YtdmlhpjdmgaggaaGreatDoorLfY1ToY5
import Derived.Shelf.SlGeneric
import Derived.Shelf.SlIter.Nil
import Derived.Shelf.SlIter.Sorted
import Derived.Shelf.SortM.Plain
import Derived.Shelf.SortM.SortNone
import Derived.Test.YtdmlhpjdmgaggaaGreatDoorProg
import Derived.Test.YtdmlhpjdmgaggaaGreatDoorLfV1ToB1
import Derived.Test.YtdmlhpjdmgaggaaGreatDoorLfU1ToU4
import Derived.Test.YtdmlhpjdmgaggaaGreatDoorLfS1aToU20
set_option linter.unusedVariables false
set_option linter.unusedSimpArgs false
set_option maxRecDepth 100000
set_option linter.unusedVariables false
set_option linter.unusedSimpArgs false
namespace Go.Lf.G
open Go
def Gg(l:List Pr):List ByteArray:=l.map (·.key)
def AEh(l:List Pr):Nat:=min (l.length+8) 8192
def KD(l:List Pr):List UInt8:=Ym (Gg l) (AEh l)
def Hq(l:List Pr):List UInt8:=wraps (framesT l (KD l))
def FQ(ks:List ByteArray):List UInt8:=ks.flatMap fun k=>Cb (bl k)
structure FR (l:List Pr):Prop where
 ne:l≠ []
 ok: ∀p∈l,JW p
 inc:l.Pairwise fun p q=>sLt p.key q.key=true
 many:l.length≤100000
theorem FR.tabS {l:List Pr}(T:FR l):YD (Hq l) l (KD l):=by
 have h1:1≤AEh l∧AEh l≤8192:=by unfold AEh;omega
 refine⟨rfl,T.ne,T.ok,T.inc,?_,fun p hp=>AJK h1.1 h1.2 (List.mem_map_of_mem hp),T.many⟩
 unfold KD
 rw[AJT h1.1]
 exact h1
theorem RF: ∀ {rs:List (List UInt8)},(∀ r∈rs,r.length≤1048576)→(wraps rs).length≤rs.length*1048590
 | [],_=>by simp
 |r::rs,h=>by
  have h1:=(GH (h r List.mem_cons_self)).2
  have h2:=h r List.mem_cons_self
  have h3:=RF (rs:=rs) fun x hx=>h x (List.mem_cons_of_mem _ hx)
  simp only[wraps,List.flatMap_cons,List.length_append,List.length_cons] at h3 ⊢
  omega
theorem Nb: ∀ {ks:List ByteArray},(∀ k∈ks,k.size≤64)→(FQ ks).length≤ks.length*74
 | [],_=>by simp[FQ]
 |k::ks,h=>by
  have h2:=h k List.mem_cons_self
  have h1:=Af (n:=(bl k).length) (by rw[Be];omega)
  have h3:=Nb (ks:=ks) fun x hx=>h x (List.mem_cons_of_mem _ hx)
  have h4:=Be k
  simp only[FQ,List.flatMap_cons,List.length_append,List.length_cons,Cb] at h3 ⊢
  omega
theorem MR {l:List Pr}(ho: ∀p∈l,JW p): ∀k∈Bo l,k.size≤64:=fun k hk=>by
 obtain⟨i,_,rfl⟩:=List.mem_map.1 hk
 unfold Gf
 split
 ·rename_i p hp
  exact(ho p (List.mem_of_getElem? hp)).keyMost
 ·exact Nat.zero_le _
theorem Nj {l:List Pr}(ho: ∀p∈l,JW p){i:Nat}(hi:i<BP l):(Aw (BV l i)).length≤8*8276:=by
 have h1:=Jm (l:=BV l i) fun p hp=>ho p (Mh hp)
 have h2:=(OA hi).2.1
 have:(BV l i).length*8276≤8*8276:=Nat.mul_le_mul_right _ h2
 omega
theorem Zw {l:List Pr}(ho: ∀p∈l,JW p): ∀r∈(Ir l).map Aw,r.length≤1048576:=fun r hr=>by
 obtain⟨b,hb,rfl⟩:=List.mem_map.1 hr
 obtain⟨i,hi,rfl⟩:=List.mem_map.1 hb
 have:=Nj ho (List.mem_range.1 hi)
 omega
theorem AKm {l:List Pr}{i:Nat}(hi:i<BP l):((Ir l).map Aw)[i]? =some (Aw (BV l i)):=by simp[Ir,hi]
theorem PI {l:List Pr}{i:Nat}(hi:i<BP l):(Bo l)[i]? =some (Gf l (8*i)):=by simp[Bo,hi]
theorem Qm {α:Type}{l:List α}{i:Nat}{x:α}(h:l[i]? =some x):l.take (i+1)=l.take i++ [x]:=by rw[List.take_add_one,h];rfl
theorem ABV(a b:List Pr):Gg (a++b)=Gg a++Gg b:=by simp[Gg]
theorem ABY {l:List Pr}(h:l.Pairwise fun p q=>sLt p.key q.key=true){i:Nat}{p q:Pr}(hp:l[i]? =some p)(hq:l[i+1]? =some q):sLt p.key q.key=true:=by
 obtain⟨h1,rfl⟩:=List.getElem?_eq_some_iff.1 hp
 obtain⟨h2,rfl⟩:=List.getElem?_eq_some_iff.1 hq
 exact List.pairwise_iff_getElem.1 h _ _ h1 h2 (by omega)
theorem AGO(n:Nat)(h:n≤100000):(if(8192:Int)<(IntKind.wrap .i64 (((n:Nat):Int)+(8:Int))) then(8192:Int) else(IntKind.wrap .i64 (((n:Nat):Int)+(8:Int))))=((min (n+8) 8192:Nat):Int):=by
 rw[wrap_i64 (by omega) (by omega)]
 split<;>omega
theorem AI1 {A:Amb}{h:Heap}{s:Sl}{l:List Pr}{R:Value→Heap→Prop}(T:FR l)(hv:View Ak h s l)(hb: ∀b,s.blk=some b→b<h.size)
  (H: ∀h',Ext h h'→R (.tuple #[.string (AY (Hq l)),.int .i64 0]) h'):AA A P Jz #[.slice s.p s.len s.cap] h R:=by
 refine Yn ?_
 unfold NT
 have hpos:=List.length_pos_iff.2 T.ne
 have hmany:=T.many
 refine PIf.no (by rw[hv.len];simp;exact T.ne) ?_
 refine Loop.rule (fun m x hh=> ∃i:Nat,x=(⟨#[]⟩,0,(i:Int),())∧m=l.length-i∧i≤l.length∧Ext h hh) ?_ ⟨0,rfl,rfl,by omega,Mod.refl⟩
 rintro K m _ g ⟨i,rfl,rfl,hi,xg⟩ hK
 dsimp only
 have hvg:=hv.ext xg
 refine PIf.intro (fun hq=>?_) (fun hq=>?_)
 ·have hil:i<l.length:=by rw[hv.len] at hq;simp at hq;omega
  have hx:l[i]? =some l[i]:=List.getElem?_eq_getElem hil
  have hox:=T.ok _ (List.getElem_mem hil)
  generalize l[i]=x at hx hox
  have hkm:=hox.keyMost
  have hvm:=hox.valMost
  refine hvg.idx hx fun a ha hc=>?_
  obtain⟨c0,c1,c2⟩:=hc.pair
  rw[Int.toNat_natCast]
  refine AL.mk c0 (AL.mk c1 (Ab.mk c2 ?_))
  refine New.pair fun b h5 hbe hb5 x5 hs5=>?_
  refine Join.mk fun K1 hK1=>?_
  refine AL.mk (AC hb5 rfl) (PIf.no (AI5 hox.key) ?_)
  have last:K1 (false,()) h5:=by
   refine hK1 _ _ (PIf.no rfl ?_)
   refine Join.mk fun K2 hK2=>?_
   refine AL.mk (AC hb5 rfl) (PIf.no (by simp;omega) ?_)
   refine AL.mk (AB hb5 rfl) ?_
   refine hK2 _ _ (PIf.no (by simp;omega) ?_)
   rw[AR (by omega)]
   exact hK (l.length-(i+1)) _ _ (by omega) ⟨i+1,rfl,rfl,hil,xg.trans x5⟩
  have prev:PIf (decide (((i:Nat):Int)>(0:Int))) (AL h5 (⟨b,0,none⟩:Addr) fun t49=>
     Idx s.p s.len (IntKind.wrap .i64 (((i:Nat):Int)-(1:Int))) fun a1=>
     AL h5 (a1.add ((IntKind.wrap .i64 (((i:Nat):Int)-(1:Int))).toNat*3)) fun t55=>
     K1 ((sLt t49 t55||sEq t49 t55),()) h5) (K1 (false,()) h5):=by
   refine PIf.intro (fun hq1=>?_) (fun _=>last)
   have hi0:0<i:=by simp at hq1;omega
   obtain⟨k,rfl⟩: ∃k,i=k+1:=⟨i-1,by omega⟩
   have ew:IntKind.wrap .i64 (((k+1:Nat):Int)-(1:Int))=(k:Int):=by rw[wrap_i64 (by omega) (by omega)];omega
   have hk:l[k]? =some l[k]:=List.getElem?_eq_getElem (by omega)
   refine AL.mk (AC hb5 rfl) ?_
   rw[ew]
   refine(hvg.ext x5).idx hk fun a1 ha1 hc1=>?_
   rw[Int.toNat_natCast]
   refine AL.mk hc1.pair.1 ?_
   have hlt:=ABY T.inc hk hx
   have e:(sLt x.key l[k].key||sEq x.key l[k].key)=false:=by
    rw[Bool.or_eq_false_iff]
    refine⟨?_,?_⟩
    ·cases hs:sLt x.key l[k].key with
     |false=>rfl
     |true=>have:=CZ hlt hs;rw[Bb] at this;cases this
    ·rw [BZ,decide_eq_false_iff_not]
     intro e
     rw[e,Bb] at hlt;cases hlt
   rw[e]
   exact last
  refine Ab.mk (AB hb5 rfl) (PIf.intro (fun hg=>?_) (fun _=>prev))
  refine AL.mk (AB hb5 rfl) (PIf.no ?_ prev)
  rw[UT,OG (hox.gone hg)]
  rfl
 ·clear hK
  have hsl:=hv.len
  refine New.mk fun h8 _ hb8 x8 hs8=>?_
  refine New.mk fun h9 _ hb9 x9 hs9=>?_
  refine New.mk fun h10 _ hb10 x10 hs10=>?_
  refine Store.mk hb10 (by simp) fun h11 hb11 m11 hs11=>?_
  refine New.mk fun h12 _ hb12 x12 hs12=>?_
  refine Store.mk hb12 (by simp) fun h13 hb13 m13 hs13=>?_
  have z8:h8.size=g.size+1:=hs8
  have z9:h9.size=g.size+2:=by omega
  have z11:h11.size=g.size+3:=by omega
  have z13:h13.size=g.size+4:=by omega
  rw[z8] at hb9
  rw[z9] at hb10 m11 hb11
  rw[z11] at hb12 m13 hb13
  rw[z8,z9,z11]
  refine AJ9 hv.cap (by omega) fun fv h14 x14 hs14 hc0 hc1 it=>⟨_,rfl,?_⟩
  rw[z13] at hs14 hc0 hc1 it
  generalize hBd:g.size=B at*
  have hEd: ∃E:Nat→Obj→Prop,E=fun c o=>(c=B+4∧o= .cells #[.slice s.p s.len s.cap] AV (0,0))∨(c=B+5∧o= .cells #[.int .i64 8] BL (0,0)):=⟨_,rfl⟩
  obtain⟨E,hE⟩:=hEd
  have xx:Ext g h14:=by
   refine⟨by have:=x14.size;omega,fun c hc _=>?_⟩
   rw[hBd] at hc
   exact(x14.get c (by omega) (fun h=>h)).trans ((m13.get c (by omega) (by omega)).trans ((x12.get c (by omega) (fun h=>h)).trans ((m11.get c (by omega) (by omega)).trans ((x10.get c (by omega) (fun h=>h)).trans ((x9.get c (by omega) (fun h=>h)).trans (x8.get c (by omega) (fun h=>h)))))))
  have k8:h14[B]? =some (.cells #[.pointer none,.slice none 0 0] Cn (0,0)):=
   x14.blk (m13.blk (x12.blk (m11.blk (x10.blk (x9.blk hb8 (fun h=>h)) (fun h=>h)) (by omega)) (fun h=>h)) (by omega)) (fun h=>h)
  have k9:h14[B+1]? =some (.cells #[.slice none 0 0] Bf (0,0)):=
   x14.blk (m13.blk (x12.blk (m11.blk (x10.blk hb9 (fun h=>h)) (by omega)) (fun h=>h)) (by omega)) (fun h=>h)
  have k10:h14[B+2]? =some (.cells #[.string (AY [])] Ad (0,0)):=by
   have hb11':h11[B+2]? =some (.cells #[.string (AY [])] Ad (0,0)):=by rw[AER];simpa using hb11
   exact x14.blk (m13.blk (x12.blk hb11' (fun h=>h)) (by omega)) (fun h=>h)
  have k12:h14[B+3]? =some (.cells #[.int .i64 ((0:Nat):Int)] BL (0,0)):=by
   have hb13':h13[B+3]? =some (.cells #[.int .i64 ((0:Nat):Int)] BL (0,0)):=by simpa using hb13
   exact x14.blk hb13' (fun h=>h)
  have bs0:BS g B E [] [] [] 0 h14:=by
   refine⟨ALb k8 (Nat.le_refl _),⟨⟨none,0,0⟩,k9,Own.nil,fun c hc=>by simp[Sl.blk] at hc⟩,k10,k12,fun c o hc=>?_,xx.mod⟩
   subst hE
   rcases hc with⟨rfl,rfl⟩|⟨rfl,rfl⟩
   ·exact hc0
   ·exact hc1
  have okE:EOk B E:=by
   subst hE
   refine⟨fun c o hc cs fz=>?_,fun c o hc cs fz=>?_,fun c o hc=>?_⟩
   ·rcases hc with⟨rfl,rfl⟩|⟨rfl,rfl⟩<;>exact J9 (by decide) _ _
   ·rcases hc with⟨rfl,rfl⟩|⟨rfl,rfl⟩<;>exact J9 (by decide) _ _
   ·rcases hc with⟨rfl,rfl⟩|⟨rfl,rfl⟩<;>omega
  have notE: ∀d o,B+6≤d→ ¬E d o:=by
   subst hE
   rintro d o hd (⟨rfl,_⟩|⟨rfl,_⟩)<;>omega
  have hnb:(chunks s).length=BP l:=by rw[PH,hsl];rfl
  have hnb2:BP l≤12501:=by unfold BP;omega
  have hsz14:h14.size=B+6:=by omega
  have hbB: ∀b,s.blk=some b→b<B:=fun b hbb=>by have:=hb b hbb;have:=xg.size;omega
  refine AMx it (fun i hh=>BS g B E (wraps (((Ir l).map Aw).take i)) (Gg (l.take (8*i))) (FQ ((Bo l).take i)) i hh) ?_ ?_ ?_ ?_ ?_
  ·intro i hh hI c hc
   subst hE
   rcases hc with rfl|rfl
   ·exact(hI.fix _ _ (.inl ⟨rfl,rfl⟩)).trans hc0.symm
   ·exact(hI.fix _ _ (.inr ⟨rfl,rfl⟩)).trans hc1.symm
  ·rintro i hh o hI hdf ⟨o',ho'⟩
   exact hI.lp (by omega) (fun o=>notE _ _ (by omega)) ho' o
  ·intro rec
   exact bs0.ext ((Mod.push h14 _).trans (Mod.push _ _))
  ·intro i x hh rec kn' kj' hx hI hdf hlp hst hkn
   have hin:i<BP l:=by have:=(List.getElem?_eq_some_iff.1 hx).1;omega
   have hxe:x=NS s i:=by
    have:=YQ (s:=s) (i:=i) (by rw[hsl];exact hin)
    rw[this] at hx
    exact(Option.some.inj hx).symm
   subst hxe
   rw[hsz14] at hdf hlp ⊢
   refine⟨rec,hlp,hst,?_⟩
   obtain⟨E',hE'⟩: ∃E':Nat→Obj→Prop,E'=fun c o=>E c o∨(c=B+6∧o= .deferred (some []))∨(c=B+6+1∧o= .loop {rec with state:= .busy}):=⟨_,rfl⟩
   have okE':EOk B E':=by
    subst hE'
    refine⟨fun c o hc cs fz=>?_,fun c o hc cs fz=>?_,fun c o hc=>?_⟩
    ·rcases hc with h|⟨rfl,rfl⟩|⟨rfl,rfl⟩
     ·exact okE.u8 c o h cs fz
     ·intro e;cases e
     ·intro e;cases e
    ·rcases hc with h|⟨rfl,rfl⟩|⟨rfl,rfl⟩
     ·exact okE.str c o h cs fz
     ·intro e;cases e
     ·intro e;cases e
    ·rcases hc with h|⟨rfl,rfl⟩|⟨rfl,rfl⟩
     ·exact okE.lt c o h
     ·omega
     ·omega
   have hI1:=hI.lp (d:=B+6+1) (by omega) (fun o=>notE _ _ (by omega)) hlp {rec with state:= .busy}
   have hI2:BS g B E' (wraps (((Ir l).map Aw).take i)) (Gg (l.take (8*i))) (FQ ((Bo l).take i)) i (hh.setIfInBounds (B+6+1) (.loop {rec with state:= .busy})):=by
    refine⟨hI1.bld,hI1.keys,hI1.ix,hI1.cnt,fun c o hc=>?_,hI1.old⟩
    subst hE'
    rcases hc with h|⟨rfl,rfl⟩|⟨rfl,rfl⟩
    ·exact hI1.fix c o h
    ·rw [Array.getElem?_setIfInBounds_ne (by omega)];exact hdf
    ·exact Bt (Ah hlp)
   generalize hh.setIfInBounds (B+6+1) (.loop {rec with state:= .busy})=g0 at hI2
   have hbl:=OA hin
   have hob: ∀p∈BV l i,JW p:=fun p hp=>T.ok p (Mh hp)
   have vch: ∀ {hh:Heap} {out:List UInt8} {kl:List ByteArray} {ix:List UInt8} {n:Nat},BS g B E' out kl ix n hh→View Ak hh (NS s i) (BV l i):=fun b=>
    View.chunk (hvg.mod b.old (fun c hc=>by have:=hbB c hc;omega)) hin
   have hcl:(NS s i).len=(BV l i).length:=(vch hI2).len
   have houtl:=RF (rs:=((Ir l).map Aw).take i) fun r hr=>Zw T.ok r (List.mem_of_mem_take hr)
   have hixl:=Nb (ks:=(Bo l).take i) fun k hk=>MR T.ok k (List.mem_of_mem_take hk)
   rw[List.length_take] at houtl hixl
   have hbp:=Nj T.ok hin
   refine Loop.rule (fun m x hh=> ∃j:Nat,x=(AY (Aw ((BV l i).take j)),(j:Int),())∧m=(BV l i).length-j∧j≤(BV l i).length∧
    BS g B E' (wraps (((Ir l).map Aw).take i)) (Gg (l.take (8*i))++Gg ((BV l i).take j)) (FQ ((Bo l).take i)) i hh) ?_ ⟨0,rfl,rfl,by omega,by simpa [Gg] using hI2⟩
   rintro K3 m _ h17 ⟨j,rfl,rfl,hj,bs⟩ hK3
   dsimp only[AMg]
   refine PIf.intro (fun hq=>?_) (fun hq=>?_)
   ·have hjl:j<(BV l i).length:=by have hq:((j:Nat):Int)<(((NS s i).len:Nat):Int):=of_decide_eq_true hq;omega
    have hx:(BV l i)[j]? =some (BV l i)[j]:=List.getElem?_eq_getElem hjl
    have hox:=hob _ (List.getElem_mem hjl)
    generalize (BV l i)[j]=p at hx hox
    have htk:=Qm hx
    refine(vch bs).idx hx fun a ha hc=>?_
    obtain⟨c0,c1,c2⟩:=hc.pair
    rw[Int.toNat_natCast]
    refine AL.mk c0 (AL.mk c1 (Ab.mk c2 ?_))
    refine New.pair fun b5 h21 hbe hb5 x21 hs21=>?_
    have bs1:=bs.ext x21
    obtain⟨ks,e1,e2,e3⟩:=bs1.keys
    refine AZ.mk (s:=ks) (AC e1 rfl) ?_
    refine AL.mk (AC hb5 rfl) ?_
    have hb5B:B+3<b5:=by have:=Ah bs.cnt;omega
    have hkl:(Gg (l.take (8*i))++Gg ((BV l i).take j)).length≤100010:=by
     rw[List.length_append];simp only[Gg,List.length_map,List.length_take];omega
    refine New.append1 (E:=F9) (x:=p.key) rfl X9 e2 (by omega) (by simp only[maxLen];omega) fun s' h23 o23 m23 hn23 hp23=>?_
    have e1':h23[B+1]? =some (.cells #[.slice ks.p ks.len ks.cap] Bf (0,0)):=m23.blk e1 (fun h=>by have:=e3 _ h;omega)
    refine Store.mk e1' (by simp) fun h24 hb24 m24 hs24=>?_
    have e3': ∀c,s'.blk=some c→B+3<c:=fun c hc=>by
     rcases hn23 c hc with h|h
     ·exact e3 c h
     ·have:=Ah bs1.cnt;omega
    have bs2:BS g B E' _ (Gg (l.take (8*i))++Gg ((BV l i).take j)++ [p.key]) _ i h24:=
     bs1.key okE' (ks':=s') e1 e2 e3 ((m23.weak fun c _ hc=> .inl hc).trans (m24.weak fun c _ hc=> .inr hc)) (by simpa using hb24) (o23.mod m24 (fun c hc h=>by have:=e3' c hc;omega)) e3'
    have k5:h24[b5]? =some (.cells #[.string p.key,.string p.val,.bool p.gone] AO (0,0)):=m24.blk (m23.blk hb5 (fun h=>e2.ne hb5 (by decide) h)) (by omega)
    refine AL.mk (AC k5 rfl) (AL.mk (AB k5 rfl) (Ab.mk (AB k5 rfl) ?_))
    refine AJe (x:=p) hox fun h25 x25=>⟨_,rfl,?_⟩
    have hpl:Aw ((BV l i).take (j+1))=Aw ((BV l i).take j)++Gl p:=by rw[htk];simp[Aw]
    have lt:=Jm (l:=(BV l i).take j) fun q hq=>hob q (List.mem_of_mem_take hq)
    rw[List.length_take] at lt
    have lp:=(OB hox).2
    have hkm:=hox.keyMost
    have hvm:=hox.valMost
    refine⟨by rw[AQ,AQ,max_i64];omega,?_⟩
    rw[CF,←hpl,AR (by omega)]
    refine hK3 ((BV l i).length-(j+1)) _ _ (by omega) ⟨j+1,rfl,rfl,hjl,?_⟩
    have bs3:=bs2.ext x25
    have:Gg ((BV l i).take (j+1))=Gg ((BV l i).take j)++ [p.key]:=by rw[htk,ABV];rfl
    rw[this,←List.append_assoc]
    exact bs3
   ·have hjl:j=(BV l i).length:=by have hq: ¬((j:Nat):Int)<(((NS s i).len:Nat):Int):=of_decide_eq_false hq;omega
    have et:(BV l i).take j=BV l i:=by rw[hjl];simp
    rw[et] at bs ⊢
    refine Yd (by omega) (fun h=>by omega) fun hlen h26 x26=>⟨_,_,rfl,?_⟩
    have bs1:=bs.ext x26
    have hwl:=GH hlen
    refine QR bs1.bld (by have:=Ah bs1.cnt;omega) (by rw[AQ];omega) fun h27 b27 m27=>⟨_,_,rfl,?_⟩
    have bs2:=bs1.write okE' b27 m27
    rw[IU] at bs2
    refine AL.mk (AC bs2.ix rfl) ?_
    have h0:(BV l i)[0]? =some (BV l i)[0]:=List.getElem?_eq_getElem (by omega)
    have hk0:Gf l (8*i)=(BV l i)[0].key:=by
     have:=Nn (l:=l) (i:=i) (j:=0) (by omega)
     rw[h0] at this
     unfold Gf
     rw[Nat.add_zero] at this
     rw[← this]
    have hox0:=hob _ (List.getElem_mem (show 0<(BV l i).length by omega))
    generalize (BV l i)[0]=p0 at h0 hk0 hox0
    obtain⟨a4,ha4,hc4⟩:=(vch bs2).cells 0 p0 h0
    refine Idx.mk (k:=0) ha4 (by rw[hcl];omega) ?_
    rw[Nat.zero_mul,add_zero] at hc4
    refine AL.mk (n:=p0.key) (by show hget h27 (a4.add 0)=_;rw[add_zero];exact hc4.pair.1) ?_
    have hkm:=hox0.keyMost
    refine RB (by omega) fun h28 x28=>⟨_,rfl,?_⟩
    have bs3:=bs2.ext x28
    refine⟨AC bs3.ix rfl,?_⟩
    have l10:=Af (n:=(bl p0.key).length) (by rw[Be];omega)
    have lk:=Be p0.key
    refine⟨by rw[AQ,AQ,max_i64];simp only[Cb,List.length_append];omega,?_⟩
    rw[CF]
    refine Store.mk bs3.ix (by simp) fun h29 hb29 m29 hs29=>?_
    have bs4:=bs3.ixs okE' (ix':=FQ ((Bo l).take i)++Cb (bl p0.key)) m29 (by simpa using hb29)
    refine Aa.mk (AC bs4.cnt rfl) ?_
    rw[AR (by omega)]
    refine Store.mk bs4.cnt (by simp) fun h30 hb30 m30 hs30=>?_
    have bs5:=bs4.cnts okE' (n':=i+1) m30 (by simpa using hb30)
    have ew:wraps (((Ir l).map Aw).take (i+1))=wraps (((Ir l).map Aw).take i)++CE (Aw (BV l i)):=by
     rw[Qm (AKm hin)];simp[wraps]
    have ek:Gg (l.take (8*(i+1)))=Gg (l.take (8*i))++Gg (BV l i):=by rw[← ABV,ADv]
    have ef:FQ ((Bo l).take (i+1))=FQ ((Bo l).take i)++Cb (bl p0.key):=by
     rw[Qm (PI hin),hk0];simp[FQ]
    subst hE'
    refine hkn h30 ?_ ?_ ?_
    ·rw [ew,ek,ef]
     exact⟨bs5.bld,bs5.keys,bs5.ix,bs5.cnt,fun c o hc=>bs5.fix c o (.inl hc),bs5.old⟩
    ·rw [hsz14];exact bs5.fix _ _ (.inr (.inl ⟨rfl,rfl⟩))
    ·rw [hsz14];exact bs5.fix _ _ (.inr (.inr ⟨rfl,rfl⟩))
  ·intro h31 hI hdf
   rw[hnb] at hI
   have e1:((Ir l).map Aw).take (BP l)=(Ir l).map Aw:=List.take_of_length_le (by simp[FW])
   have e2:l.take (8*BP l)=l:=List.take_of_length_le (by unfold BP;omega)
   have e3:(Bo l).take (BP l)=Bo l:=List.take_of_length_le (by simp[Fx])
   rw[e1,e2,e3] at hI
   rw[hsz14] at hdf ⊢
   obtain⟨E',hE'⟩: ∃E':Nat→Obj→Prop,E'=fun c o=>E c o∨(c=B+6∧o= .deferred (some [])):=⟨_,rfl⟩
   have okE':EOk B E':=by
    subst hE'
    refine⟨fun c o hc cs fz=>?_,fun c o hc cs fz=>?_,fun c o hc=>?_⟩
    ·rcases hc with h|⟨rfl,rfl⟩
     ·exact okE.u8 c o h cs fz
     ·intro e;cases e
    ·rcases hc with h|⟨rfl,rfl⟩
     ·exact okE.str c o h cs fz
     ·intro e;cases e
    ·rcases hc with h|⟨rfl,rfl⟩
     ·exact okE.lt c o h
     ·omega
   have bs:BS g B E' (wraps ((Ir l).map Aw)) (Gg l) (FQ (Bo l)) (BP l) h31:=by
    refine⟨hI.bld,hI.keys,hI.ix,hI.cnt,fun c o hc=>?_,hI.old⟩
    subst hE'
    rcases hc with h|⟨rfl,rfl⟩
    ·exact hI.fix c o h
    ·exact hdf
   obtain⟨ks,k1,k2,k3⟩:=bs.keys
   refine AZ.mk (s:=ks) (AC k1 rfl) (AZ.mk (s:=ks) (AC k1 rfl) ?_)
   have hkl:ks.len=l.length:=by rw[k2.len];simp[Gg]
   have hfn:1≤AEh l∧AEh l≤8192:=by unfold AEh;omega
   have tS:=T.tabS
   have hfl:=tS.flen
   rw[hkl,AGO _ T.many]
   rw[show((min (l.length+8) 8192:Nat):Int)=((AEh l:Nat):Int) from rfl,←hkl]
   refine AKw (ks:=Gg l) k2.view (fun k hk=>?_) hfn.1 hfn.2 (by simp[Gg];omega) (fun b hb=>k2.lt hb) fun h33 x33=>⟨_,_,rfl,?_⟩
   ·obtain⟨p,hp,rfl⟩:=List.mem_map.1 hk
    have:=(T.ok p hp).keyMost;omega
   have bs1:=bs.ext x33
   refine Aa.mk (AC bs1.cnt rfl) ?_
   rw[CU (by omega)]
   refine Fu (by omega) fun h34 x34=>⟨_,rfl,?_⟩
   have bs2:=bs1.ext x34
   refine AL.mk (AC bs2.ix rfl) ⟨AC bs1.ix rfl,?_⟩
   have l1:=Af (n:=BP l) (by omega)
   have hixl:=Nb (ks:=Bo l) (MR T.ok)
   rw[Fx] at hixl
   refine⟨by rw[AQ,AQ,max_i64];omega,?_⟩
   rw[hsl,CU (by omega)]
   refine Fu (by omega) fun h35 x35=>⟨_,rfl,?_⟩
   have bs3:=bs2.ext x35
   have l2:=Af (n:=l.length) (by omega)
   refine⟨AC bs3.ix rfl,?_⟩
   rw[CF]
   refine⟨by rw[AQ,AQ,max_i64];simp only[List.length_append];omega,?_⟩
   refine YY (l:=KD l) (by omega) fun h36 x36=>⟨_,rfl,?_⟩
   have bs4:=bs3.ext x36
   have l3:=Af (n:=(KD l).length) (by omega)
   refine⟨AC bs4.ix rfl,?_⟩
   rw[CF,CF]
   have ltx:(Cb (KD l)).length=(CK (KD l).length).length+(KD l).length:=by simp[Cb]
   refine⟨by rw[AQ,AQ,max_i64];simp only[List.length_append];omega,?_⟩
   have efoot:CK (BP l)++FQ (Bo l)++CK l.length++Cb (KD l)=SA l (KD l):=by
    unfold SA FQ;simp only[List.append_assoc]
   rw[efoot]
   have hft:=Tp tS
   refine Yd (by omega) (fun h=>by omega) fun hlen h37 x37=>⟨_,_,rfl,PIf.no rfl ?_⟩
   have bs5:=bs4.ext x37
   have houtl:=RF (rs:=(Ir l).map Aw) (Zw T.ok)
   rw[List.length_map,FW] at houtl
   have hwl:=GH hlen
   refine QR bs5.bld (by have:=Ah bs5.cnt;omega) (by rw[AQ];omega) fun h38 b38 m38=>⟨_,_,rfl,?_⟩
   have bs6:=bs5.write okE' b38 m38
   rw[IU] at bs6
   refine AF1 bs6.bld (by have:=Ah bs6.cnt;omega) fun h39 b39 m39=>⟨_,rfl,?_⟩
   have bs7:=bs6.write okE' b39 m39
   have efr:wraps ((Ir l).map Aw)++CE (SA l (KD l))=Hq l:=by unfold Hq framesT;simp[wraps]
   have k6:h39[B+6]? =some (.deferred (some [])):=bs7.fix _ _ (by subst hE';exact .inr ⟨rfl,rfl⟩)
   refine⟨k6,?_⟩
   rw[efr]
   refine H _ ⟨?_,fun c hc _=>?_⟩
   ·have:=bs7.old.size;have:=xg.size;simp;omega
   ·have:=xg.size
    rw[Array.getElem?_setIfInBounds_ne (by omega)]
    exact(bs7.old.get c (by omega) (by omega)).trans (xg.get c hc (fun h=>h))
end Go.Lf.G

/-
 The contracts of maps.Keys, slices.Sorted and slices.Sort at this translation (printed by the kit's lay-plain.mjs).
-/
namespace Go.Proofs
open Go.Shelf
def Tryz.keysA_ren:Go.Shelf.Ren:=⟨fun|7=>48|10=>90|n=>n,fun|23=>88|26=>9|3=>103|28=>101|0=>0|27=>100|33=>107|4=>4|n=>n,fun|n=>n⟩
theorem Tryz.keysA:Go.Proofs.SlLaysZ.n7 Tryz.prog Tryz.keysA_ren:= {
 mixed:=by kernel_rfl
 f7:=⟨Tryz.f48.name,by decide,Tryz.func48.trans (congrArg some (by kernel_rfl))⟩
 f10:=⟨Tryz.f90.name,by decide,Tryz.func90.trans (congrArg some (by kernel_rfl))⟩
 t0:=Tryz.underlying0
 a0:=Tryz.isAgg0
 z0:=Tryz.sizeOf0
 v0:=Tryz.zeroValue0
 t4:=Tryz.underlying4
 a4:=Tryz.isAgg4
 z4:=Tryz.sizeOf4
 v4:=Tryz.zeroValue4
 t23:=Tryz.underlying88
 a23:=Tryz.isAgg88
 z23:=Tryz.sizeOf88
 v23:=Tryz.zeroValue88
 t26:=Tryz.underlying9
 a26:=Tryz.isAgg9
 z26:=Tryz.sizeOf9
 v26:=Tryz.zeroValue9
 t27:=Tryz.underlying100
 a27:=Tryz.isAgg100
 z27:=Tryz.sizeOf100
 v27:=Tryz.zeroValue100
 t28:=Tryz.underlying101
 a28:=Tryz.isAgg101
 z28:=Tryz.sizeOf101
 v28:=Tryz.zeroValue101
 t33:=Tryz.underlying107
 a33:=Tryz.isAgg107
 z33:=Tryz.sizeOf107
 v33:=Tryz.zeroValue107}
def Tryz.sortedA_ren:Go.Shelf.Ren:=⟨fun|6=>47|8=>88|9=>89|11=>127|13=>129|12=>128|23=>163|24=>164|14=>154|15=>155|16=>156|17=>157|18=>158|19=>159|20=>160|21=>161|22=>162|25=>181|26=>182|27=>183|28=>184|29=>185|30=>186|31=>208|n=>n,fun|26=>9|28=>101|24=>23|0=>0|3=>3|37=>41|48=>204|50=>81|4=>4|40=>223|39=>222|45=>95|5=>5|9=>9|51=>246|55=>249|57=>269|58=>139|33=>107|n=>n,fun|n=>n⟩
theorem Tryz.sortedA:Go.Proofs.SlLaysZ.n6 Tryz.prog Tryz.sortedA_ren:= {
 mixed:=by kernel_rfl
 f6:=⟨Tryz.f47.name,by decide,Tryz.func47.trans (congrArg some (by kernel_rfl))⟩
 f8:=⟨Tryz.f88.name,by decide,Tryz.func88.trans (congrArg some (by kernel_rfl))⟩
 f11:=⟨Tryz.f127.name,by decide,Tryz.func127.trans (congrArg some (by kernel_rfl))⟩
 t0:=Tryz.underlying0
 a0:=Tryz.isAgg0
 z0:=Tryz.sizeOf0
 v0:=Tryz.zeroValue0
 t24:=Tryz.underlying23
 a24:=Tryz.isAgg23
 z24:=Tryz.sizeOf23
 v24:=Tryz.zeroValue23
 t26:=Tryz.underlying9
 a26:=Tryz.isAgg9
 z26:=Tryz.sizeOf9
 v26:=Tryz.zeroValue9
 t28:=Tryz.underlying101
 a28:=Tryz.isAgg101
 z28:=Tryz.sizeOf101
 v28:=Tryz.zeroValue101
 i26:=by kernel_rfl}
def Tryz.sortA_ren:Go.Shelf.Ren:=⟨fun|6=>89|8=>129|9=>128|19=>163|20=>164|21=>154|22=>155|23=>156|24=>157|25=>158|26=>159|27=>160|28=>161|29=>162|36=>181|31=>182|32=>183|37=>184|38=>185|39=>186|41=>208|n=>n,fun|27=>23|29=>9|3=>3|32=>41|26=>23|0=>0|44=>204|46=>81|4=>4|36=>223|35=>222|41=>95|5=>5|9=>9|53=>246|57=>249|63=>269|64=>139|n=>n,fun|n=>n⟩
theorem Tryz.sortA:Go.Proofs.SlLaysM.n6 Tryz.prog Tryz.sortA_ren:= {
 mixed:=by kernel_rfl
 f6:=⟨Tryz.f89.name,by decide,Tryz.func89.trans (congrArg some (by kernel_rfl))⟩
 f8:=Tryz.func129.trans (congrArg some (by kernel_rfl))
 f9:=⟨Tryz.f128.name,by decide,Tryz.func128.trans (congrArg some (by kernel_rfl))⟩
 f19:=Tryz.func163.trans (congrArg some (by kernel_rfl))
 f20:=Tryz.func164.trans (congrArg some (by kernel_rfl))
 f21:=⟨Tryz.f154.name,by decide,Tryz.func154.trans (congrArg some (by kernel_rfl))⟩
 f22:=⟨Tryz.f155.name,by decide,Tryz.func155.trans (congrArg some (by kernel_rfl))⟩
 f23:=⟨Tryz.f156.name,by decide,Tryz.func156.trans (congrArg some (by kernel_rfl))⟩
 f24:=⟨Tryz.f157.name,by decide,Tryz.func157.trans (congrArg some (by kernel_rfl))⟩
 f25:=⟨Tryz.f158.name,by decide,Tryz.func158.trans (congrArg some (by kernel_rfl))⟩
 f26:=⟨Tryz.f159.name,by decide,Tryz.func159.trans (congrArg some (by kernel_rfl))⟩
 f27:=⟨Tryz.f160.name,by decide,Tryz.func160.trans (congrArg some (by kernel_rfl))⟩
 f28:=⟨Tryz.f161.name,by decide,Tryz.func161.trans (congrArg some (by kernel_rfl))⟩
 f29:=⟨Tryz.f162.name,by decide,Tryz.func162.trans (congrArg some (by kernel_rfl))⟩
 f31:=Tryz.func182.trans (congrArg some (by kernel_rfl))
 f32:=Tryz.func183.trans (congrArg some (by kernel_rfl))
 f36:=⟨Tryz.f181.name,by decide,Tryz.func181.trans (congrArg some (by kernel_rfl))⟩
 f37:=⟨Tryz.f184.name,by decide,Tryz.func184.trans (congrArg some (by kernel_rfl))⟩
 f38:=⟨Tryz.f185.name,by decide,Tryz.func185.trans (congrArg some (by kernel_rfl))⟩
 f39:=⟨Tryz.f186.name,by decide,Tryz.func186.trans (congrArg some (by kernel_rfl))⟩
 f41:=⟨Tryz.f208.name,by decide,Tryz.func208.trans (congrArg some (by kernel_rfl))⟩
 t0:=Tryz.underlying0
 a0:=Tryz.isAgg0
 z0:=Tryz.sizeOf0
 v0:=Tryz.zeroValue0
 t3:=Tryz.underlying3
 a3:=Tryz.isAgg3
 z3:=Tryz.sizeOf3
 v3:=Tryz.zeroValue3
 t4:=Tryz.underlying4
 a4:=Tryz.isAgg4
 z4:=Tryz.sizeOf4
 v4:=Tryz.zeroValue4
 t5:=Tryz.underlying5
 a5:=Tryz.isAgg5
 z5:=Tryz.sizeOf5
 v5:=Tryz.zeroValue5
 t9:=Tryz.underlying9
 a9:=Tryz.isAgg9
 z9:=Tryz.sizeOf9
 v9:=Tryz.zeroValue9
 t26:=Tryz.underlying23
 a26:=Tryz.isAgg23
 z26:=Tryz.sizeOf23
 v26:=Tryz.zeroValue23
 t27:=Tryz.underlying23
 a27:=Tryz.isAgg23
 z27:=Tryz.sizeOf23
 v27:=Tryz.zeroValue23
 t29:=Tryz.underlying9
 a29:=Tryz.isAgg9
 z29:=Tryz.sizeOf9
 v29:=Tryz.zeroValue9
 t32:=Tryz.underlying41
 a32:=Tryz.isAgg41
 z32:=Tryz.sizeOf41
 v32:=Tryz.zeroValue41
 t35:=Tryz.underlying222
 a35:=Tryz.isAgg222
 z35:=Tryz.sizeOf222
 v35:=Tryz.zeroValue222
 t36:=Tryz.underlying223
 a36:=Tryz.isAgg223
 z36:=Tryz.sizeOf223
 v36:=Tryz.zeroValue223
 t41:=Tryz.underlying95
 a41:=Tryz.isAgg95
 z41:=Tryz.sizeOf95
 v41:=Tryz.zeroValue95
 t44:=Tryz.underlying204
 a44:=Tryz.isAgg204
 z44:=Tryz.sizeOf204
 v44:=Tryz.zeroValue204
 t46:=Tryz.underlying81
 a46:=Tryz.isAgg81
 z46:=Tryz.sizeOf81
 v46:=Tryz.zeroValue81
 t53:=Tryz.underlying246
 a53:=Tryz.isAgg246
 z53:=Tryz.sizeOf246
 v53:=Tryz.zeroValue246
 t57:=Tryz.underlying249
 a57:=Tryz.isAgg249
 z57:=Tryz.sizeOf249
 v57:=Tryz.zeroValue249
 t63:=Tryz.underlying269
 a63:=Tryz.isAgg269
 z63:=Tryz.sizeOf269
 v63:=Tryz.zeroValue269
 t64:=Tryz.underlying139
 a64:=Tryz.isAgg139
 z64:=Tryz.sizeOf139
 v64:=Tryz.zeroValue139}
def Tryz.sortI_ren:Go.Shelf.Ren:=⟨fun|5=>131|8=>129|7=>167|19=>163|20=>164|10=>189|11=>190|12=>191|13=>192|14=>193|15=>194|16=>195|17=>196|18=>197|30=>211|31=>182|32=>183|33=>212|34=>213|35=>214|40=>220|n=>n,fun|23=>61|25=>3|3=>3|32=>41|22=>61|0=>0|44=>204|46=>81|4=>4|36=>223|35=>222|41=>95|5=>5|9=>9|53=>246|57=>249|63=>269|64=>139|n=>n,fun|n=>n⟩
theorem Tryz.sortI:Go.Proofs.SlLaysM.n5 Tryz.prog Tryz.sortI_ren:= {
 mixed:=by kernel_rfl
 f5:=⟨Tryz.f131.name,by decide,Tryz.func131.trans (congrArg some (by kernel_rfl))⟩
 f7:=⟨Tryz.f167.name,by decide,Tryz.func167.trans (congrArg some (by kernel_rfl))⟩
 f8:=Tryz.func129.trans (congrArg some (by kernel_rfl))
 f10:=⟨Tryz.f189.name,by decide,Tryz.func189.trans (congrArg some (by kernel_rfl))⟩
 f11:=⟨Tryz.f190.name,by decide,Tryz.func190.trans (congrArg some (by kernel_rfl))⟩
 f12:=⟨Tryz.f191.name,by decide,Tryz.func191.trans (congrArg some (by kernel_rfl))⟩
 f13:=⟨Tryz.f192.name,by decide,Tryz.func192.trans (congrArg some (by kernel_rfl))⟩
 f14:=⟨Tryz.f193.name,by decide,Tryz.func193.trans (congrArg some (by kernel_rfl))⟩
 f15:=⟨Tryz.f194.name,by decide,Tryz.func194.trans (congrArg some (by kernel_rfl))⟩
 f16:=⟨Tryz.f195.name,by decide,Tryz.func195.trans (congrArg some (by kernel_rfl))⟩
 f17:=⟨Tryz.f196.name,by decide,Tryz.func196.trans (congrArg some (by kernel_rfl))⟩
 f18:=⟨Tryz.f197.name,by decide,Tryz.func197.trans (congrArg some (by kernel_rfl))⟩
 f19:=Tryz.func163.trans (congrArg some (by kernel_rfl))
 f20:=Tryz.func164.trans (congrArg some (by kernel_rfl))
 f30:=⟨Tryz.f211.name,by decide,Tryz.func211.trans (congrArg some (by kernel_rfl))⟩
 f31:=Tryz.func182.trans (congrArg some (by kernel_rfl))
 f32:=Tryz.func183.trans (congrArg some (by kernel_rfl))
 f33:=⟨Tryz.f212.name,by decide,Tryz.func212.trans (congrArg some (by kernel_rfl))⟩
 f34:=⟨Tryz.f213.name,by decide,Tryz.func213.trans (congrArg some (by kernel_rfl))⟩
 f35:=⟨Tryz.f214.name,by decide,Tryz.func214.trans (congrArg some (by kernel_rfl))⟩
 f40:=⟨Tryz.f220.name,by decide,Tryz.func220.trans (congrArg some (by kernel_rfl))⟩
 t0:=Tryz.underlying0
 a0:=Tryz.isAgg0
 z0:=Tryz.sizeOf0
 v0:=Tryz.zeroValue0
 t3:=Tryz.underlying3
 a3:=Tryz.isAgg3
 z3:=Tryz.sizeOf3
 v3:=Tryz.zeroValue3
 t4:=Tryz.underlying4
 a4:=Tryz.isAgg4
 z4:=Tryz.sizeOf4
 v4:=Tryz.zeroValue4
 t5:=Tryz.underlying5
 a5:=Tryz.isAgg5
 z5:=Tryz.sizeOf5
 v5:=Tryz.zeroValue5
 t9:=Tryz.underlying9
 a9:=Tryz.isAgg9
 z9:=Tryz.sizeOf9
 v9:=Tryz.zeroValue9
 t22:=Tryz.underlying61
 a22:=Tryz.isAgg61
 z22:=Tryz.sizeOf61
 v22:=Tryz.zeroValue61
 t23:=Tryz.underlying61
 a23:=Tryz.isAgg61
 z23:=Tryz.sizeOf61
 v23:=Tryz.zeroValue61
 t25:=Tryz.underlying3
 a25:=Tryz.isAgg3
 z25:=Tryz.sizeOf3
 v25:=Tryz.zeroValue3
 t32:=Tryz.underlying41
 a32:=Tryz.isAgg41
 z32:=Tryz.sizeOf41
 v32:=Tryz.zeroValue41
 t35:=Tryz.underlying222
 a35:=Tryz.isAgg222
 z35:=Tryz.sizeOf222
 v35:=Tryz.zeroValue222
 t36:=Tryz.underlying223
 a36:=Tryz.isAgg223
 z36:=Tryz.sizeOf223
 v36:=Tryz.zeroValue223
 t41:=Tryz.underlying95
 a41:=Tryz.isAgg95
 z41:=Tryz.sizeOf95
 v41:=Tryz.zeroValue95
 t44:=Tryz.underlying204
 a44:=Tryz.isAgg204
 z44:=Tryz.sizeOf204
 v44:=Tryz.zeroValue204
 t46:=Tryz.underlying81
 a46:=Tryz.isAgg81
 z46:=Tryz.sizeOf81
 v46:=Tryz.zeroValue81
 t53:=Tryz.underlying246
 a53:=Tryz.isAgg246
 z53:=Tryz.sizeOf246
 v53:=Tryz.zeroValue246
 t57:=Tryz.underlying249
 a57:=Tryz.isAgg249
 z57:=Tryz.sizeOf249
 v57:=Tryz.zeroValue249
 t63:=Tryz.underlying269
 a63:=Tryz.isAgg269
 z63:=Tryz.sizeOf269
 v63:=Tryz.zeroValue269
 t64:=Tryz.underlying139
 a64:=Tryz.isAgg139
 z64:=Tryz.sizeOf139
 v64:=Tryz.zeroValue139}
end Go.Proofs

/-
 Contracts: the box (chapter 3): the names in their order; List; Crash.
-/
set_option maxRecDepth 100000
set_option linter.unusedVariables false
set_option linter.unusedSimpArgs false
namespace Go.Lf.G
open Go
abbrev Xg:FuncId:=EC
theorem AL3 {A:Amb}{h:Heap}{mb:Option Nat}{R:Value→Heap→Prop}(H: ∀T h',h'[h.size]? =some (.cells #[.map mb] T (0,0))→Ext h h'→h'.size=h.size+1→R (.func (.func Xg) #[] #[Aq h.size]) h'):
  AA A P Az #[.map mb] h R:=by
 intro n
 have h0:=Proofs.AnyZ.keys_in Proofs.Tryz.keysA Fence.wide 5 trivial rfl mb (A.at h n)
 have h1:=callsIn_wide.1 h0
 refine Calls.mono h1 ?_
 rintro e w' ⟨rfl,rfl⟩
 refine⟨_,rfl,h.push (.cells #[.map mb] (Proofs.Tryz.keysA_ren.t 23)),n,rfl,?_⟩
 exact H (Proofs.Tryz.keysA_ren.t 23) (h.push (.cells #[.map mb] (Proofs.Tryz.keysA_ren.t 23))) (by simp) (Mod.push h _) (by simp)
theorem AMM(m:Nat):Proofs.AnyZ.SortsIn P Proofs.Tryz.sortedA_ren Fence.wide m:=
 ⟨fun blk off cap ss W hH hblk hsz=>callsIn_wide.2 (Proofs.AnyM.slices_Sort_string Proofs.Tryz.sortA blk off cap ss W hH hblk hsz),
 fun p cap W=>callsIn_wide.2 (Proofs.AnyM.slices_Sort_string_none Proofs.Tryz.sortA p cap W)⟩
theorem AIW {A:Amb}{h:Heap}{c r:Nat}{T:TypeId}{m:List (ByteArray×Value)}{l:List ByteArray}{R:Value→Heap→Prop}(hc:h[c]? =some (.cells #[.map (some r)] T (0,0)))(M:Qy h r m)
  (hl:Xi l) (hp:(m.map (·.1)).Perm l) (hb:m.length≤8796093022208)
  (H: ∀s h',Own F9 Ad h' s l→Ext h h'→(∀ b,s.blk=some b→h.size≤b)→R (.slice s.p s.len s.cap) h'):
  AA A P DW #[.func (.func Xg) #[] #[Aq c]] h R:=by
 intro n
 obtain⟨D,hown,hperm,hsize⟩:=AGU (P:=P) (kt:=Ad) JY (w:=A.at h n) M
 have hseq:SeqGives Fence.wide 2 P Xg #[Aq c] Proofs.encStr (fun ss=>ss.Perm (strKeys D)) (Maps.size D) (A.at h n):=
  Proofs.AnyZ.keys_gives (ρ:=Proofs.Tryz.keysA_ren) {Proofs.Tryz.keysA with} Fence.wide _ trivial rfl (by omega) c r _ D _ (show c<h.size from Ah hc) (by show hget h ⟨c,0,none⟩=_;rw[Il hc];rfl) hown
 have h0:=Proofs.AnyZ.sorted_in Proofs.Tryz.sortedA Fence.wide 5 trivial trivial trivial trivial rfl (by omega) (AMM _) (Proofs.enters_of Proofs.Tryz.func89 (by kernel_rfl) rfl) Xg #[Aq c] trivial (Proofs.enters_of Proofs.Tryz.func90 (by kernel_rfl) rfl) _ _ (by rw[hsize];simp[maxLen];omega) (by rw[hsize];omega) _ hseq
 have h1:=callsIn_wide.1 h0
 refine Calls.mono h1 ?_
 rintro e w' ⟨v,ss,rfl,hS,hrow,hnil,hbl⟩
 have hw':w'=A.at w'.heap w'.drawn:=AMA (A:=A) (h:=h) (n:=n) rfl hbl.os hbl.tape hbl.output
 have hperm2:ss.Perm (l.map fun x=>x.data.toList):=by
  refine(hS.trans hperm).trans ?_
  have:=hp.map fun x:ByteArray=>x.data.toList
  simpa [List.map_map,Function.comp_def] using this
 have hsl:ss.length=l.length:=by have:=hperm2.length_eq;simpa using this
 rw[AGV hl hperm2,AIh] at hrow
 have hx:Ext h w'.heap:=⟨hbl.size,fun b hb _=>hbl.block b hb⟩
 rcases hrow.2 with⟨rfl,h00⟩|⟨g,cap,cur,rfl,hgb,hg,hcc,hm,hs,ht⟩
 ·have:l= []:=List.eq_nil_of_length_eq_zero (by omega)
  subst this
  exact⟨_,rfl,w'.heap,w'.drawn,hw',H ⟨none,0,0⟩ _ Own.nil hx (fun b hb=>by simp[Sl.blk] at hb)⟩
 ·refine⟨_,rfl,w'.heap,w'.drawn,hw',H ⟨some ⟨g,0,none⟩,ss.length,cap⟩ _ ⟨hsl,.inr ⟨g,cur,rfl,hg,hcc,hm,hs,ht⟩⟩ hx (fun b hb=>?_)⟩
  simp[Sl.blk] at hb;subst hb;exact hgb
def ZP(m:Bx):List ByteArray×Int:=if m.down then([],30) else(m.files.map (·.name),0)
theorem Cy.names {h:Heap}{b r:Nat}{kv:List (Fi×Nat)}{m:Bx}(B:Cy h b r kv m):((kvM kv).map (·.1)).Perm (m.files.map (·.name))∧(kvM kv).length≤8796093022208:=by
 refine⟨?_,?_⟩
 ·have:=B.perm.map (·.name)
  simpa [kvM,List.map_map,Function.comp_def] using this
 ·have h1:=B.perm.length_eq
  have h2:=Ou m.files
  have h3:=B.good.wt
  simp at h1 ⊢
  omega
theorem Cy.sortedKeys {A:Amb}{h:Heap}{b r:Nat}{kv:List (Fi×Nat)}{m:Bx}(B:Cy h b r kv m){R:Sl→Heap→Prop}
  (H: ∀s h',Own F9 Ad h' s (m.files.map (·.name))→Ext h h'→(∀ c,s.blk=some c→h.size≤c)→R s h'):
  AA A P Az #[.map (some r)] h fun v1 h2=> ∃t10:Value,v1=t10∧(
   AA A P DW #[t10] h2 fun v2 h3=> ∃t11:Sl,v2= .slice t11.p t11.len t11.cap∧R t11 h3):=by
 refine AL3 fun T h1 hb1 x1 hs1=>⟨_,rfl,?_⟩
 refine AIW hb1 (B.map.mod x1 (fun h=>h)) (QQ.1 B.good.sorted) B.names.1 B.names.2 fun s h2 o2 x2 f2=>⟨s,rfl,?_⟩
 exact H s h2 o2 (x1.trans x2) (fun c hc=>by have:=f2 c hc;omega)
theorem AFM {A:Amb}{h:Heap}{b:Nat}{S:Nat→Prop}{m:Bx}{R:Value→Heap→Prop}(B:BU h b S m)
  (H: ∀s h',Own F9 Ad h' s (ZP m).1→Ext h h'→(∀ c,s.blk=some c→h.size≤c)→R (.tuple #[.slice s.p s.len s.cap,.int .i64 (ZP m).2]) h'):AA A P G5 #[Aq b] h R:=by
 obtain⟨r,kv,B,hS⟩:=B
 refine XG ?_
 unfold Ls
 refine ZG B.head ⟨_,rfl,?_⟩
 unfold ZP at H
 refine PIf.intro (fun hd=>?_) (fun hd=>?_)
 ·rw [if_pos hd] at H;exact H ⟨none,0,0⟩ h Own.nil Mod.refl (fun c hc=>by simp[Sl.blk] at hc)
 rw[if_neg (by simp[hd])] at H
 exact atI (DC.mk (AC B.head rfl) (B.sortedKeys fun s h' o x f=>H s h' o x f))
theorem Cy.add {h h':Heap}{b r c:Nat}{kv:List (Fi×Nat)}{m:Bx}{x:Fi}{l:List Fi}(B:Cy h b r kv m)(M:Qy h' r (kvM (kv++ [(x,c)])))(hc:h'[c]? =some (.cells #[.string x.firm,.string x.soft] Lu (0,0)))
  (hn:h.size≤c) (md:Mod (· =r) h h') (hp:(x::m.files).Perm l) (g:DY {m with files:=l}):Cy h' b r (kv++ [(x,c)]) {m with files:=l}:=by
 refine⟨md.blk B.head B.ne_br.symm,M,?_,?_,?_,g⟩
 ·intro p hp
  rcases List.mem_append.1 hp with hp|hp
  ·exact md.blk (B.cells p hp) (B.ne_pb hp).2
  ·simp at hp;subst hp;exact hc
 ·rw [List.map_append]
  exact(List.perm_append_singleton _ _).trans ((B.perm.cons _).trans hp)
 ·rw [List.map_append]
  refine List.nodup_append.2 ⟨B.nodup,by simp,?_⟩
  intro a ha c' hc'
  obtain⟨p,hp,rfl⟩:=List.mem_map.1 ha
  simp at hc';subst hc'
  have:=Ah (B.cells p hp);omega
theorem AIe {A:Amb}{h:Heap}{b:Nat}{S:Nat→Prop}{m:Bx}{keep:Sl}{ks:List Int}{R:Value→Heap→Prop}(B:BU h b S m)(V:View Eg h keep ks)
  (H: ∀b' h' S',BU h' b S (JU m)→BU h' b' S' (TD m ks)→Mod S h h'→(∀ c,S' c→h.size≤c)→R (Aq b') h'):AA A P IV #[Aq b,.slice keep.p keep.len keep.cap] h R:=by
 obtain⟨r,kv,B,hS⟩:=B
 refine Vm ?_
 unfold KR
 refine PIf.no rfl ?_
 refine OU fun bn h1 Sn Bn x1 fn=>⟨_,rfl,?_⟩
 have B1:=B.mod x1 (fun _ _ h=>h)
 refine atI (DC.mk (AC B1.head rfl) (B1.sortedKeys (R:=fun t19 h3=>Loop _ _ _) fun s h2 o2 x2 f2=>?_))
 have hlen:m.files.length≤8796093022208:=by have:=Ou m.files;have:=B.good.wt;omega
 have x02:Ext h h2:=x1.trans x2
 have hsn: ∀c,s.blk=some c→ ¬Sn c:=fun c hc hs=>by have:=Bn.lt hs;have:=f2 c hc;omega
 obtain⟨rn,kvn,Bn,hSn⟩:=Bn
 have hfn: ∀c,FH bn rn kvn c→h.size≤c∧c<h1.size:=fun c hc=>⟨fn c ((hSn c).2 hc),Bn.lt hc⟩
 refine Loop.rule (fun q x hh=> ∃(i:Nat) (kvi:List (Fi×Nat)),x=(((cntF 0 (m.files.take i):Nat):Int),(i:Int),())∧q=m.files.length-i∧i≤m.files.length∧
  Cy hh bn rn kvi ⟨Ct ks 0 (m.files.take i),-1,false⟩∧(∀ c,FH bn rn kvi c→FH bn rn kvn c∨h2.size≤c)∧Mod (FH bn rn kvn) h2 hh) ?_
  ⟨0,kvn,rfl,rfl,by omega,by simpa [Ct,AGW] using Bn.mod x2 (fun _ _ h=>h),fun c hc=> .inl hc,Mod.refl⟩
 rintro K q _ hh ⟨i,kvi,rfl,rfl,hi,Bi,hki,mi⟩ hK
 have m0:Ext h hh:=(x02.mod.trans mi).weak' fun c hc hf=>by have:=hfn c hf;omega
 have Bh:=B.mod m0 (fun _ _ h=>h)
 refine PIf.intro (fun hq=>?_) (fun hq=>?_)
 ·have hil:i<m.files.length:=by simpa [o2.len] using hq
  have hgi:=List.getElem?_eq_getElem hil
  generalize m.files[i]=f at hgi
  have hmem:f∈m.files:=List.mem_of_getElem? hgi
  have oh:Own F9 Ad hh s (m.files.map (·.name)):=o2.mod mi fun c hc hf=>by have:=f2 c hc;have:=hfn c hf;omega
  refine Join.mk fun K1 hK1=>?_
  refine oh.view.idx (i:=i) (x:=f.name) (by simp[hgi]) fun a ha ca=>AL.mk ca.str ?_
  refine atI (DC.mk (AC Bh.head rfl) (LQ VA JY AA7 Bh.map ?_))
  have hfind:=B.good.sorted.find hmem
  rcases Bh.look f.name with⟨k1,k2⟩|⟨p,hp,k1,k2,k3⟩
  ·rw [hfind] at k2;cases k2
  rw[hfind] at k2
  have hpf:p.1=f:=(Option.some.inj k2).symm
  rw[k1]
  refine⟨some ⟨p.2,0,none⟩,rfl,?_⟩
  have hc:=Bh.cells p hp
  rw[hpf] at hc
  have hcount:=AHk (m.files.take i) 0
  have hti:(m.files.take i).length=i:=by simp;omega
  have hsnoc:m.files.take (i+1)=m.files.take i++ [f]:=by rw[List.take_add_one,hgi];rfl
  have hfw:=Tv hmem
  have hwt:=B.good.wt
  refine atI (AL.mk (AC hc rfl) (Join.mk fun K2 hK2=>?_))
  have next: ∀h5 kv5,Cy h5 bn rn kv5 ⟨Ct ks 0 (m.files.take (i+1)),-1,false⟩→(∀ c,FH bn rn kv5 c→FH bn rn kvn c∨h2.size≤c)→Mod (FH bn rn kvn) h2 h5→K1 (((Mg (cntF 0 (m.files.take i)) f:Nat):Int),()) h5:=fun h5 kv5 B5 e5 m5=>by
   refine hK1 _ _ (hK (m.files.length-(i+1)) _ _ (by omega) ⟨i+1,kv5,?_,rfl,by omega,B5,e5,m5⟩)
   rw[AR (by omega),hsnoc,AIO]
  have keep2:K2 (((Mg (cntF 0 (m.files.take i)) f:Nat):Int),Nc ks (cntF 0 (m.files.take i)) f,()) hh:=hK2 _ _ (by
   rw[BZ]
   have hsn2:=AEK ks (m.files.take i) f
   rw[← hsnoc] at hsn2
   unfold AAU at hsn2
   refine PIf.intro (fun hq=>?_) (fun hq=>?_)
   ·have hq: ¬Nc ks (cntF 0 (m.files.take i)) f=bs0:=by simpa using hq
    rw[if_neg hq] at hsn2
    refine atI (DC.mk (AC Bi.head rfl) (New.mk fun h5 _ hb5 x5 hs5=>?_))
    have B5:=Bi.mod x5 (fun _ _ h=>h)
    have hnew:PO f.name (kvM kvi)=none:=by
     rcases Bi.look f.name with⟨k1,_⟩|⟨p',_,_,k2',k3'⟩
     ·exact k1
     ·exfalso
      have hm:=(Gz k2').2
      obtain⟨f',hf',e'⟩:=MH hm
      rw[k3'] at e'
      obtain⟨j,hj,e2⟩:=List.getElem_of_mem hf'
      have hji:j<i:=by simp at hj;omega
      have hs:=List.pairwise_iff_getElem.1 B.good.sorted j i (by omega) hil hji
      have e3:m.files[j]=f':=by simpa using e2
      have e4:m.files[i]=f:=by have:=List.getElem?_eq_getElem hil;rw[hgi] at this;exact(Option.some.inj this).symm
      rw[e3,e4,e'] at hs
      exact Ko hs rfl
    have hkl:(kvM kvi).length≤i:=by
     have h1:=Bi.perm.length_eq
     have h2:(Ct ks 0 (m.files.take i)).length≤(m.files.take i).length:=Zy
     simp at h1 ⊢;simp at h1 h2;omega
    refine ABd VA JY B5.map (by have:=B.good.names f hmem;simp[maxLen];omega) (by simp only[maxLen];omega) fun h6 M6 m6 hs6=>?_
    rw[YH hnew] at M6
    have hrl:=B5.map.lt
    have hb6:=m6.blk hb5 (by have:=Bi.map.lt;omega)
    have B6:=Cy.add (x:=⟨f.name,Nc ks (cntF 0 (m.files.take i)) f,bs0⟩) (c:=hh.size) (l:=Ct ks 0 (m.files.take (i+1))) Bi (by rw[kvM,List.map_append];exact M6) hb6 (Nat.le_refl _) (x5.mod.trans m6)
     (by rw[hsn2];exact(List.perm_append_singleton _ _).symm) (by
      have hg:DY (TD {m with files:=m.files.take (i+1)} ks):=by
       refine DY.crash (m:= {m with files:=m.files.take (i+1)}) ⟨B.good.sorted.sublist (List.take_sublist _ _),fun f2 hf2=>B.good.names f2 (List.mem_of_mem_take (i:=i+1) hf2),B.good.lo,B.good.hi,?_⟩
       have:=AEw (i+1) m.files
       show wtF (m.files.take (i+1))≤8796093022208
       omega
      exact hg)
    refine next h6 _ B6 ?_ ((mi.trans x5.mod).trans (m6.weak fun c _ hc=>?_))
    ·intro c hc
     rcases hc with hc|hc|⟨p',hp',rfl⟩
     ·exact .inl (.inl hc)
     ·exact .inl (.inr (.inl hc))
     ·rcases List.mem_append.1 hp' with hp'|hp'
      ·exact hki _ (.inr (.inr ⟨p',hp',rfl⟩))
      ·simp at hp';subst hp';exact .inr mi.size
    ·exact .inr (.inl hc)
   ·have hq:Nc ks (cntF 0 (m.files.take i)) f=bs0:=by simpa using hq
    rw[if_pos hq,List.append_nil] at hsn2
    exact next hh kvi (by rw[hsn2];exact Bi) hki mi)
  refine atI (AL.mk (AB hc rfl) ?_)
  rw[BZ]
  unfold Nc Mg at keep2
  refine PIf.intro (fun hq=>?_) (fun hq=>?_)
  ·have hq: ¬f.soft=bs0:=by simpa using hq
   rw[if_neg hq,if_neg hq] at keep2
   refine Join.mk fun K3 hK3=>?_
   have k3: ∀x,x=(match ks[cntF 0 (m.files.take i)]? with|some n=>f.firm++f.soft.extract 0 (min n.toNat f.soft.size)|none=>f.firm)→K3 (x,()) hh:=fun x hx=>hK3 _ _ (by
    rw[AR (by omega),hx];exact keep2)
   refine PIf.intro (fun hq2=>?_) (fun hq2=>?_)
   ·have hkl:cntF 0 (m.files.take i)<ks.length:=by simpa [V.len] using hq2
    have hgk:=List.getElem?_eq_getElem hkl
    generalize ks[cntF 0 (m.files.take i)]=n at hgk
    rw[hgk] at k3
    have Vh:=V.ext m0
    refine atI (AL.mk (AB hc rfl) (Vh.idx hgk fun a _ ca=>Aa.mk ca.int (atI (AL.mk (AB hc rfl) ?_))))
    have e:(if((if((f.soft.size:Int):Int)<n then(f.soft.size:Int) else n):Int)>0 then(if((f.soft.size:Int):Int)<n then(f.soft.size:Int) else n) else 0)=((min n.toNat f.soft.size:Nat):Int):=by
     split<;>split<;>omega
    rw[e]
    refine⟨⟨by omega,by omega⟩,?_,?_⟩
    ·rw [max_i64,ByteArray.size_extract];omega
    ·exact k3 _ rfl
   ·have hkl:ks.length≤cntF 0 (m.files.take i):=by simpa [V.len] using hq2
    refine k3 _ ?_
    rw[List.getElem?_eq_none hkl]
  ·have hq:f.soft=bs0:=by simpa using hq
   rw[if_pos hq,if_pos hq] at keep2
   exact keep2
 ·have hil:i=m.files.length:=by simp[o2.len] at hq;omega
  subst hil
  rw[List.take_length] at Bi
  refine atI (Store.mk1 Bh.head (by simp) fun h5 hb5 m5 hs5=>?_)
  have B5:=Bh.hd (m':=JU m) (by simpa [JU] using hb5) m5 rfl B.good.off
  refine H bn h5 (FH bn rn kvi) ⟨r,kv,B5,hS⟩ ⟨rn,kvi,Bi.mod m5 ?_,fun _=>Iff.rfl⟩ (m0.mod.trans (m5.weak fun c _ hc=>(hS c).2 (.inl hc))) ?_
  ·rintro c hc rfl
   have hbl:=Ah B.head
   rcases hki _ hc with h|h
   ·have:=hfn _ h;omega
   ·have:=x02.size;omega
  ·intro c hc
   rcases hki c hc with h|h
   ·exact(hfn _ h).1
   ·have:=x02.size;omega
end Go.Lf.G

/-
 Contracts: frames scanned, a log's segments, a log opened (chapters 2 and 4).
-/
set_option maxRecDepth 100000
set_option linter.unusedVariables false
set_option linter.unusedSimpArgs false
namespace Go.Lf.G
open Go
theorem AFO:TN P Bf Ad F9.w 16=true:=by kernel_rfl
theorem Yc:TN P Bv BL Eg.w 8=true:=by kernel_rfl
theorem Mf(s:ByteArray):AY (bl s)=s:=Gd s
theorem ADe {l:List UInt8}{rs:List (List UInt8)}(h:KY l rs):rs.length≤l.length:=by
 induction h with
 |stop h=>exact Nat.zero_le _
 |step h s ih=>have:=Vp h;simp only[List.length_cons];omega
theorem AKS {A:Amb}{h:Heap}{s:ByteArray}{R:Value→Heap→Prop}(hs:s.size≤8000000000000)
  (H: ∀h' sl n,Ext h h'→View F9 h' sl ((ABS (bl s)).map AY)→R (.tuple #[.slice sl.p sl.len sl.cap,.int .i64 n]) h'):AA A P Hw #[.string s] h R:=by
 refine R4 ?_
 unfold LG
 refine Loop.rule (fun m x hh=> ∃(sl:Sl) (dn rs:List (List UInt8)) (l:List UInt8),x=(sl,AY l,())∧Ext h hh∧Own F9 Ad hh sl (dn.map AY)∧(∀ c,sl.blk=some c→h.size≤c)∧KY l rs∧ABS (bl s)=dn++rs∧dn.length+l.length≤s.size∧m=l.length) ?_
  ⟨⟨none,0,0⟩,[],_,bl s,by rw[Mf],Mod.refl,Own.nil,fun c hc=>by simp[Sl.blk] at hc,ZZ _,rfl,by rw[Be];simp,rfl⟩
 rintro K m _ hh ⟨sl,dn,rs,l,rfl,x,o,f,sc,e,hl,rfl⟩ hK
 refine AFT (by omega) fun h2 x2=>⟨_,_,_,rfl,?_⟩
 cases sc with
 |stop hn=>
  refine PIf.no (by simp;omega) ?_
  rw[List.append_nil] at e
  exact H h2 sl _ (x.trans x2) (by rw[e];exact(o.ext x2).view)
 |step hn sc=>
  rename_i rs
  refine PIf.yes (by simp;omega) ?_
  have hr:=Vp hn
  refine New.append1 (E:=F9) (x:=AY (FM l).2.1) (s:=sl) (l:=dn.map AY) rfl AFO (o.ext x2) (by simp;omega) (by simp[maxLen];omega) fun s' h6 o6 m6 b6 n6=>?_
  refine hK (FM l).2.2.length _ _ (by omega) ⟨s',dn++ [(FM l).2.1],rs,(FM l).2.2,rfl,(x.trans x2).more m6 f,?_,fun c hc=>?_,sc,by rw[e];simp,by simp;omega,rfl⟩
  ·rw [List.map_append];exact o6
  ·rcases b6 c hc with h|h
   ·exact f c h
   ·have:=x.size;have:=x2.size;omega
theorem AL4 {A:Amb}{h:Heap}{s:Sl}{l:List Int}{R:Value→Heap→Prop}(o:Own Eg BL h s l)(hl:l.length≤8796093022208)
  (H: ∀h',View Eg h' s (l.mergeSort fun x y=>decide (x≤y))→Mod (fun b=>s.blk=some b) h h'→R (.tuple #[]) h'):AA A P Gq #[.slice s.p s.len s.cap] h R:=by
 intro n
 have hlen:=o.len
 rcases o.row with⟨rfl,rfl⟩|⟨g,cur,hp,hg,hc1,hc2,hc3,hc4⟩
 ·refine Calls.mono (Proofs.AnyM.slices_Sort_int_none Proofs.Tryz.sortI none 0 (A.at h n)) ?_
  rintro e w' ⟨rfl,rfl⟩
  exact⟨_,rfl,h,n,rfl,H h (by simpa using View.nil) Mod.refl⟩
 ·rw [hp,hlen]
  have hw:Eg.w=1:=rfl
  rw[hw,Nat.mul_one] at hc3 hc4
  have hcur: ∀j x,l[j]? =some x→cur[j]? =some (Value.int .i64 x):=fun j x hj=>by
   have h1:=flat_get (E:=Eg) hj 0 (.int .i64 x) rfl
   rw[← hc4,hw,Nat.mul_one,Nat.add_zero,List.getElem?_take] at h1
   split at h1
   ·simpa using h1
   ·cases h1
  refine Calls.mono (Proofs.AnyM.slices_Sort_int Proofs.Tryz.sortI g 0 s.cap l (A.at h n) ?_ (Ah hg) (by omega)) ?_
  ·intro j hj
   have hj:j<l.length:=by simpa using hj
   have h1:=hcur j l[j] (List.getElem?_eq_getElem hj)
   have h2:l.toArray[j]! =l[j]:=by simp[hj]
   refine⟨?_,?_⟩
   ·show hget h ⟨g,0+j,none⟩=_
    unfold hget
    rw[hg]
    simp only[Option.isSome_none,Bool.false_eq_true,if_false,Nat.zero_add,h2,h1]
   ·show hfro h ⟨g,0+j,none⟩=false
    unfold hfro
    rw[hg]
    simp
  ·rintro e w' ⟨rfl,k,os,rfl⟩
   have hgb:(h.modify g (Sort.onCells (Sort.putCells (Value.int .i64) 0 (l.mergeSort fun x y=>decide (x≤y)).toArray))++os)[g]? =some (.cells (Sort.putCells (Value.int .i64) 0 (l.mergeSort fun x y=>decide (x≤y)).toArray cur) BL (0,0)):=by
    rw[Array.getElem?_append_left (by simpa using Ah hg),Array.getElem?_modify,if_pos rfl,hg]
    rfl
   refine⟨_,rfl,h.modify g (Sort.onCells (Sort.putCells (Value.int .i64) 0 (l.mergeSort fun x y=>decide (x≤y)).toArray))++os,n+k,rfl,H _ ⟨?_,hc1,fun j x hj=>⟨⟨g,0,none⟩,hp,fun i v hi=>?_⟩⟩ ⟨by simp,fun b hb hn=>?_⟩⟩
   ·rw [List.length_mergeSort];exact hlen
   ·have hi0:i=0:=by
     have:=(List.getElem?_eq_some_iff.1 hi).1
     have e:(Eg.enc x).length=1:=rfl
     omega
    subst hi0
    simp only[Eg,List.getElem?_cons_zero,Option.some.injEq] at hi
    subst hi
    have hjl:j<(l.mergeSort fun x y=>decide (x≤y)).length:=(List.getElem?_eq_some_iff.1 hj).1
    have hjc:j<cur.size:=by rw[List.length_mergeSort] at hjl;omega
    rw[hw,Nat.mul_one,Bg,Bg,Nat.zero_add,Nat.add_zero]
    unfold hget
    rw[hgb]
    simp only[Option.isSome_none,Bool.false_eq_true,if_false,Sort.putCells,Array.getElem?_mapIdx]
    rw[Array.getElem?_eq_getElem hjc,Option.map_some,if_pos ⟨Nat.zero_le _,by simpa using hjl⟩]
    have:(l.mergeSort fun x y=>decide (x≤y)).toArray[j-0]! =x:=by
     rw[Nat.sub_zero]
     simp[hj]
    rw[this]
   ·have hbg:g≠b:=fun e=>hn (by rw[Sl.blk,hp,e];rfl)
    rw[Array.getElem?_append_left (by simpa using hb),Array.getElem?_modify,if_neg hbg]
structure AKQ (nm:ByteArray) (m:Bx) (l:List Nat):Prop where
 inc:l.Pairwise (· < ·)
 mem: ∀n,n∈l↔1≤n∧n≤99999999∧(BR (fnB nm n) m.files).isSome=true
theorem AAB {k:ByteArray}{l:List Fi}:(BR k l).isSome=true↔k∈l.map (·.name):=by
 constructor
 ·intro h
  cases hf:BR k l with
  |none=>rw[hf] at h;cases h
  |some f=>
   obtain⟨h1,h2⟩:=Gz hf
   exact List.mem_map.2 ⟨f,h2,h1⟩
 ·intro h
  obtain⟨f,h1,h2⟩:=List.mem_map.1 h
  cases hf:BR k l with
  |none=>exact absurd h2 (ME hf f h1)
  |some f=>rfl
theorem AEm {m:Bx}(g:DY m):(m.files.map (·.name)).Nodup:=List.pairwise_map.2 (g.sorted.imp fun h=>Ko h)
theorem AFw {ns:List Nat}(hnd:ns.Nodup): ∃l:List Nat,((ns.map fun n:Nat=>(n:Int)).mergeSort fun x y=>decide (x≤y))=l.map (fun n:Nat=>(n:Int))∧l.Pairwise (· < ·)∧ ∀n,n∈l↔n∈ns:=by
 have hp:=List.mergeSort_perm (ns.map fun n:Nat=>(n:Int)) (fun x y=>decide (x≤y))
 have hs:((ns.map fun n:Nat=>(n:Int)).mergeSort fun x y=>decide (x≤y)).Pairwise (fun x y=>decide (x≤y)=true):=
  List.pairwise_mergeSort (fun a b c h1 h2=>by simp at h1 h2 ⊢;omega) (fun a b=>by simp;omega) _
 generalize (ns.map fun n:Nat=>(n:Int)).mergeSort (fun x y=>decide (x≤y))=L at hp hs
 have hall: ∀x∈L,((x.toNat:Nat):Int)=x:=fun x hx=>by
  obtain⟨n,_,rfl⟩:=List.mem_map.1 (hp.subset hx)
  simp
 have hL:L=(L.map Int.toNat).map (fun n:Nat=>(n:Int)):=by
  rw[List.map_map]
  conv=>lhs;rw[← List.map_id L]
  exact List.map_congr_left fun x hx=>(hall x hx).symm
 have hnd2:L.Nodup:=hp.symm.nodup (by
  rw[List.nodup_iff_pairwise_ne,List.pairwise_map]
  exact(List.nodup_iff_pairwise_ne.1 hnd).imp fun h e=>h (by exact_mod_cast e))
 refine⟨L.map Int.toNat,hL,?_,fun n=>?_⟩
 ·rw [List.pairwise_map]
  have h2:L.Pairwise fun x y=>decide (x≤y)=true∧x≠y:=hs.and (List.nodup_iff_pairwise_ne.1 hnd2)
  refine h2.imp_of_mem fun {a c} ha hc hac=>?_
  have h3:=hall a ha
  have h4:=hall c hc
  have h5:a≤c:=of_decide_eq_true hac.1
  have h6:=hac.2
  omega
 ·constructor
  ·intro hn
   obtain⟨x,hx,rfl⟩:=List.mem_map.1 hn
   obtain⟨k,hk,rfl⟩:=List.mem_map.1 (hp.subset hx)
   simpa using hk
  ·intro hn
   exact List.mem_map.2 ⟨(n:Int),hp.symm.subset (List.mem_map.2 ⟨n,hn,rfl⟩),by simp⟩
theorem WX {A:Amb}{h:Heap}{b:Nat}{S:Nat→Prop}{m:Bx}{nm:ByteArray}{R:Value→Heap→Prop}(E:Evn h)(B:BU h b S m)(hd:m.down=false)(hnm:nm.size≤1099511627776)(hw:wtF m.files≤8000000000000)
  (H: ∀h' s (l:List Nat),AKQ nm m l→View Eg h' s (l.map fun n:Nat=>(n:Int))→Ext h h'→(∀ c,s.blk=some c→h.size≤c)→R (.tuple #[.slice s.p s.len s.cap,.int .i64 0]) h'):AA A P HZ #[Aq b,.string nm] h R:=by
 refine XQ ?_
 unfold MF
 refine AFM B fun s h1 o1 x1 f1=>⟨s,_,rfl,?_⟩
 have hL:ZP m=(m.files.map (·.name),0):=by unfold ZP;rw[if_neg (by simp[hd])]
 rw[hL] at o1 ⊢
 refine PIf.no rfl ?_
 have hnd:=AEm B.good
 have hsz: ∀k∈m.files.map (·.name),k.size≤32:=fun k hk=>by
  obtain⟨f,hf,rfl⟩:=List.mem_map.1 hk
  exact B.good.names f hf
 have hlen:(m.files.map (·.name)).length≤8000000000000:=by
  have:=Ou m.files
  simp;omega
 have hfind: ∀k,(BR k m.files).isSome=true↔k∈m.files.map (·.name):=fun k=>AAB
 dsimp only at o1
 generalize m.files.map (·.name)=names at*
 have v1:=o1.view
 refine Loop.rule (fun mm x hh=> ∃(i:Nat) (sl:Sl) (ns:List Nat),x=(sl,(i:Int),())∧Ext h1 hh∧Own Eg BL hh sl (ns.map fun n:Nat=>(n:Int))∧(∀ c,sl.blk=some c→h1.size≤c)∧i≤names.length∧ns.length≤i∧(ns.map (fnB nm)).Sublist (names.take i)∧(∀ n∈ns,1≤n∧n≤99999999)∧(∀ k:Nat,1≤k→k≤99999999→fnB nm k∈names.take i→k∈ns)∧mm=names.length-i) ?_
  ⟨0,⟨none,0,0⟩,[],rfl,Mod.refl,Own.nil,fun c hc=>by simp[Sl.blk] at hc,Nat.zero_le _,Nat.le_refl _,by simp,by simp,by simp,rfl⟩
 rintro K mm _ hh ⟨i,sl,ns,rfl,xh,o,f,hi,hni,hsub,hrng,hall,rfl⟩ hK
 rw[v1.len]
 refine PIf.intro (fun hq=>?_) (fun hq=>?_)
 ·have hil:i<names.length:=by simpa using hq
  refine Join.mk fun K1 hK1=>?_
  have hget:names[i]? =some names[i]:=List.getElem?_eq_getElem hil
  rw[← v1.len]
  refine(v1.ext xh).idx hget fun a _ c=>?_
  refine AL.mk c.str ?_
  refine AIA ((E.ext x1).ext xh) hnm (by have:=hsz names[i] (List.getElem_mem hil);omega) fun h4 n x4 n0 n1=>⟨_,rfl,?_⟩
  have htk:names.take (i+1)=names.take i++ [names[i]]:=by rw[List.take_add_one,hget];rfl
  have fin: ∀(s':Sl) (ns':List Nat) (h':Heap),Ext h1 h'→Own Eg BL h' s' (ns'.map fun n:Nat=>(n:Int))→(∀ c,s'.blk=some c→h1.size≤c)→ns'.length≤i+1→(ns'.map (fnB nm)).Sublist (names.take (i+1))→(∀ n∈ns',1≤n∧n≤99999999)→(∀ k:Nat,1≤k→k≤99999999→fnB nm k∈names.take (i+1)→k∈ns')→K1 (s',()) h':=fun s' ns' h' x' o' f' l' sb' r' a'=>by
   refine hK1 _ _ ?_
   dsimp only
   rw[AR (by omega)]
   exact hK (names.length-(i+1)) _ _ (by omega) ⟨i+1,s',ns',rfl,x',o',f',hil,l',sb',r',a',rfl⟩
  by_cases hn:n=0
  ·refine PIf.no (by simp[hn]) (fin sl ns h4 (xh.trans x4) (o.ext x4) f (by omega) ?_ hrng ?_)
   ·rw [htk];exact hsub.trans (List.sublist_append_left _ _)
   ·intro k k1 k2 hk
    rw[htk] at hk
    rcases List.mem_append.1 hk with hk|hk
    ·exact hall k k1 k2 hk
    ·exact absurd (List.mem_singleton.1 hk).symm (n0 hn k k1 k2)
  ·refine PIf.yes (by simp;omega) ?_
   obtain⟨n9,ne⟩:=n1 hn
   refine New.append1 (E:=Eg) (x:=(n:Int)) (s:=sl) (l:=ns.map fun n:Nat=>(n:Int)) rfl Yc (o.ext x4) (by simp;omega) (by simp[maxLen];omega) fun s' h6 o6 m6 b6 _=>?_
   refine fin s' (ns++ [n]) h6 ((xh.trans x4).more m6 f) (by rw[List.map_append];exact o6) (fun c hc=>?_) (by simp;omega) ?_ ?_ ?_
   ·rcases b6 c hc with h|h
    ·exact f c h
    ·have:=xh.size;have:=x4.size;omega
   ·rw [htk,List.map_append]
    have e2: [n].map (fnB nm)= [names[i]]:=by rw[ne];rfl
    rw[e2]
    exact hsub.append (List.Sublist.refl _)
   ·intro k hk
    rcases List.mem_append.1 hk with hk|hk
    ·exact hrng k hk
    ·rw [List.mem_singleton.1 hk];omega
   ·intro k k1 k2 hk
    rw[htk] at hk
    rcases List.mem_append.1 hk with hk|hk
    ·exact List.mem_append.2 (.inl (hall k k1 k2 hk))
    ·have:=GZ ((List.mem_singleton.1 hk).trans ne)
     exact List.mem_append.2 (.inr (by simp[this]))
 ·have hil:i=names.length:=by simp at hq;omega
  subst hil
  rw[List.take_length] at hsub hall
  have hnd2:ns.Nodup:=by
   have h1:=hsub.nodup hnd
   rw[List.nodup_iff_pairwise_ne,List.pairwise_map] at h1
   rw[List.nodup_iff_pairwise_ne]
   exact h1.imp fun h e=>h (by rw[e])
  obtain⟨l,hl1,hl2,hl3⟩:=AFw hnd2
  refine AL4 o (by simp;omega) fun h7 v7 m7=>⟨rfl,?_⟩
  rw[hl1] at v7
  refine H h7 sl l ⟨hl2,fun n=>?_⟩ v7 ((x1.trans xh).more m7 fun c hc=>by have:=f c hc;have:=x1.size;omega) fun c hc=>by have:=f c hc;have:=x1.size;omega
  rw[hl3,hfind]
  constructor
  ·intro hn
   obtain⟨r1,r2⟩:=hrng n hn
   exact⟨r1,r2,hsub.subset (List.mem_map.2 ⟨n,hn,rfl⟩)⟩
  ·rintro⟨r1,r2,r3⟩
   exact hall n r1 r2 r3
end Go.Lf.G

