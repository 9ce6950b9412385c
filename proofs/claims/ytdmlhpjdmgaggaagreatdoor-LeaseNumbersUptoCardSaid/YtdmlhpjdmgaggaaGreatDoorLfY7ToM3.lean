/-
 Contract: a table is opened.
-/
import Derived.Test.YtdmlhpjdmgaggaaGreatDoorLfY6ToX2
import Derived.Test.YtdmlhpjdmgaggaaGreatDoorLfG1
import Derived.Test.YtdmlhpjdmgaggaaGreatDoorLfU1ToU4
import Derived.Laws.StructEq
import Derived.ChangeKeysEq
set_option linter.unusedVariables false
set_option linter.unusedSimpArgs false
set_option maxRecDepth 100000
set_option linter.unusedVariables false
set_option linter.unusedSimpArgs false
namespace Go.Lf.G
open Go
structure TabAt (h:Heap) (t:Nat) (l:List Pr) (f:List UInt8) (lo hi:Nat):Prop where
 at_: ∃fs bs:Sl,h[t]? =some (.cells #[.slice fs.p fs.len fs.cap,.slice bs.p bs.len bs.cap,.string (AY f),.int .i64 (l.length:Int)] J7 (0,0))∧View F9 h fs (Bo l)∧View F9 h bs ((Ir l).map fun b=>AY (Aw b))∧
  (∀ c,fs.blk=some c→lo≤c∧c<hi)∧(∀ c,bs.blk=some c→lo≤c∧c<hi)
 tlt:lo≤t∧t<hi
theorem TabAt.mod {h h':Heap}{t:Nat}{l:List Pr}{f:List UInt8}{lo hi:Nat}{S:Nat→Prop}(T:TabAt h t l f lo hi)(m:Mod S h h')(hS: ∀c,lo≤c→c<hi→ ¬S c):TabAt h' t l f lo hi:=by
 obtain⟨fs,bs,h1,h2,h3,h4,h5⟩:=T.at_
 exact⟨⟨fs,bs,m.blk h1 (hS t T.tlt.1 T.tlt.2),h2.mod m (fun c hc=>hS c (h4 c hc).1 (h4 c hc).2),h3.mod m (fun c hc=>hS c (h5 c hc).1 (h5 c hc).2),h4,h5⟩,T.tlt⟩
theorem TabAt.ext {h h':Heap}{t:Nat}{l:List Pr}{f:List UInt8}{lo hi:Nat}(T:TabAt h t l f lo hi)(m:Ext h h'):TabAt h' t l f lo hi:=T.mod m fun _ _ _ h=>h
theorem Tf(r:List UInt8)(rs:List (List UInt8)):wraps (r::rs)=CE r++wraps rs:=rfl
theorem AIX {A:Amb}{h:Heap}{rs:List (List UInt8)}{R:Value→Heap→Prop}(hs: ∀r∈rs,r.length≤1048576)(hl:(wraps rs).length≤1099511627776)
  (H: ∀h' sl,Ext h h'→View F9 h' sl (rs.map AY)→(∀ c,sl.blk=some c→h.size≤c∧c<h'.size)→R (.tuple #[.slice sl.p sl.len sl.cap,.int .i64 ((wraps rs).length:Int)]) h'):AA A P Hw #[.string (AY (wraps rs))] h R:=by
 refine R4 ?_
 unfold LG
 refine Loop.rule (fun m x hh=> ∃(i:Nat) (sl:Sl),x=(sl,AY (wraps (rs.drop i)),())∧m=rs.length-i∧i≤rs.length∧Ext h hh∧Own F9 Ad hh sl ((rs.take i).map AY)∧(∀ c,sl.blk=some c→h.size≤c)) ?_
  ⟨0,⟨none,0,0⟩,rfl,rfl,by omega,Mod.refl,Own.nil,fun c hc=>by simp[Sl.blk] at hc⟩
 rintro K m _ hh ⟨i,sl,rfl,rfl,hi,xx,oo,hsl⟩ hK
 dsimp only
 have hrl:rs.length≤(wraps rs).length:=by
  clear hl H hi oo hK
  induction rs with
  |nil=>simp
  |cons r rs ih=>
   have h1:=(GH (hs r List.mem_cons_self)).1
   have:=ih fun x hx=>hs x (List.mem_cons_of_mem _ hx)
   simp only[wraps,List.flatMap_cons,List.length_append,List.length_cons] at this ⊢
   omega
 have hdl:(wraps (rs.drop i)).length≤1099511627776:=by
  have e:wraps rs=wraps (rs.take i)++wraps (rs.drop i):=by
   unfold wraps
   rw[← List.flatMap_append,List.take_append_drop]
  have:=congrArg List.length e
  rw[List.length_append] at this
  omega
 refine AFT (Nat.le_trans hdl (by decide)) fun h2 x2=>⟨_,_,_,rfl,?_⟩
 by_cases hil:i<rs.length
 ·have hx:rs[i]? =some rs[i]:=List.getElem?_eq_getElem hil
  have hr:=hs _ (List.getElem_mem hil)
  have hd:rs.drop i=rs[i]::rs.drop (i+1):=List.drop_eq_getElem_cons hil
  have ht:=Qm hx
  generalize rs[i]=r at hx hr hd ht
  rw[hd,Tf,ABB hr]
  refine PIf.yes rfl ?_
  refine New.append1 (E:=F9) (x:=AY r) (s:=sl) rfl X9 (oo.ext x2) (by simp only[List.length_map,List.length_take];omega) (by simp only[List.length_map,List.length_take,maxLen];omega) fun s' h6 o6 m6 b6 n6=>?_
  refine hK (rs.length-(i+1)) _ _ (by omega) ⟨i+1,s',rfl,rfl,hil,(xx.trans x2).more m6 hsl,?_,fun c hc=>?_⟩
  ·rw [ht,List.map_append];exact o6
  ·rcases b6 c hc with h|h
   ·exact hsl c h
   ·have:=xx.size;have:=x2.size;omega
 ·have e1:rs.drop i= []:=List.drop_of_length_le (by omega)
  have e2:rs.take i=rs:=List.take_of_length_le (by omega)
  rw[e1]
  rw[e2] at oo
  have hn:=Qr
  refine PIf.no (by simp only[wraps,List.flatMap_nil];simpa using hn) ?_
  have e3:IntKind.wrap .i64 (((AY (wraps rs)).size:Int)-((AY (wraps [])).size:Int))=((wraps rs).length:Int):=by
   rw[AQ,AQ]
   show IntKind.wrap .i64 (((wraps rs).length:Int)-((0:Nat):Int))=_
   rw[wrap_i64 (by omega) (by omega)];omega
  rw[e3]
  exact H h2 sl (xx.trans x2) (oo.ext x2).view fun c hc=>⟨hsl c hc,(oo.ext x2).lt hc⟩
def UM(l:List Pr)(n:Nat):ByteArray:=match n with|0=>⟨#[]⟩|n+1=>Gf l n
theorem ALG {l:List Pr}(ho: ∀p∈l,JW p)(hi:l.Pairwise fun p q=>sLt p.key q.key=true){n:Nat}{p:Pr}(hp:l[n]? =some p):(sLt p.key (UM l n)||sEq p.key (UM l n))=false:=by
 have hlt:sLt (UM l n) p.key=true:=by
  cases n with
  |zero=>
   have:=(ho p (List.mem_of_getElem? hp)).key
   unfold UM
   rw[Xa]
   have h0:bl p.key≠ []:=by
    intro e
    have:=Be p.key
    rw[e] at this
    simp at this;omega
   cases h:bl p.key with
   |nil=>exact absurd h h0
   |cons c t=>
    simp only[decide_eq_true_eq]
    show([]:List UInt8)<bl p.key
    rw[h]
    exact List.nil_lt_cons c t
  |succ n=>
   have hn:n<l.length:=by have:=(List.getElem?_eq_some_iff.1 hp).1;omega
   have hq:l[n]? =some l[n]:=List.getElem?_eq_getElem hn
   have:=ABY hi hq hp
   show sLt (Gf l n) p.key=true
   unfold Gf
   rw[hq]
   exact this
 rw[Bool.or_eq_false_iff]
 refine⟨?_,?_⟩
 ·cases hs:sLt p.key (UM l n) with
  |false=>rfl
  |true=>have:=CZ hlt hs;rw[Bb] at this;cases this
 ·rw [BZ,decide_eq_false_iff_not]
  intro e
  rw[e,Bb] at hlt;cases hlt
theorem AKP {n N:Nat}(h:n=N+1)(hN:N≤1099511627776):IntKind.wrap .i64 (((n:Nat):Int)-(1:Int))=((N:Nat):Int):=by
 subst h
 rw[wrap_i64 (by omega) (by omega)];omega
theorem YD.rs_len {s:List UInt8}{l:List Pr}{f:List UInt8}(T:YD s l f):(wraps (framesT l f)).length≤1099511627776:=by
 have:=RF (Kq T)
 have h2:=T.many
 have h3:(framesT l f).length=BP l+1:=by simp[framesT,FW]
 have h4:BP l≤12501:=by unfold BP;omega
 rw[h3] at this
 have h5:(BP l+1)*1048590≤12502*1048590:=Nat.mul_le_mul_right _ (by omega)
 omega
theorem AFP {A:Amb}{h:Heap}{l:List Pr}{f:List UInt8}{R:Value→Heap→Prop}(T:YD (wraps (framesT l f)) l f)
  (H: ∀h' t,Ext h h'→TabAt h' t l f h.size h'.size→R (.tuple #[Aq t,.int .i64 0]) h'):AA A P I7 #[.string (AY (wraps (framesT l f)))] h R:=by
 refine AAR ?_
 unfold PK
 have hpos:=AFE T.ne
 have hmany:=T.many
 have hN:BP l≤12501:=by unfold BP;omega
 have hfl:=T.flen
 refine AIX (Kq T) (YD.rs_len T) fun h1 sl x1 v1 b1=>⟨sl,_,rfl,?_⟩
 have hsl:sl.len=BP l+1:=by rw[v1.len];simp[framesT,FW]
 have hcap:=v1.cap
 rw[AKP hsl (by omega)]
 refine Join.mk fun K hK=>?_
 refine PIf.no (by rw[AQ];simp) ?_
 refine hK _ _ (PIf.no (by rw[hsl];simp;omega) ?_)
 clear hK
 simp only[Int.toNat_natCast,Nat.sub_zero]
 refine⟨⟨by omega,by omega⟩,?_⟩
 have hfoot:((framesT l f).map AY)[BP l]? =some (AY (SA l f)):=by
  rw[List.getElem?_map]
  unfold framesT
  rw[List.getElem?_append_right (by simp[FW])]
  simp[FW]
 refine v1.idx hfoot fun a ha hc=>?_
 refine AL.mk hc.str ?_
 have hft:=Tp T
 refine P8 fun h3 r3 x3=>⟨_,rfl,?_⟩
 have ht_ne: ∀ {h:Heap} {s:Sl} {ks:List ByteArray},Own F9 Ad h s ks→ ∀ {c:Nat} {r:Rd},KH h c r→s.blk≠some c:=fun o c r hr=>o.ne hr (by decide)
 refine New.mk fun h4 _ hb4 x4 hs4=>?_
 have r4:KH h4 h1.size _:=AU x4 r3
 have l1:=Af (n:=BP l) (by omega)
 have efoot:SA l f=CK (BP l)++(FQ (Bo l)++(CK l.length++Cb f)):=by unfold SA FQ;simp only[List.append_assoc]
 rw[efoot] at r4 hft
 have l2:=Af (n:=l.length) (by omega)
 have ltx:(Cb f).length=(CK f.length).length+f.length:=by simp[Cb]
 have l3:=Af (n:=f.length) (by omega)
 have hixl:=Nb (ks:=Bo l) (MR T.ok)
 rw[Fx] at hixl
 refine JL (most:=BP l) r4 (Nat.le_trans hft (by decide)) (by omega) fun h5 r5 m5=>⟨_,rfl,?_⟩
 rw[IQ (by omega) (Nat.le_refl _)] at r5 ⊢
 dsimp only at r5 ⊢
 refine PIf.no (by simp) ?_
 have hbr:h1.size<h3.size:=Ah r3
 have hb5:=m5.blk hb4 (by omega)
 have xx4:Ext h h4:=(x1.trans x3).trans x4
 have xx5:Ext h h5:=xx4.more m5 (fun b hb=>by rw[hb];exact x1.size)
 have vbs: ∀ {hh:Heap},(∀ c,sl.blk=some c→hh[c]? =h1[c]?)→View F9 hh ⟨Ao sl.p sl.cap 0 1,BP l,sl.cap⟩ ((Ir l).map fun b=>AY (Aw b)):=by
  intro hh hc
  have v:View F9 hh sl ((framesT l f).map AY):=⟨v1.len,v1.cap,fun i x hi=>by
   obtain⟨a,ha,hcc⟩:=v1.cells i x hi
   refine⟨a,ha,fun j v hj=>?_⟩
   rw[← hcc j v hj]
   exact MC (by rw[add_block,add_block];exact hc _ (by simp[Sl.blk,ha]))⟩
  have:=v.sub (lo:=0) (hi:=BP l) (Nat.zero_le _) (by simp[framesT,FW])
  have e:(((framesT l f).map AY).take (BP l)).drop 0=(Ir l).map fun b=>AY (Aw b):=by
   rw[List.drop_zero,List.map_take.symm]
   unfold framesT
   rw[List.take_append_of_le_length (by simp[FW]),List.take_of_length_le (by simp[FW]),List.map_map]
   rfl
  rw[e] at this
  exact this
 generalize hT0:h3.size=t0 at*
 refine Loop.rule (fun m x hh=> ∃(i:Nat) (fs:Sl),x=((i:Int),())∧m=BP l-i∧i≤BP l∧KH hh h1.size ⟨FQ ((Bo l).drop i)++(CK l.length++Cb f),false⟩∧
  hh[t0]? =some (.cells #[.slice fs.p fs.len fs.cap,.slice (Ao sl.p sl.cap 0 1) (BP l) sl.cap,.string ⟨#[]⟩,.int .i64 0] J7 (0,0))∧Own F9 Ad hh fs ((Bo l).take i)∧(∀ c,fs.blk=some c→t0<c)∧
  Mod (fun c=>c=h1.size∨t0≤c) h4 hh) ?_ ⟨0,⟨none,0,0⟩,rfl,rfl,by omega,r5,hb5,Own.nil,fun c hc=>by simp[Sl.blk] at hc,m5.weak fun c _ hc=> .inl hc⟩
 rintro K1 m _ h6 ⟨i,fs,rfl,rfl,hi,r6,hb6,o6,hf6,m6⟩ hK1
 dsimp only
 refine PIf.intro (fun hq=>?_) (fun hq=>?_)
 ·have hil:i<BP l:=by simp at hq;omega
  refine AZ.mk (s:=fs) (AC hb6 rfl) ?_
  have hx:=PI hil
  have hd:(Bo l).drop i=Gf l (8*i)::(Bo l).drop (i+1):=by
   have hlt:i<(Bo l).length:=by rw[Fx];exact hil
   rw[List.drop_eq_getElem_cons hlt]
   congr 1
   rw[List.getElem?_eq_getElem hlt] at hx
   exact Option.some.inj hx
  have htk:=Qm hx
  have hkm:=MR T.ok _ (List.mem_of_getElem? hx)
  generalize Gf l (8*i)=k at hx hd htk hkm
  have ed:FQ ((Bo l).drop i)++(CK l.length++Cb f)=Cb (bl k)++(FQ ((Bo l).drop (i+1))++(CK l.length++Cb f)):=by rw[hd];simp[FQ]
  have hdl:=Nb (ks:=(Bo l).drop i) fun k hk=>MR T.ok k (List.mem_of_mem_drop hk)
  rw[List.length_drop,Fx] at hdl
  have hrl:(FQ ((Bo l).drop i)++(CK l.length++Cb f)).length<1099511627776:=by simp only[List.length_append];omega
  rw[ed] at r6 hrl
  refine Nq r6 hrl fun h7 r7 m7=>⟨_,rfl,?_⟩
  rw[Q7 (by rw[Be];omega)] at r7 ⊢
  dsimp only at r7 ⊢
  rw[Gd]
  have hb7:=m7.blk hb6 (by omega)
  have o7:=o6.mod m7 (fun c hc h=>ht_ne o6 r6 (h▸hc))
  refine⟨AC hb7 rfl,?_⟩
  refine New.mk fun h8 _ hb8 x8 hs8=>⟨AC (AU x8 hb7) rfl,?_⟩
  have hown8:Own F9 Ad h8 ⟨some ⟨h7.size,0,none⟩,1,1⟩ [k]:=Own.lit (E:=F9) (l:= [k]) hb8 rfl (by simp[maxLen])
  refine Gx (s:=fs) (src:=⟨some ⟨h7.size,0,none⟩,1,1⟩) X9 (o7.ext x8) hown8.view (by simp only[List.length_take,List.length_singleton];omega) (by simp only[List.length_take,List.length_singleton,maxLen];omega) fun fs' h9 o9 m9 hn9 hp9=>?_
  have hlt7:t0<h7.size:=Ah hb7
  have hfs7: ∀c,fs.blk=some c→c<h7.size:=fun c hc=>o7.lt hc
  have hb9:=m9.blk (AU x8 hb7) (fun h=>by have:=hf6 _ h;omega)
  refine Store.mk hb9 (by simp) fun h10 hb10 m10 hs10=>?_
  have hf': ∀c,fs'.blk=some c→t0<c:=fun c hc=>by
   rcases hn9 c hc with h|h
   ·exact hf6 c h
   ·omega
  rw[AR (by omega)]
  refine hK1 (BP l-(i+1)) _ _ (by omega) ⟨i+1,fs',rfl,rfl,hil,?_,by simpa using hb10,?_,hf',?_⟩
  ·refine m10.blk (m9.blk (AU x8 r7) fun h=>?_) (by omega)
   exact ht_ne o7 r7 h
  ·rw [htk]
   exact o9.mod m10 (fun c hc h=>by have:=hf' c hc;omega)
  ·have a1:Mod (fun c=>c=h1.size∨t0≤c) h6 h7:=m7.weak fun c _ hc=> .inl hc
   exact(((m6.trans a1).trans x8.mod).trans (m9.weak fun c _ hc=> .inr (by have:=hf6 c hc;omega))).trans (m10.weak fun c _ hc=> .inr (by omega))
 ·have hil:i=BP l:=by simp at hq;omega
  subst hil
  clear hK1
  have e1:(Bo l).drop (BP l)= []:=List.drop_of_length_le (by rw[Fx];omega)
  have e2:(Bo l).take (BP l)=Bo l:=List.take_of_length_le (by rw[Fx];omega)
  rw[e1] at r6
  rw[e2] at o6
  have e8:IntKind.wrap .i64 (((BP l:Nat):Int)*(8:Int))=((BP l*8:Nat):Int):=by rw[wrap_i64 (by omega) (by omega)];omega
  rw[e8]
  have r6:KH h6 h1.size ⟨CK l.length++Cb f,false⟩:=r6
  have hl8:l.length≤BP l*8:=by unfold BP;omega
  refine JL (most:=BP l*8) r6 (by simp only[List.length_append];omega) (by omega) fun h11 r11 m11=>⟨_,rfl,?_⟩
  rw[IQ (by omega) hl8] at r11 ⊢
  dsimp only at r11 ⊢
  have hb11:=m11.blk hb6 (by omega)
  rw[Bg,Bg]
  refine Store.mk hb11 (by simp) fun h12 hb12 m12 hs12=>?_
  have r12:KH h12 h1.size ⟨Cb f++ [],false⟩:=by rw[List.append_nil];exact m12.blk r11 (by omega)
  refine Nq r12 (by show(Cb f++ []).length<_;rw[List.append_nil];omega) fun h13 r13 m13=>⟨_,rfl,?_⟩
  rw[Q7 (by omega)] at r13 ⊢
  dsimp only at r13 ⊢
  have hb13:=m13.blk hb12 (by omega)
  refine Store.mk hb13 (by simp) fun h14 hb14 m14 hs14=>?_
  have r14:=m14.blk r13 (show h1.size≠t0 by omega)
  have hb14:h14[t0]? =some (.cells #[.slice fs.p fs.len fs.cap,.slice (Ao sl.p sl.cap 0 1) (BP l) sl.cap,.string (AY f),.int .i64 (l.length:Int)] J7 (0,0)):=by simpa using hb14
  have o14:Own F9 Ad h14 fs (Bo l):=by
   have a1:=o6.mod m11 (fun c hc h=>ht_ne o6 r6 (h▸hc))
   have a2:=a1.mod m12 (fun c hc h=>by have:=hf6 c hc;omega)
   have a3:=a2.mod m13 (fun c hc h=>ht_ne a2 r12 (h▸hc))
   exact a3.mod m14 (fun c hc h=>by have:=hf6 c hc;omega)
  have m414:Mod (fun c=>c=h1.size∨t0≤c) h4 h14:=
   (((m6.trans (m11.weak fun c _ hc=> .inl hc)).trans (m12.weak fun c _ hc=> .inr (by omega))).trans (m13.weak fun c _ hc=> .inl hc)).trans (m14.weak fun c _ hc=> .inr (by omega))
  have hsl1:h1.size≤t0:=by omega
  have ext14:Ext h h14:=by
   refine⟨by have:=xx4.size;have:=m414.size;omega,fun c hc _=>?_⟩
   have:=x1.size
   have:=xx4.size
   exact(m414.get c (by omega) (by omega)).trans (xx4.get c hc (fun h=>h))
  have slk: ∀ {hh:Heap},Ext h14 hh→ ∀c,sl.blk=some c→hh[c]? =h1[c]? :=by
   intro hh x c hc
   have:=b1 c hc
   have h4s:=m414.size
   have:=x4.size
   have:=x3.size
   exact((x.get c (by omega) (fun h=>h)).trans (m414.get c (by omega) (by omega))).trans ((x4.get c (by omega) (fun h=>h)).trans (x3.get c (by omega) (fun h=>h)))
  have hsb: ∀c,Sl.blk ⟨Ao sl.p sl.cap 0 1,BP l,sl.cap⟩=some c→h.size≤c∧c<h1.size:=fun c hc=>b1 c (RO hc)
  refine Join.mk fun K2 hK2=>?_
  refine VE r14 ⟨_,rfl,PIf.no rfl ?_⟩
  have hfne:f≠ []:=fun e=>by rw[e] at hfl;simp at hfl
  refine AL.mk (AC hb14 rfl) (PIf.no ?_ ?_)
  ·rw [UT,IU,decide_eq_false_iff_not];exact hfne
  refine AL.mk (AC hb14 rfl) ?_
  refine hK2 _ _ (PIf.no (by rw[AQ];simp;omega) ?_)
  clear hK2
  refine Loop.rule (fun m x hh=> ∃i:Nat,x=(UM l (min (8*i) l.length),((min (8*i) l.length:Nat):Int),(i:Int),())∧m=BP l-i∧i≤BP l∧Ext h14 hh) ?_ ⟨0,by simp[UM],rfl,by omega,Mod.refl⟩
  rintro K3 m _ h16 ⟨i,rfl,rfl,hi,x16⟩ hK3
  dsimp only
  have hb16:=AU x16 hb14
  refine PIf.intro (fun hq=>?_) (fun hq=>?_)
  ·have hin:i<BP l:=by simp at hq;omega
   have hbl:=OA hin
   have hi8:8*i<l.length:=by unfold BP at hin;omega
   have hmin:min (8*i) l.length=8*i:=by omega
   rw[hmin]
   have hxb:((Ir l).map fun b=>AY (Aw b))[i]? =some (AY (Aw (BV l i))):=by simp[Ir,hin]
   refine(vbs (slk x16)).idx hxb fun a1 ha1 hc1=>?_
   rw[Int.toNat_natCast]
   refine AL.mk hc1.str ?_
   have hob: ∀p∈BV l i,JW p:=fun p hp=>T.ok p (Mh hp)
   have hbp:=Nj T.ok hin
   refine Zo hob (by omega) fun ps h17 op x17 bp=>⟨_,_,rfl,?_⟩
   have hb17:=AU x17 hb16
   have hpl:ps.len=(BV l i).length:=op.len
   refine Join.mk fun K4 hK4=>?_
   have h0:(BV l i)[0]? =some (BV l i)[0]:=List.getElem?_eq_getElem (by omega)
   have hk0:Gf l (8*i)=(BV l i)[0].key:=by
    have:=Nn (l:=l) (i:=i) (j:=0) (by omega)
    rw[h0] at this
    unfold Gf
    rw[Nat.add_zero] at this
    rw[← this]
   generalize (BV l i)[0]=p0 at h0 hk0
   have go:K4 (false,()) h17:=by
    refine hK4 _ _ (PIf.no rfl ?_)
    refine Loop.rule (fun m x hh=> ∃j:Nat,x=(UM l (8*i+j),((8*i+j:Nat):Int),(j:Int),())∧m=(BV l i).length-j∧j≤(BV l i).length∧Ext h17 hh) ?_ ⟨0,by simp,rfl,by omega,Mod.refl⟩
    rintro K5 m _ h19 ⟨j,rfl,rfl,hj,x19⟩ hK5
    dsimp only
    refine PIf.intro (fun hq=>?_) (fun hq=>?_)
    ·have hjl:j<(BV l i).length:=by rw[hpl] at hq;simp at hq;omega
     have hx:(BV l i)[j]? =some (BV l i)[j]:=List.getElem?_eq_getElem hjl
     have hmem:(BV l i)[j]∈l:=Mh (List.getElem_mem hjl)
     have hxl:l[8*i+j]? =some (BV l i)[j]:=by rw[← Nn (by omega)];exact hx
     generalize (BV l i)[j]=p at hx hmem hxl
     have hox:=T.ok p hmem
     refine(op.ext x19).view.idx hx fun a2 ha2 hc2=>?_
     obtain⟨c0,c1,c2⟩:=hc2.pair
     rw[Int.toNat_natCast]
     refine AL.mk c0 (AL.mk c1 (Ab.mk c2 ?_))
     refine New.pair fun b2 h23 hbe hb23 x23 hs23=>?_
     refine Join.mk fun K6 hK6=>?_
     refine AL.mk (AC hb23 rfl) ?_
     rw[ALG T.ok T.inc hxl]
     refine PIf.no rfl ?_
     have hbt:=AU x23 (AU x19 hb17)
     refine AL.mk (AC hbt rfl) ?_
     refine AL.mk (AC hb23 rfl) ?_
     have hkm:=hox.keyMost
     refine AKY (by omega) ⟨_,rfl,?_⟩
     rw[IU,T.has p hmem]
     refine hK6 _ _ (PIf.no rfl ?_)
     refine AL.mk (AC hb23 rfl) ?_
     rw[AR (by omega),AR (by omega)]
     refine hK5 ((BV l i).length-(j+1)) _ _ (by omega) ⟨j+1,?_,rfl,hjl,x19.trans x23⟩
     have ek:UM l (8*i+(j+1))=p.key:=by
      show Gf l (8*i+j)=p.key
      unfold Gf
      rw[hxl]
     rw[ek]
     rfl
    ·have hjl:j=(BV l i).length:=by rw[hpl] at hq;simp at hq;omega
     rw[AR (by omega)]
     have hend:min (8*(i+1)) l.length=8*i+j:=by
      rw[hjl]
      unfold BV
      rw[List.length_take,List.length_drop]
      omega
     refine hK3 (BP l-(i+1)) _ _ (by omega) ⟨i+1,?_,rfl,hin,(x16.trans x17).trans x19⟩
     rw[hend]
   have ends:Idx ps.p ps.len 0 fun a3=>AL h17 (a3.add ((0:Int).toNat*3)) fun t140=>AZ h17 (⟨t0,0,none⟩:Addr) fun t144=>Idx t144.p t144.len ((i:Nat):Int) fun a4=>AL h17 (a4.add (((i:Nat):Int).toNat*1)) fun t147=>K4 ((!sEq t140 t147),()) h17:=by
    obtain⟨a3,ha3,hc3⟩:=op.view.cells 0 p0 h0
    rw[Nat.zero_mul,add_zero] at hc3
    refine Idx.mk (k:=0) ha3 (by omega) ?_
    refine AL.mk (n:=p0.key) (by show hget h17 (a3.add 0)=_;rw[add_zero];exact hc3.pair.1) ?_
    refine AZ.mk (s:=fs) (AC hb17 rfl) ?_
    refine((o14.ext x16).ext x17).view.idx (PI hin) fun a4 ha4 hc4=>?_
    rw[Int.toNat_natCast]
    refine AL.mk hc4.str ?_
    rw[hk0,BZ,decide_eq_true rfl]
    exact go
   refine PIf.no rfl (PIf.no (by rw[hpl];simp;intro e;rw[e] at hbl;simp at hbl) (PIf.no (by rw[hpl];simp;omega) ?_))
   rw[AR (by omega)]
   refine PIf.intro (fun hq=>?_) (fun _=>ends)
   have:i+1<BP l:=by simp at hq;omega
   exact PIf.no (by rw[hpl,hbl.2.2 this];rfl) ends
  ·have hin:i=BP l:=by simp at hq;omega
   have hend:min (8*i) l.length=l.length:=by rw[hin];omega
   rw[hend]
   refine Aa.mk (AC hb16 rfl) (PIf.no (by simp) ?_)
   refine H h16 t0 (ext14.trans x16) ⟨⟨fs,⟨Ao sl.p sl.cap 0 1,BP l,sl.cap⟩,hb16,(o14.ext x16).view,vbs (slk x16),fun c hc=>?_,fun c hc=>?_⟩,?_⟩
   ·have h1:=(o14.ext x16).lt hc
    have:=hf6 c hc
    have:=x1.size
    omega
   ·have h1:=hsb c hc
    have:=m414.size
    have:=x16.size
    have:=x4.size
    have:=x3.size
    omega
   ·have:=Ah hb16
    have:=x1.size
    omega
end Go.Lf.G

/-
 The formulas of functions, printed by lift.py; each with the theorem that it is what the lift reckons of the program.
-/
set_option linter.unusedVariables false
set_option maxRecDepth 100000
namespace Go.Lf.G
def NR(A:Amb)(n:Int)(f:Value)(h:Heap)(R:Value→Heap→Prop):Prop:=
 Loop (fun K (s:Int×Int×Unit) h1=>
  PIf (decide (s.1<s.2.1)) (
   Join (fun(s1:Int×Int×Unit) h2=>
     K (s1.1,s1.2.1,()) h2) fun K1=>
    FE A P f #[.int .i64 (IntKind.wrap .i64 ((IntKind.wrap .u64 (IntKind.wrap .i64 (s.1+s.2.1))).fdiv ((2:Int)^(1:Nat))))] h1 fun v h3=> ∃t20:Bool,v= .bool t20∧(
    PIf (!t20) (
     K1 ((IntKind.wrap .i64 ((IntKind.wrap .i64 ((IntKind.wrap .u64 (IntKind.wrap .i64 (s.1+s.2.1))).fdiv ((2:Int)^(1:Nat))))+(1:Int))),s.2.1,()) h3) (
     K1 (s.1,(IntKind.wrap .i64 ((IntKind.wrap .u64 (IntKind.wrap .i64 (s.1+s.2.1))).fdiv ((2:Int)^(1:Nat)))),()) h3))) (
   R (.int .i64 s.1) h1)) (0,n,()) h
def AAQ:Ann:= .seq .none (.seq .none (.seq (.block (.loop [(5,.one (.int .i64)),(6,.one (.int .i64))] [1] (.seq (.seq .none (.cond .none .none)) (.blockJ [(5,.one (.int .i64)),(6,.one (.int .i64))] [1] (.seq .none (.seq .none (.cond .none .none))))))) (.seq .none .none)))
theorem AAO(A:Amb)(n:Int)(f:Value)(h:Heap)(R:Value→Heap→Prop):NR A n f h R=AX A P J6 AAQ [.int .i64 n,f] h R:=by kernel_rfl
theorem ZO {A:Amb}{n:Int}{f:Value}{h:Heap}{R:Value→Heap→Prop}(H:NR A n f h R):AA A P J6 #[.int .i64 n,f] h R:=
 AJ mixed (AAO A n f h R▸H)
def Da(A:Amb)(s:Sl)(v:Int)(h:Heap)(R:Value→Heap→Prop):Prop:=
 AA A P EO #[.slice s.p s.len s.cap,.int .i64 v] h fun v1 h1=> ∃t7:Int,v1= .int .i64 t7∧(
 R (.bool (decide (t7≥(0:Int)))) h1)
def Ju:Ann:= .seq .none (.seq .none .none)
theorem Js(A:Amb)(s:Sl)(v:Int)(h:Heap)(R:Value→Heap→Prop):Da A s v h R=AX A P Cf Ju [.slice s.p s.len s.cap,.int .i64 v] h R:=by kernel_rfl
theorem JV {A:Amb}{s:Sl}{v:Int}{h:Heap}{R:Value→Heap→Prop}(H:Da A s v h R):AA A P Cf #[.slice s.p s.len s.cap,.int .i64 v] h R:=
 AJ mixed (Js A s v h R▸H)
def EM(A:Amb)(s:Sl)(v:Int)(h:Heap)(R:Value→Heap→Prop):Prop:=
 Loop (fun K (s1:Int×Unit) h1=>
  PIf (decide (s1.1<((s.len:Nat):Int))) (
   Idx s.p s.len s1.1 fun a=>
   Aa .i64 h1 (a.add (s1.1.toNat*1)) fun t15=>
   PIf (v==t15) (
    R (.int .i64 s1.1) h1) (
    K ((IntKind.wrap .i64 (s1.1+(1:Int))),()) h1)) (
   R (.int .i64 (-1)) h1)) (0,()) h
def LH:Ann:= .seq .none (.seq (.seq .none (.block (.loop [(8,.one (.int .i64))] [0,1,7] (.seq .none (.seq (.cond .none .none) (.seq (.block (.seq .none (.seq .none (.cond (.seq .none .none) .none)))) .none)))))) (.seq .none .none))
theorem Kv(A:Amb)(s:Sl)(v:Int)(h:Heap)(R:Value→Heap→Prop):EM A s v h R=AX A P EO LH [.slice s.p s.len s.cap,.int .i64 v] h R:=by kernel_rfl
theorem Ka {A:Amb}{s:Sl}{v:Int}{h:Heap}{R:Value→Heap→Prop}(H:EM A s v h R):AA A P EO #[.slice s.p s.len s.cap,.int .i64 v] h R:=
 AJ mixed (Kv A s v h R▸H)
def EF(A:Amb)(s:Sl)(i:Int)(v:Sl)(h:Heap)(R:Value→Heap→Prop):Prop:=
 Chk ((0:Int)≤i∧i≤((s.len:Nat):Int))<|
 PIf (((v.len:Nat):Int)==(0:Int)) (
  R (.slice s.p s.len s.cap) h) (
  PIf (i==((s.len:Nat):Int)) (
   BK A P (Builtin.append_ #[Bv,Bv] Bv #[.slice s.p s.len s.cap,.slice v.p v.len v.cap]) h fun v1 h1=> ∃t25:Sl,v1= .slice t25.p t25.len t25.cap∧(
   R (.slice t25.p t25.len t25.cap) h1)) (
   PIf (decide ((IntKind.wrap .i64 (((s.len:Nat):Int)+((v.len:Nat):Int)))>((s.cap:Nat):Int))) (
    Chk ((0:Int)≤i∧i≤((s.cap:Nat):Int))<|
    BK A P (Builtin.append_ #[Bv,BL] Bv #[.slice (Ao s.p s.cap 0 1) (i.toNat-0) (s.cap-0),.int .i64 (IntKind.wrap .i64 ((IntKind.wrap .i64 (((s.len:Nat):Int)+((v.len:Nat):Int)))-i))]) h fun v2 h2=> ∃t40:Sl,v2= .slice t40.p t40.len t40.cap∧(
    Chk ((0:Int)≤i∧i≤((t40.len:Nat):Int))<|
    BK A P (Builtin.copy_ #[Bv,Bv] BL #[.slice (Ao t40.p t40.cap i.toNat 1) (t40.len-i.toNat) (t40.cap-i.toNat),.slice v.p v.len v.cap]) h2 fun v3 h3=> ∃t45:Int,v3= .int .i64 t45∧(
    Chk ((0:Int)≤(IntKind.wrap .i64 (i+((v.len:Nat):Int)))∧(IntKind.wrap .i64 (i+((v.len:Nat):Int)))≤((t40.len:Nat):Int))<|
    Chk ((0:Int)≤i∧i≤((s.len:Nat):Int))<|
    BK A P (Builtin.copy_ #[Bv,Bv] BL #[.slice (Ao t40.p t40.cap ((IntKind.wrap .i64 (i+((v.len:Nat):Int))).toNat) 1) (t40.len-((IntKind.wrap .i64 (i+((v.len:Nat):Int))).toNat)) (t40.cap-((IntKind.wrap .i64 (i+((v.len:Nat):Int))).toNat)),.slice (Ao s.p s.cap i.toNat 1) (s.len-i.toNat) (s.cap-i.toNat)]) h3 fun v4 h4=> ∃t54:Int,v4= .int .i64 t54∧(
    R (.slice t40.p t40.len t40.cap) h4)))) (
    Chk ((0:Int)≤(IntKind.wrap .i64 (((s.len:Nat):Int)+((v.len:Nat):Int)))∧(IntKind.wrap .i64 (((s.len:Nat):Int)+((v.len:Nat):Int)))≤((s.cap:Nat):Int))<|
    Chk ((0:Int)≤(IntKind.wrap .i64 (i+((v.len:Nat):Int)))∧(IntKind.wrap .i64 (i+((v.len:Nat):Int)))≤(((((IntKind.wrap .i64 (((s.len:Nat):Int)+((v.len:Nat):Int))).toNat)-0):Nat):Int))<|
    ALe A P FC #[.slice v.p v.len v.cap,.slice (Ao (Ao s.p s.cap 0 1) (s.cap-0) ((IntKind.wrap .i64 (i+((v.len:Nat):Int))).toNat) 1) ((((IntKind.wrap .i64 (((s.len:Nat):Int)+((v.len:Nat):Int))).toNat)-0)-((IntKind.wrap .i64 (i+((v.len:Nat):Int))).toNat)) ((s.cap-0)-((IntKind.wrap .i64 (i+((v.len:Nat):Int))).toNat))] h fun v5 h5=> ∃t67:Bool,v5= .bool t67∧(
    PIf (!t67) (
     Chk ((0:Int)≤(IntKind.wrap .i64 (i+((v.len:Nat):Int)))∧(IntKind.wrap .i64 (i+((v.len:Nat):Int)))≤(((((IntKind.wrap .i64 (((s.len:Nat):Int)+((v.len:Nat):Int))).toNat)-0):Nat):Int))<|
     Chk ((0:Int)≤i∧i≤(((((IntKind.wrap .i64 (((s.len:Nat):Int)+((v.len:Nat):Int))).toNat)-0):Nat):Int))<|
     BK A P (Builtin.copy_ #[Bv,Bv] BL #[.slice (Ao (Ao s.p s.cap 0 1) (s.cap-0) ((IntKind.wrap .i64 (i+((v.len:Nat):Int))).toNat) 1) ((((IntKind.wrap .i64 (((s.len:Nat):Int)+((v.len:Nat):Int))).toNat)-0)-((IntKind.wrap .i64 (i+((v.len:Nat):Int))).toNat)) ((s.cap-0)-((IntKind.wrap .i64 (i+((v.len:Nat):Int))).toNat)),.slice (Ao (Ao s.p s.cap 0 1) (s.cap-0) i.toNat 1) ((((IntKind.wrap .i64 (((s.len:Nat):Int)+((v.len:Nat):Int))).toNat)-0)-i.toNat) ((s.cap-0)-i.toNat)]) h5 fun v6 h6=> ∃t77:Int,v6= .int .i64 t77∧(
     Chk ((0:Int)≤i∧i≤(((((IntKind.wrap .i64 (((s.len:Nat):Int)+((v.len:Nat):Int))).toNat)-0):Nat):Int))<|
     BK A P (Builtin.copy_ #[Bv,Bv] BL #[.slice (Ao (Ao s.p s.cap 0 1) (s.cap-0) i.toNat 1) ((((IntKind.wrap .i64 (((s.len:Nat):Int)+((v.len:Nat):Int))).toNat)-0)-i.toNat) ((s.cap-0)-i.toNat),.slice v.p v.len v.cap]) h6 fun v7 h7=> ∃t82:Int,v7= .int .i64 t82∧(
     R (.slice (Ao s.p s.cap 0 1) (((IntKind.wrap .i64 (((s.len:Nat):Int)+((v.len:Nat):Int))).toNat)-0) (s.cap-0)) h7))) (
     Chk ((0:Int)≤((s.len:Nat):Int)∧((s.len:Nat):Int)≤(((((IntKind.wrap .i64 (((s.len:Nat):Int)+((v.len:Nat):Int))).toNat)-0):Nat):Int))<|
     BK A P (Builtin.copy_ #[Bv,Bv] BL #[.slice (Ao (Ao s.p s.cap 0 1) (s.cap-0) (((s.len:Nat):Int).toNat) 1) ((((IntKind.wrap .i64 (((s.len:Nat):Int)+((v.len:Nat):Int))).toNat)-0)-(((s.len:Nat):Int).toNat)) ((s.cap-0)-(((s.len:Nat):Int).toNat)),.slice v.p v.len v.cap]) h5 fun v8 h8=> ∃t88:Int,v8= .int .i64 t88∧(
     Chk ((0:Int)≤i∧i≤(((((IntKind.wrap .i64 (((s.len:Nat):Int)+((v.len:Nat):Int))).toNat)-0):Nat):Int))<|
     AA A P GX #[.slice (Ao (Ao s.p s.cap 0 1) (s.cap-0) i.toNat 1) ((((IntKind.wrap .i64 (((s.len:Nat):Int)+((v.len:Nat):Int))).toNat)-0)-i.toNat) ((s.cap-0)-i.toNat),.int .i64 ((v.len:Nat):Int)] h8 fun v9 h9=>v9= .tuple #[]∧(
     R (.slice (Ao s.p s.cap 0 1) (((IntKind.wrap .i64 (((s.len:Nat):Int)+((v.len:Nat):Int))).toNat)-0) (s.cap-0)) h9)))))))
def KQ:Ann:= .seq .none (.seq .none (.seq .none (.seq (.seq .none (.cond (.seq .none .none) .none)) (.seq .none (.seq (.seq .none (.cond (.seq .none .none) .none)) (.seq (.seq .none (.cond (.seq .none (.seq .none (.seq .none (.seq .none .none)))) .none)) (.seq .none (.seq (.seq .none (.cond (.seq .none (.seq .none (.seq .none .none))) .none)) (.seq .none (.seq .none (.seq .none .none)))))))))))
theorem KN(A:Amb)(s:Sl)(i:Int)(v:Sl)(h:Heap)(R:Value→Heap→Prop):EF A s i v h R=AX A P Bq KQ [.slice s.p s.len s.cap,.int .i64 i,.slice v.p v.len v.cap] h R:=by kernel_rfl
theorem KF {A:Amb}{s:Sl}{i:Int}{v:Sl}{h:Heap}{R:Value→Heap→Prop}(H:EF A s i v h R):AA A P Bq #[.slice s.p s.len s.cap,.int .i64 i,.slice v.p v.len v.cap] h R:=
 AJ mixed (KN A s i v h R▸H)
end Go.Lf.G

/-
 Contracts of the functions over lists of pairs.
-/
set_option maxRecDepth 100000
namespace Go.Lf.G.M
open Go Go.Lf Go.Lf.G
theorem AMo:P.underlying AO=some (.struct (P.fieldsOf AO)):=by kernel_rfl
theorem AKz:(P.stoodInHeld AO=false):=by kernel_rfl
theorem ALc:(P.eqGuardType P.depth AO=false):=by kernel_rfl
theorem ALR : (P.fieldsOf AO).toList = [⟨ "Key", Ad, 0, false, "", "", 0⟩, ⟨ "Val", Ad, 1, false, "", "", 16⟩, ⟨ "Gone", Je, 2, false, "", "", 32⟩] := by kernel_rfl
theorem JY:P.underlying Ad=some .string:=by kernel_rfl
theorem Qv:P.underlying Je=some .bool:=by kernel_rfl
theorem ADX:P.plainKey Ad=true:=by kernel_rfl
theorem AHh:P.plainKey Je=true:=by kernel_rfl
theorem toList_inj {a b:ByteArray}:(a.toList==b.toList)=decide (a=b):=by
 rw[ByteArray.toList_eq,ByteArray.toList_eq]
 rw[Bool.eq_iff_iff]
 simp[ByteArray.ext_iff,←Array.toList_inj]
theorem AK1 {A:Amb}{o1 o2:Operand}{x y:Pr}{h:Heap}{K:Value→Heap→Prop}(H:K (.bool (!decide (x=y))) h):
  BK A P (do eqGuard .neq AO o1 o2 (.agg #[.string x.key,.string x.val,.bool x.gone]) (.agg #[.string y.key,.string y.val,.bool y.gone]);binOp .neq AO (.agg #[.string x.key,.string x.val,.bool x.gone]) (.agg #[.string y.key,.string y.val,.bool y.gone])) h K:=by
 intro n
 refine⟨_,h,n,?_,H⟩
 have e:decide (x=y)=(decide (x.key=y.key)&&(decide (x.val=y.val)&&decide (x.gone=y.gone))):=by
  cases x;cases y;simp
 have h1: ∀w,(part Ad #[.string x.key,.string x.val,.bool x.gone] 0).run P w= .ok (.string x.key) w:=fun w=>run_part_plain w ADX rfl
 have h2: ∀w,(part Ad #[.string x.key,.string x.val,.bool x.gone] 1).run P w= .ok (.string x.val) w:=fun w=>run_part_plain w ADX rfl
 have h3: ∀w,(part Je #[.string x.key,.string x.val,.bool x.gone] 2).run P w= .ok (.bool x.gone) w:=fun w=>run_part_plain w AHh rfl
 have h4: ∀w,(part Ad #[.string y.key,.string y.val,.bool y.gone] 0).run P w= .ok (.string y.key) w:=fun w=>run_part_plain w ADX rfl
 have h5: ∀w,(part Ad #[.string y.key,.string y.val,.bool y.gone] 1).run P w= .ok (.string y.val) w:=fun w=>run_part_plain w ADX rfl
 have h6: ∀w,(part Je #[.string y.key,.string y.val,.bool y.gone] 2).run P w= .ok (.bool y.gone) w:=fun w=>run_part_plain w AHh rfl
 rw[Sem.run_bind,run_eqGuard_agg _ _ _ _ _ _ _ ALc,Result.andThen_ok,run_neq_struct,run_equalIn_agg _ _ _ _ _ AMo AKz,ALR]
 simp only[Op.eqFields,Sem.run_bind,Sem.run_ite,h1,h2,h3,h4,h5,h6,Result.andThen_ok,run_equalIn_string _ _ _ _ _ JY,run_equalIn_bool' _ _ _ _ _ Qv]
 rw[e,toList_inj,toList_inj]
 by_cases k1:x.key=y.key<;>by_cases k2:x.val=y.val<;>by_cases k3:x.gone=y.gone<;>simp[k1,k2,k3,Result.andThen]
def Ap(x:Pr):Int:=
 if(decide (x.key=⟨#[]⟩)||(x.gone&& !decide (x.val=⟨#[]⟩))) then 1 else if(decide (x.key.size>64)||decide (x.val.size>8192)) then 2 else 0
theorem BZ {a b:ByteArray}:sEq a b=decide (a=b):=toList_inj
def AAb(key:ByteArray)(l:List Pr):List Pr:=l.takeWhile fun q=>sLt q.key key
def atK(key:ByteArray)(l:List Pr):Nat:=(AAb key l).length
def Bc(key:ByteArray)(l:List Pr):Bool:=match l[atK key l]? with|some q=>decide (q.key=key)|none=>false
theorem Tj(key:ByteArray)(l:List Pr):atK key l≤l.length:=(List.takeWhile_sublist _).length_le
theorem MJ {α:Type}{p:α→Bool}: ∀ {l:List α} {i:Nat},i≤(l.takeWhile p).length→(∀ x,l[i]? =some x→p x=true→i<(l.takeWhile p).length)∧(∀ x,l[i]? =some x→p x=false→i=(l.takeWhile p).length)∧(l[i]? =none→i=(l.takeWhile p).length)
 | [],i,h=>by simp at h;subst h;simp
 |y::l,0,h=>by
  refine⟨fun x hx hp=>?_,fun x hx hp=>?_,fun h=>by simp at h⟩
  ·simp at hx;subst hx;simp[hp]
  ·simp at hx;subst hx;simp[hp]
 |y::l,i+1,h=>by
  rw[List.takeWhile_cons] at h ⊢
  split at h
  ·rename_i hy
   have ih:=MJ (p:=p) (l:=l) (i:=i) (by simpa using h)
   simp only[hy,if_true,List.length_cons]
   refine⟨fun x hx hp=>?_,fun x hx hp=>?_,fun hn=>?_⟩
   ·have:=ih.1 x (by simpa using hx) hp;omega
   ·have:=ih.2.1 x (by simpa using hx) hp;omega
   ·have:=ih.2.2 (by simpa using hn);omega
  ·simp at h
end Go.Lf.G.M

/-
 Contracts: the document's table; lists as sequences; sequences as lists.
-/
set_option maxRecDepth 100000
namespace Go.Lf.G.M
open Go Go.Lf Go.Lf.G
theorem JE:TN P AV AO Ak.w 40=true:=by kernel_rfl
theorem AJX:TN P Hl AV SlE.w 24=true:=by kernel_rfl
theorem AL1:TN P Am BN AGZ.w 8=true:=by kernel_rfl
def Tx(x:Pr)(l:List Pr):List Pr:=l.take (atK x.key l)++ [x]++l.drop (if Bc x.key l then atK x.key l+1 else atK x.key l)
def DR(x:Pr)(l:List Pr):List Pr:=if Ap x≠0 then l else Tx x l
theorem AKp {key:ByteArray}{l:List Pr}(h:Bc key l=true):atK key l<l.length:=by
 unfold Bc at h
 split at h
 ·rename_i hq;exact(List.getElem?_eq_some_iff.1 hq).1
 ·cases h
theorem AJp(x:Pr)(l:List Pr):(Tx x l).length≤l.length+1:=by
 unfold Tx
 have:=Tj x.key l
 simp;split<;>omega
theorem AJn(x:Pr)(l:List Pr):(DR x l).length≤l.length+1:=by
 unfold DR;split
 ·omega
 ·exact AJp x l
theorem AML {y:Value}{c:Value}:(#[]++ #[y]++ #[c]:Array Value)= #[y,c]:=rfl
theorem ADN {A:Amb}{h h0:Heap}{fv:Value}{S:Nat→Prop}{l:List Pr}{R:Value→Heap→Prop}(it:DF A P fv S h0 l)(hS: ∀b,S b→h[b]? =h0[b]?)(hl:l.length≤1099511627776)
  (H: ∀s h',Own Ak AO h' s l→(∀ c,s.blk=some c→h.size≤c)→Ext h h'→R (.slice s.p s.len s.cap) h'):AA A P BX #[.slice none 0 0,fv] h R:=by
 refine Fq (s:=⟨none,0,0⟩) ?_
 unfold CR
 refine New.mk fun h1 _ hb hx hsz=>?_
 have hSlt: ∀b,S b→b<h.size:=fun b hb=>by
  have:=hS b hb
  rw[Array.getElem?_eq_getElem (it.1 b hb)] at this
  exact Ah this
 have hmd: ∀h':Heap,Mod (fun c=>c=h.size) h1 h'→Ext h h':=fun h' m=>hx.then (m.weak fun c _ hc=> .inr (by omega))
 refine Sg it (fun b hb=>(hx.get b (hSlt b hb) (by simp)).trans (hS b hb))
  (fun i c O hh=>c=none∧ ∃s:Sl,hh[h.size]? =some (.cells #[.slice s.p s.len s.cap] AV (0,0))∧Own Ak AO hh s (l.take i)∧(∀ b,O b↔(b=h.size∨s.blk=some b))∧(∀ b,s.blk=some b→b<hh.size∧h.size<b))
  (fun b=>b=h.size) (fun b hb e=>by have:=hSlt b hb;omega) ?_ ?_ ?_ ?_ ?_ ?_
 ·rintro i c O hh ⟨_,s,h2,o,hO,hlt⟩ b hb
  rcases(hO b).1 hb with rfl|h3
  ·exact Ah h2
  ·exact(hlt b h3).1
 ·rintro i c O hh h' ⟨e,s,h2,o,hO,hlt⟩ m
  refine⟨e,s,m.blk h2 (fun hn=>hn.1 ((hO _).2 (.inl rfl))),o.mod m (fun c hc hn=>hn.1 ((hO _).2 (.inr hc))),hO,fun b hb=>⟨?_,(hlt b hb).2⟩⟩
  have:=m.size;have:=(hlt b hb).1;omega
 ·exact⟨rfl,⟨none,0,0⟩,hb,Own.nil,fun b=>by simp[Sl.blk],fun b hb=>by simp[Sl.blk] at hb⟩
 ·rintro i x O1 hh rec kn' kj' hi ⟨_,s,h2,o,hO,hlt⟩ nO hsz1 hrec hst hkn hkj
  have hil:=(List.getElem?_eq_some_iff.1 hi).1
  refine New.pair fun b1 h7 eb hb1 x7 hs7=>?_
  refine⟨rec,x7.blk hrec (by simp),hst,?_⟩
  generalize hg:h7.setIfInBounds (h1.size+1) (.loop {rec with state:= .busy})=h8
  have m8:Mod (fun b=>b=h1.size+1) h7 h8:=hg▸Mod.setObj rfl
  have hl8:h8[h1.size+1]? =some (.loop {rec with state:= .busy}):=by rw[← hg];exact Bt (by omega)
  have hlt1:=Ah h2
  have hb8:=m8.blk hb1 (by omega)
  have h28:=m8.blk (x7.blk h2 (by simp)) (by omega)
  have o8:=(o.ext x7).mod m8 (fun c hc e=>nO ((hO _).2 (.inr (e▸hc))))
  refine AZ.mk (AC h28 rfl) (AL.mk (AC hb8 rfl) (AL.mk (AB hb8 rfl) (Ab.mk (AB hb8 rfl) ?_)))
  have hlen:(l.take i).length=i:=by simp;omega
  refine New.append1 (E:=Ak) (x:=x) rfl JE o8 (by rw[hlen];omega) (by rw[hlen];simp[maxLen];omega) fun s4 h9 o9 m9 bl9 _=>?_
  have hs8:=m8.size
  have hbl:s.blk≠some h.size:=fun e=>by have:=hlt _ e;omega
  refine Store.mk (m9.blk h28 hbl) (by simp) fun h10 hb10 m10 hs10=>hkn h10 ?_
  refine⟨fun b=>b=h.size∨s4.blk=some b,?_,?_,?_,rfl,s4,by simpa using hb10,?_,fun _=>Iff.rfl,?_⟩
  ·rintro b (rfl|hb)
   ·exact .inl ((hO _).2 (.inl rfl))
   ·rcases bl9 b hb with h3|h3
    ·exact .inl ((hO _).2 (.inr h3))
    ·exact .inr (by omega)
  ·have e1:Mod (fun b=>O1 b∨b=h1.size+1) hh h8:=x7.mod.trans (m8.weak fun b _ hb=> .inr hb)
   have e2:Mod (fun b=>O1 b∨b=h1.size+1) hh h9:=e1.trans (m9.weak fun b _ hb=> .inl ((hO _).2 (.inr hb)))
   exact e2.trans (m10.weak fun b _ hb=> .inl ((hO _).2 (.inl hb)))
  ·refine m10.blk (m9.blk hl8 (fun e=>nO ((hO _).2 (.inr e)))) (by omega)
  ·have o10:=o9.mod m10 (fun c hc e=>by
    rcases bl9 c hc with h3|h3
    ·have:=hlt _ h3;omega
    ·omega)
   rw[List.take_add_one,hi]
   exact o10
  ·intro b hb
   have:=m9.size
   have hbs:b<h9.size:=by
    rcases o9.row with⟨rfl,_⟩|⟨g,cur,hp,hgg,_⟩
    ·simp [Sl.blk] at hb
    ·simp [Sl.blk,hp] at hb;subst hb;exact Ah hgg
   refine⟨by omega,?_⟩
   rcases bl9 b hb with h3|h3
   ·exact(hlt _ h3).2
   ·omega
 ·rintro O' h' ⟨_,s,h2,o,hO,hlt⟩ md _ hsub hdf
  have hsz':=md.size
  refine AZ.mk (AC h2 rfl) ⟨hdf,?_⟩
  rw[List.take_length] at o
  have hne:s.blk≠some h1.size:=fun e=>by
   rcases o.row with⟨rfl,_⟩|⟨g,cur,hp,hgg,_⟩
   ·simp [Sl.blk] at e
   ·simp [Sl.blk,hp] at e;rw[e,hdf] at hgg;cases hgg
  refine H s _ (o.mod (Mod.setObj (S:=fun c=>c=h1.size) rfl) fun c hc e=>hne (e▸hc)) (fun c hc=>by have:=hlt _ hc;omega) ?_
  exact(hmd h' md).then (Mod.setObj (.inr (by omega)))
 ·rintro i j O' h' ⟨e,_⟩
  cases e
theorem TR {A:Amb}{h h0:Heap}{fv:Value}{S:Nat→Prop}{l:List Pr}{R:Value→Heap→Prop}(it:DF A P fv S h0 l)(hS: ∀b,S b→h[b]? =h0[b]?)(hl:l.length≤1099511627776)
  (H: ∀s h',Own Ak AO h' s l→(∀ c,s.blk=some c→h.size≤c)→Ext h h'→R (.slice s.p s.len s.cap) h'):AA A P Br #[fv] h R:=by
 refine J8 ?_
 unfold EA
 exact ADN it hS hl fun s h' o hb hx=>⟨s,rfl,H s h' o hb hx⟩
end Go.Lf.G.M

/-
 Contracts: what lives; the first ones.
-/
set_option maxRecDepth 100000
namespace Go.Lf.G.M
open Go Go.Lf Go.Lf.G
def Ba(l:List Pr):List Pr:=l.filter fun x=> !x.gone
theorem VS {α:Type}{p:α→Bool}: ∀ {l:List α} {i:Nat} {x:α},l[i]? =some x→p x=true→(l.filter p)[((l.take i).filter p).length]? =some x
 | [],i,x,h,_=>by simp at h
 |y::l,0,x,h,hp=>by simp at h;subst h;simp[hp]
 |y::l,i+1,x,h,hp=>by
  have ih:=VS (p:=p) (l:=l) (i:=i) (by simpa using h) hp
  rw[List.take_succ_cons,List.filter_cons,List.filter_cons]
  split
  ·simpa using ih
  ·exact ih
theorem AAm {α:Type}{p:α→Bool}(l:List α)(i:Nat):((l.take i).filter p).length≤(l.filter p).length:=((List.take_sublist i l).filter p).length_le
theorem AJw {A:Amb}{h0:Heap}{b:Nat}{T:TypeId}{fr:Nat×Nat}{fv:Value}{S:Nat→Prop}{l:List Pr}(hb:h0[b]? =some (.cells #[fv] T fr))(it:(fv= .nilFunc∧l= []∧ ∀c,¬S c)∨DF A P fv S h0 l):
  DF A P (.func (.func JI) #[] #[.pointer (some ⟨b,0,none⟩)]) (fun c=>S c∨c=b) h0 (Ba l):=by
 have hbl:=Ah hb
 refine⟨?_,_,_,rfl,fun yv=>by kernel_rfl,fun h hS yv J O hy hd hB hY hJ=>?_⟩
 ·rintro c (hc|rfl)
  ·rcases it with it|it
   ·exact absurd hc (it.2.2 c)
   ·exact it.1 c hc
  ·exact hbl
 rw[AML]
 refine XP ?_
 unfold MM
 refine T9.mk hy (New.mk fun h1 _ hb1 hx hsz=>?_)
 have hbh:h1[b]? =some (.cells #[fv] T fr):=by
  have e:=(hS b (.inr rfl)).trans hb
  exact hx.blk e (by simp)
 refine PP.mk (AC hbh rfl) ?_
 rcases it with⟨rfl,rfl,_⟩|it
 ·refine⟨trivial,PIf.yes rfl ?_⟩
  exact⟨rfl,0,true,O,hx.mod,fun b hb=> .inl hb,hB.stable _ _ _ _ _ hJ (hx.weak fun _ _ h=>h.elim),fun _=>rfl,by simp⟩
 ·refine⟨it.one.2.1,PIf.no it.one.2.2 ?_⟩
  refine PP.mk (AC hbh rfl) ?_
  have hOlt:=hB.wf _ _ _ _ hJ
  have hSlt: ∀b,S b→b<h.size:=fun b hb=>by
   have:=hS b (.inl hb)
   rw[Array.getElem?_eq_getElem (it.1 b hb)] at this
   exact Ah this
  have hJ1:=hB.stable _ _ _ _ _ hJ (hx.weak (S':=fun b=>¬O b∧h.size≤b) fun _ _ h=>h.elim)
  refine Sg it (fun c hc=>(hx.get c (hSlt c hc) (by simp)).trans (hS c (.inl hc)))
   (fun i c O1 hh=>hh[h.size]? =some (.cells #[yv] KJ (0,0))∧ ¬O1 h.size∧match c with
    |none=>J (Ba (l.take i)).length true O1 hh
    |some j=>j=none∧ ∃k,k≤(Ba l).length∧J k false O1 hh)
   O (fun c hc=>hd c (.inl hc)) ?_ ?_ ?_ ?_ ?_ ?_
  ·rintro i c O1 hh ⟨_,_,hm⟩
   cases c
   ·exact hB.wf _ _ _ _ hm
   ·obtain⟨_,k,_,hj⟩:=hm
    exact hB.wf _ _ _ _ hj
  ·rintro i c O1 hh h' ⟨e,hn,hm⟩ m
   refine⟨m.blk e (fun h=>by omega),hn,?_⟩
   have m':Mod (fun b=>¬O1 b∧h.size≤b) hh h':=m.weak fun b _ hb=>⟨hb.1,by omega⟩
   cases c
   ·exact hB.stable _ _ _ _ _ hm m'
   ·obtain⟨hj,k,hk,hj2⟩:=hm
    exact⟨hj,k,hk,hB.stable _ _ _ _ _ hj2 m'⟩
  ·exact⟨hb1,fun h=>by have:=hOlt _ h;omega,hJ1⟩
  ·rintro i x O1 hh rec kn' kj' hi ⟨e,hn,hm⟩ nO hsz1 hrec hst hkn hkj
   refine New.pair fun b1 h7 eb hb7 x7 hs7=>?_
   refine⟨rec,x7.blk hrec (by simp),hst,?_⟩
   generalize hg:h7.setIfInBounds (h1.size+1) (.loop {rec with state:= .busy})=h8
   have m8:Mod (fun b=>b=h1.size+1) h7 h8:=hg▸Mod.setObj rfl
   have hl8:h8[h1.size+1]? =some (.loop {rec with state:= .busy}):=by rw[← hg];exact Bt (by omega)
   have hb8:=m8.blk hb7 (by omega)
   have e8:=m8.blk (x7.blk e (by simp)) (by omega)
   have m08:Mod (fun b=>b=h1.size+1) hh h8:=(Ext.mod x7).trans m8
   have hj8:J (Ba (l.take i)).length true O1 h8:=hB.stable _ _ _ _ _ hm (m08.weak fun b _ hb=>by subst hb;exact⟨nO,by omega⟩)
   have htk:Ba (l.take (i+1))=Ba (l.take i)++Ba [x]:=by
    rw[List.take_add_one,hi];simp[Ba]
   refine Join.mk fun K hK=>?_
   refine Ab.mk (AB hb8 rfl) ?_
   refine PIf.intro (fun hq=>?_) (fun hq=>?_)
   ·have hq:(!x.gone)=true:=hq
    refine PP.mk (AC e8 rfl) ?_
    refine AL.mk (AC hb8 rfl) (AL.mk (AB hb8 rfl) (Ab.mk (AB hb8 rfl) ?_))
    refine FE.mono (hY _ _ O1 h8 (VS (p:=fun x:Pr=> !x.gone) hi hq) hj8) ?_
    rintro _ h9 ⟨g,O2,rfl,hsub2,m9,hj9⟩
    refine⟨g,rfl,hK _ _ ?_⟩
    have hle:=AAm (p:=fun x:Pr=> !x.gone) l (i+1)
    have hlen:(Ba (l.take (i+1))).length=(Ba (l.take i)).length+1:=by
     rw[htk];simp only[Ba,List.length_append];simp[hq]
    have e9:=m9.blk e8 hn
    have hn9: ¬O2 h.size:=fun hc=>(hsub2 _ hc).elim hn fun h=>by have:=m8.size;omega
    have mr:Mod (fun b=>O1 b∨b=h1.size+1) hh h9:=(m08.weak fun b _ hb=> .inr hb).trans (m9.weak fun b _ hb=> .inl hb)
    have hs2: ∀b,O2 b→O1 b∨hh.size≤b:=fun b hb=>(hsub2 b hb).elim .inl fun h=> .inr (by have:=m8.size;omega)
    refine PIf.intro (fun hg=>hkj none h9 ?_) (fun hg=>hkn h9 ?_)
    ·have hg:g=false:=by simpa using hg
     subst hg
     exact⟨O2,hs2,mr,m9.blk hl8 nO,e9,hn9,rfl,_,by have:=hlen;unfold Ba at *;omega,hj9⟩
    ·have hg:g=true:=by simpa using hg
     subst hg
     exact⟨O2,hs2,mr,m9.blk hl8 nO,e9,hn9,by show J _ _ _ _;rw[hlen];exact hj9⟩
   ·have hq:(!x.gone)=false:=hq
    refine hK _ _ (PIf.no rfl (hkn h8 ?_))
    refine⟨O1,fun b hb=> .inl hb,m08.weak fun b _ hb=> .inr hb,hl8,e8,hn,?_⟩
    show J _ _ _ _
    have:Ba [x]= []:=by simp at hq;simp[Ba,hq]
    rw[htk,this,List.append_nil]
    exact hj8
  ·rintro O' h' ⟨e,hn,hm⟩ md n1 hsub hdf
   refine⟨hdf,rfl,(Ba l).length,true,O',?_,?_,?_,fun _=>rfl,Nat.le_refl _⟩
   ·exact(hx.mod.trans md).then (Mod.setObj (.inr (by omega)))
   ·intro b hb;exact(hsub b hb).elim .inl fun h=> .inr (by omega)
   ·rw [List.take_length] at hm
    exact hB.stable _ _ _ _ _ hm (Mod.setObj ⟨n1,by omega⟩)
  ·rintro i j O' h' ⟨e,hn,rfl,k,hk,hm⟩ hi md n1 hsub hdf
   refine⟨hdf,rfl,k,false,O',?_,?_,?_,(fun h=>by cases h),hk⟩
   ·exact(hx.mod.trans md).then (Mod.setObj (.inr (by omega)))
   ·intro b hb;exact(hsub b hb).elim .inl fun h=> .inr (by omega)
   ·exact hB.stable _ _ _ _ _ hm (Mod.setObj ⟨n1,by omega⟩)
theorem AHp {A:Amb}{h:Heap}{fv:Value}{S:Nat→Prop}{l:List Pr}{R:Value→Heap→Prop}(it:(fv= .nilFunc∧l= []∧ ∀c,¬S c)∨DF A P fv S h l)
  (H: ∀fv' h',DF A P fv' (fun c=>S c∨c=h.size) h' (Ba l)→Ext h h'→h'.size=h.size+1→R fv' h'):AA A P I9 #[fv] h R:=by
 refine AA3 ?_
 unfold Oz
 refine T9.mk ?_ (New.mk fun h1 _ hb1 hx hsz=>?_)
 ·rcases it with it|it
  ·rw [it.1];rfl
  ·exact it.one.1
 ·refine H _ h1 (AJw hb1 ?_) hx hsz
  rcases it with it|it
  ·exact .inl it
  ·exact .inr (it.weak (fun _=>id) (fun b hb=>by have:=it.1 b hb;omega) (fun b hb=>hx.get b (it.1 b hb) (by simp)))
def NP(vto:ByteArray)(x:Pr):Bool:=decide (vto=⟨#[]⟩)||sLt x.key vto
def Me(vto:ByteArray)(most:Int)(l:List Pr):List Pr:=(l.takeWhile (NP vto)).take most.toNat
theorem Xb {α:Type}{p:α→Bool}: ∀ {l:List α} {i:Nat},i≤(l.takeWhile p).length→(l.takeWhile p).take i=l.take i
 | [],i,_=>by simp
 |y::l,0,_=>by simp
 |y::l,i+1,h=>by
  rw[List.takeWhile_cons] at h ⊢
  split at h
  ·rename_i hy
   simp only[hy,if_true,List.take_succ_cons]
   rw[Xb (by simpa using h)]
  ·simp at h
end Go.Lf.G.M

